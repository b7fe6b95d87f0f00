/- Plain laws of the civil calendar: each day has a date; the next day; 400 years; weeks; months undone. -/
import Derived.Test.YtainibnjpkbfpaaCivM
namespace Go.Proofs.Ytainibnjpkbfpaa.M
set_option linter.unusedVariables false
set_option linter.unusedSimpArgs false

theorem find (f : Int → Int) (x a : Int) (n : Nat) : f a ≤ x → x < f (a + n) → ∃ k, a ≤ k ∧ k < a + n ∧ f k ≤ x ∧ x < f (k + 1) := by
  induction n with
  | zero => intro h1 h2; simp at h2; omega
  | succ n ih =>
    intro h1 h2
    by_cases h : x < f (a + n)
    · obtain ⟨k, k1, k2, k3, k4⟩ := ih h1 h
      exact ⟨k, k1, by omega, k3, k4⟩
    · exact ⟨a + n, by omega, by omega, by omega, by rw [show a + (n : Int) + 1 = a + ((n + 1 : Nat) : Int) by omega]; exact h2⟩

/-- Each day has a date. -/
theorem date_ex {x : Int} (h : -719162 ≤ x ∧ x < 2932897) : ∃ y m d, vld y m d = true ∧ cnt y m d = x ∧ dtx x = ((y, m, d), 0) := by
  have hi := ins_t h
  have e1 := cnt_11 1; have e2 := cnt_11 10000
  obtain ⟨y, y1, y2, y3, y4⟩ := find (fun y => cnt y 1 1) x 1 9999 (by show cnt 1 1 1 ≤ x; omega) (by show x < cnt (1 + (9999 : Nat)) 1 1; rw [show (1 : Int) + (9999 : Nat) = 10000 by rfl]; omega)
  have ey := cnt_year (y := y) (by omega) 1
  have y4' : x < cnt y 12 1 + 31 := by rw [← ey]; exact y4
  obtain ⟨m, m1, m2, m3, m4⟩ := find (fun m => if m ≤ 12 then cnt y m 1 else cnt y 12 1 + 31) x 1 12 (by simpa using y3) (by simpa using y4')
  have m12 : m ≤ 12 := by omega
  simp only [if_pos m12] at m3
  have m4' : m < 12 → x < cnt y (m + 1) 1 := fun c => by simpa only [if_pos (show m + 1 ≤ 12 by omega)] using m4
  have hd := dtx_of hi ⟨by omega, by omega⟩ ⟨m1, m12⟩ m3 m4' y4
  have hv : vld y m (x - cnt y m 1 + 1) = true := by
    refine vld_t ⟨by omega, ?_⟩
    rcases Int.lt_or_le m 12 with c | c
    · have := cnt_succ (y := y) (m := m) (by omega) (by omega) 1
      have := m4' c
      omega
    · obtain rfl : m = 12 := by omega
      have := len_of (y := y) (m := 12) (by omega) (by omega) (by omega) (by omega)
      simp at this
      omega
  exact ⟨y, m, _, hv, by rw [cnt_d]; have := cnt_d y m 1; omega, hd⟩

/-- The next day: within the month, the next month, or the next year. -/
theorem next_day {y m d x : Int} (hv : vld y m d = true) (hx : cnt y m d = x) (h : x < 2932896) :
    (d + 1 ≤ len y m ∧ vld y m (d + 1) = true ∧ cnt y m (d + 1) = x + 1) ∨
    (len y m < d + 1 ∧ m < 12 ∧ vld y (m + 1) 1 = true ∧ cnt y (m + 1) 1 = x + 1) ∨
    (len y m < d + 1 ∧ m = 12 ∧ vld (y + 1) 1 1 = true ∧ cnt (y + 1) 1 1 = x + 1) := by
  obtain ⟨b1, b2, b3, b4, b5, b6⟩ := vld_bd hv
  have hl := (vld_iff.1 hv).2
  have e := cnt_d y m d
  by_cases c : d + 1 ≤ len y m
  · exact .inl ⟨c, vld_t ⟨by omega, c⟩, by rw [cnt_d]; omega⟩
  · by_cases c2 : m < 12
    · have s := cnt_succ (y := y) (m := m) ⟨b1, b2⟩ (by omega) 1
      have e1 := cnt_d y m 1
      have lo := len_lo (y := y) (m := m + 1) ⟨b1, b2⟩ (by omega)
      exact .inr (.inl ⟨by omega, c2, vld_t ⟨by omega, by omega⟩, by omega⟩)
    · obtain rfl : m = 12 := by omega
      have s := cnt_year (y := y) ⟨b1, b2⟩ 1
      have e1 := cnt_d y 12 1
      have l12 := len_of (y := y) (m := 12) ⟨b1, b2⟩ (by omega) (by omega) (by omega)
      simp at l12
      have hy : y + 1 ≤ 9999 := by
        rcases Int.lt_or_le y 9999 with c | c
        · omega
        · obtain rfl : y = 9999 := by omega
          have := cnt_11 10000
          simp at s this
          omega
      have lo := len_lo (y := y + 1) (m := 1) ⟨by omega, hy⟩ (by omega)
      exact .inr (.inr ⟨by omega, rfl, vld_t ⟨by omega, by omega⟩, by omega⟩)

/-- 400 years later. -/
theorem leap_400 {y : Int} (h : 1 ≤ y) (h2 : y + 400 ≤ 9999) : leap (y + 400) = leap y := by
  rw [Bool.eq_iff_iff, leap_iff ⟨by omega, h2⟩, leap_iff ⟨h, by omega⟩]; omega
theorem len_400 {y m : Int} (h : 1 ≤ y) (h2 : y + 400 ≤ 9999) : len (y + 400) m = len y m := by
  have := leap_400 h h2
  unfold len
  by_cases hm : 1 ≤ m ∧ m ≤ 12
  · have c1 : 1 ≤ y + 400 ∧ y + 400 ≤ 9999 ∧ 1 ≤ m ∧ m ≤ 12 := ⟨by omega, h2, hm⟩
    have c2 : 1 ≤ y ∧ y ≤ 9999 ∧ 1 ≤ m ∧ m ≤ 12 := ⟨h, by omega, hm⟩
    simp only [if_pos c1, if_pos c2, this]
  · have c1 : ¬ (1 ≤ y + 400 ∧ y + 400 ≤ 9999 ∧ 1 ≤ m ∧ m ≤ 12) := by omega
    have c2 : ¬ (1 ≤ y ∧ y ≤ 9999 ∧ 1 ≤ m ∧ m ≤ 12) := by omega
    simp only [if_neg c1, if_neg c2]
theorem cnt_400 (y m d : Int) : cnt (y + 400) m d = cnt y m d + 146097 := by unfold cnt; split <;> omega
theorem date_400 {y m d x : Int} (hv : vld y m d = true) (hx : cnt y m d = x) (h : x + 146097 < 2932897) :
    vld (y + 400) m d = true ∧ cnt (y + 400) m d = x + 146097 ∧ yday (y + 400) m d = yday y m d := by
  obtain ⟨b1, b2, b3, b4, b5, b6⟩ := vld_bd hv
  have i := cnt_in_year hv
  have hy : y + 400 ≤ 9999 := by
    have e := cnt_11 y; have e2 := cnt_400 y 1 1
    have e3 := cnt_11 (y + 400)
    omega
  have hv' : vld (y + 400) m d = true := vld_t ⟨by omega, by rw [len_400 b1 hy]; exact (vld_iff.1 hv).2⟩
  exact ⟨hv', by rw [cnt_400, hx], by rw [yday_t hv', yday_t hv, cnt_400, cnt_400]; omega⟩

theorem year_len (y : Int) : cnt (y + 1) 1 1 ≤ cnt y 1 1 + 366 := by
  rw [cnt_11, cnt_11]
  have h1 : (y + 1 - 1) / 4 ≤ (y - 1) / 4 + 1 := by omega
  by_cases h : y % 100 = 0
  · have h2 : (y + 1 - 1) / 100 = (y - 1) / 100 + 1 := by omega
    have h3 : (y + 1 - 1) / 400 ≤ (y - 1) / 400 + 1 := by omega
    omega
  · have h2 : (y + 1 - 1) / 100 = (y - 1) / 100 := by omega
    have h3 : (y + 1 - 1) / 400 = (y - 1) / 400 := by omega
    omega
theorem yday_bd {y m d : Int} (h : vld y m d = true) : 1 ≤ yday y m d ∧ yday y m d ≤ 366 := by
  rw [yday_t h]; have i := cnt_in_year h; have := year_len y; omega

/-- What the n-th weekday is, where there is one. -/
theorem nth_spec {y m k n : Int} (h : ¬ (len y m = 0 ∨ k < 1 ∨ 7 < k ∨ n = 0)) (ht : nthT y m k n < len y m) :
    ∃ d, vld y m d = true ∧ nth y m k n = (cnt y m d, 0) ∧ wd (cnt y m d) = k ∧ -5 ≤ n ∧ n ≤ 5 ∧ (0 < n → (d - 1) / 7 = n - 1) ∧ (n < 0 → (len y m - d) / 7 = -n - 1) := by
  have lb := len_bd y m
  have lpos : 0 < len y m := by omega
  have i0 := month_inside (y := y) (m := m) (i := 0) lpos (by omega) (by omega)
  have i1 := month_inside (y := y) (m := m) (i := len y m - 1) lpos (by omega) (by omega)
  have e1 := cnt_d y m 1
  have w0 := wd_t (x := cnt y m 1) (by omega)
  have w1 := wd_t (x := cnt y m 1 + len y m - 1) (by omega)
  by_cases hn : n < 0
  · have hT := nthT_neg (y := y) (m := m) (k := k) hn
    rw [w1] at hT
    have hR := nth_neg h ht hn
    generalize nthT y m k n = t at *
    have t0 : 0 ≤ t := by omega
    have e := cnt_d y m (len y m - t)
    refine ⟨len y m - t, vld_t (by omega), by rw [hR]; congr 1; omega, ?_, by omega, by omega, fun _ => by omega, fun _ => by omega⟩
    rw [wd_t (by omega)]; omega
  · have hT := nthT_pos (y := y) (m := m) (k := k) hn
    rw [w0] at hT
    have hR := nth_pos h ht hn
    generalize nthT y m k n = t at *
    have t0 : 0 ≤ t := by omega
    have e := cnt_d y m (t + 1)
    have i2 := month_inside (y := y) (m := m) (i := t) lpos (by omega) (by omega)
    refine ⟨t + 1, vld_t (by omega), by rw [hR]; congr 1; omega, ?_, by omega, by omega, fun _ => by omega, fun _ => by omega⟩
    rw [wd_t (by omega)]; omega
theorem nth_none {y m k n : Int} (h : ¬ (len y m = 0 ∨ k < 1 ∨ 7 < k ∨ n = 0)) (ht : ¬ nthT y m k n < len y m) : 4 < n ∨ n < -4 := by
  have lb := len_bd y m
  have hp := len_pos (y := y) (m := m) (by omega)
  have lo := len_lo (y := y) (m := m) (by omega) (by omega)
  by_cases hn : n < 0
  · have hT := nthT_neg (y := y) (m := m) (k := k) hn; omega
  · have hT := nthT_pos (y := y) (m := m) (k := k) hn; omega

end Go.Proofs.Ytainibnjpkbfpaa.M
