/- Plain mathematics of the civil calendar: no program in sight. -/
namespace Go.Proofs.Ytainibnjpkbfpaa.M
set_option linter.unusedVariables false
set_option linter.unusedSimpArgs false

/-- A year that is one. -/
def yr (y : Int) : Bool := decide (1 ≤ y ∧ y ≤ 9999)
def leap (y : Int) : Bool := decide ((1 ≤ y ∧ y ≤ 9999) ∧ y % 4 = 0 ∧ (y % 100 ≠ 0 ∨ y % 400 = 0))
def len (y m : Int) : Int :=
  if 1 ≤ y ∧ y ≤ 9999 ∧ 1 ≤ m ∧ m ≤ 12 then
    if m = 2 then (if leap y = true then 29 else 28) else if m = 4 ∨ m = 6 ∨ m = 9 ∨ m = 11 then 30 else 31
  else 0
def vld (y m d : Int) : Bool := decide (1 ≤ d ∧ d ≤ len y m)
def cnt (y m d : Int) : Int :=
  if m ≤ 2 then 365 * (y - 1) + (y - 1) / 4 - (y - 1) / 100 + (y - 1) / 400 + (153 * (m + 12 - 3) + 2) / 5 + d - 307 + -719162
  else 365 * y + y / 4 - y / 100 + y / 400 + (153 * (m - 3) + 2) / 5 + d - 307 + -719162

theorem yr_t {y : Int} (h : 1 ≤ y ∧ y ≤ 9999) : yr y = true := by simp [yr, h]
theorem yr_f {y : Int} (h : ¬ (1 ≤ y ∧ y ≤ 9999)) : yr y = false := by simpa [yr] using h
theorem leap_t {y : Int} (h : 1 ≤ y ∧ y ≤ 9999) (h4 : y % 4 = 0) (h1 : y % 100 ≠ 0 ∨ y % 400 = 0) : leap y = true := by simp only [leap, decide_eq_true_eq]; exact ⟨h, h4, h1⟩
theorem leap_f {y : Int} (h : ¬ ((1 ≤ y ∧ y ≤ 9999) ∧ y % 4 = 0 ∧ (y % 100 ≠ 0 ∨ y % 400 = 0))) : leap y = false := by simp only [leap, decide_eq_false_iff_not]; exact h
theorem len_0 {y m : Int} (h : ¬ (1 ≤ y ∧ y ≤ 9999 ∧ 1 ≤ m ∧ m ≤ 12)) : len y m = 0 := by simp only [len, if_neg h]
theorem len_29 {y : Int} (h : 1 ≤ y ∧ y ≤ 9999) (hl : leap y = true) : len y 2 = 29 := by simp [len, h, hl]
theorem len_28 {y : Int} (h : 1 ≤ y ∧ y ≤ 9999) (hl : leap y = false) : len y 2 = 28 := by simp [len, h, hl]
theorem len_of {y m : Int} (h : 1 ≤ y ∧ y ≤ 9999) (h1 : 1 ≤ m) (h12 : m ≤ 12) (h2 : m ≠ 2) : len y m = if m = 4 ∨ m = 6 ∨ m = 9 ∨ m = 11 then 30 else 31 := by simp [len, h, h1, h12, h2]
theorem len_bd (y m : Int) : 0 ≤ len y m ∧ len y m ≤ 31 := by unfold len; repeat' split <;> try omega
theorem len_lo {y m : Int} (h : 1 ≤ y ∧ y ≤ 9999) (h1 : 1 ≤ m ∧ m ≤ 12) : 28 ≤ len y m := by
  unfold len; rw [if_pos ⟨h.1, h.2, h1.1, h1.2⟩]; repeat' split <;> try omega
theorem len_pos {y m : Int} (h : 0 < len y m) : 1 ≤ y ∧ y ≤ 9999 ∧ 1 ≤ m ∧ m ≤ 12 := by
  by_cases c : 1 ≤ y ∧ y ≤ 9999 ∧ 1 ≤ m ∧ m ≤ 12
  · exact c
  · rw [len_0 c] at h; omega
theorem vld_t {y m d : Int} (h : 1 ≤ d ∧ d ≤ len y m) : vld y m d = true := by simp [vld, h]
theorem vld_f {y m d : Int} (h : ¬ (1 ≤ d ∧ d ≤ len y m)) : vld y m d = false := by simpa [vld] using h
theorem vld_iff {y m d : Int} : vld y m d = true ↔ 1 ≤ d ∧ d ≤ len y m := by simp [vld]
/-- What a valid date is. -/
theorem vld_bd {y m d : Int} (h : vld y m d = true) : 1 ≤ y ∧ y ≤ 9999 ∧ 1 ≤ m ∧ m ≤ 12 ∧ 1 ≤ d ∧ d ≤ 31 := by
  have h1 := vld_iff.1 h
  have h2 := len_pos (y := y) (m := m) (by omega)
  have h3 := len_bd y m
  omega

def ins (day : Int) : Bool := decide (-719162 ≤ day ∧ day < 2932897)
def wd (day : Int) : Int := if -719162 ≤ day ∧ day < 2932897 then (day + 3) % 7 + 1 else 0
def yday (y m d : Int) : Int := if vld y m d = true then cnt y m d - cnt y 1 1 + 1 else 0
theorem ins_t {x : Int} (h : -719162 ≤ x ∧ x < 2932897) : ins x = true := by simp [ins, h]
theorem ins_f {x : Int} (h : ¬ (-719162 ≤ x ∧ x < 2932897)) : ins x = false := by simpa [ins] using h
theorem wd_t {x : Int} (h : -719162 ≤ x ∧ x < 2932897) : wd x = (x + 3) % 7 + 1 := by simp [wd, h]
theorem wd_f {x : Int} (h : ¬ (-719162 ≤ x ∧ x < 2932897)) : wd x = 0 := by simp only [wd, if_neg h]
theorem yday_t {y m d : Int} (h : vld y m d = true) : yday y m d = cnt y m d - cnt y 1 1 + 1 := by simp only [yday, if_pos h]
theorem yday_f {y m d : Int} (h : vld y m d = false) : yday y m d = 0 := by simp [yday, h]
theorem cnt_lo {y m d : Int} (h : m ≤ 2) : cnt y m d = 365 * (y - 1) + (y - 1) / 4 - (y - 1) / 100 + (y - 1) / 400 + (153 * (m + 12 - 3) + 2) / 5 + d - 307 + -719162 := by simp only [cnt, if_pos h]
theorem cnt_hi {y m d : Int} (h : ¬ m ≤ 2) : cnt y m d = 365 * y + y / 4 - y / 100 + y / 400 + (153 * (m - 3) + 2) / 5 + d - 307 + -719162 := by simp only [cnt, if_neg h]
theorem cnt_d (y m d : Int) : cnt y m d = cnt y m 0 + d := by unfold cnt; split <;> omega
theorem cnt_bd {y m d : Int} (h : 1 ≤ y ∧ y ≤ 10000) (hm : 1 ≤ m ∧ m ≤ 12) : -719163 + d ≤ cnt y m d ∧ cnt y m d ≤ 2933262 + d := by unfold cnt; split <;> omega
/-- The day of the first of January, as the reference has it. -/
theorem cnt_11 (y : Int) : cnt y 1 1 = -719162 + 365 * (y - 1) + (y - 1) / 4 - (y - 1) / 100 + (y - 1) / 400 := by rw [cnt_lo (by omega)]; omega
theorem leap_iff {y : Int} (h : 1 ≤ y ∧ y ≤ 9999) : leap y = true ↔ y % 4 = 0 ∧ (y % 100 ≠ 0 ∨ y % 400 = 0) := by simp [leap, h]
/-- A month is as long as it is. -/
theorem cnt_succ {y m : Int} (h : 1 ≤ y ∧ y ≤ 9999) (hm : 1 ≤ m ∧ m ≤ 11) (d : Int) : cnt y (m + 1) d = cnt y m d + len y m := by
  have hl := leap_iff h
  have hc : m = 1 ∨ m = 2 ∨ m = 3 ∨ m = 4 ∨ m = 5 ∨ m = 6 ∨ m = 7 ∨ m = 8 ∨ m = 9 ∨ m = 10 ∨ m = 11 := by omega
  rcases hc with rfl | rfl | rfl | rfl | rfl | rfl | rfl | rfl | rfl | rfl | rfl
  case inr.inl =>
    cases hb : leap y
    · rw [len_28 h hb]; rw [hb] at hl; simp only [Bool.false_eq_true, false_iff] at hl; unfold cnt; simp only [Int.reduceLE, if_true, if_false, Int.reduceAdd]; omega
    · rw [len_29 h hb]; rw [hb] at hl; simp only [true_iff] at hl; unfold cnt; simp only [Int.reduceLE, if_true, if_false, Int.reduceAdd]; omega
  all_goals (rw [len_of h (by omega) (by omega) (by omega)]; simp [cnt]; omega)
theorem cnt_year {y : Int} (h : 1 ≤ y ∧ y ≤ 9999) (d : Int) : cnt (y + 1) 1 d = cnt y 12 d + 31 := by
  unfold cnt; simp; omega

def mn (a b : Int) : Int := if b < a then b else a
theorem mn_t {a b : Int} (h : b < a) : mn a b = b := by simp [mn, h]
theorem mn_f {a b : Int} (h : ¬ b < a) : mn a b = a := by simp only [mn, if_neg h]
/-- Months added to a date: the date and the error. -/
def am (y m d n : Int) : (Int × Int × Int) × Int :=
  if vld y m d = true then
    if 12 ≤ 12 * y + m - 1 + n ∧ 12 * y + m - 1 + n < 120000 then
      (((12 * y + m - 1 + n) / 12, (12 * y + m - 1 + n) % 12 + 1, mn d (len ((12 * y + m - 1 + n) / 12) ((12 * y + m - 1 + n) % 12 + 1))), 0)
    else ((0, 0, 0), 2)
  else ((0, 0, 0), 1)
theorem am_1 {y m d n : Int} (h : vld y m d = false) : am y m d n = ((0, 0, 0), 1) := by simp [am, h]
theorem am_2 {y m d n : Int} (h : vld y m d = true) (k : ¬ (12 ≤ 12 * y + m - 1 + n ∧ 12 * y + m - 1 + n < 120000)) : am y m d n = ((0, 0, 0), 2) := by simp only [am, if_pos h, if_neg k]
theorem am_0 {y m d n : Int} (h : vld y m d = true) (k : 12 ≤ 12 * y + m - 1 + n ∧ 12 * y + m - 1 + n < 120000) :
    am y m d n = (((12 * y + m - 1 + n) / 12, (12 * y + m - 1 + n) % 12 + 1, mn d (len ((12 * y + m - 1 + n) / 12) ((12 * y + m - 1 + n) % 12 + 1))), 0) := by simp only [am, if_pos h, if_pos k]

def dy (y m d : Int) : Int := if vld y m d = true then cnt y m d else 0
def de (y m d : Int) : Int := if vld y m d = true then 0 else 1
theorem dy_t {y m d : Int} (h : vld y m d = true) : dy y m d = cnt y m d := by simp only [dy, if_pos h]
theorem dy_f {y m d : Int} (h : vld y m d = false) : dy y m d = 0 := by simp [dy, h]
theorem de_t {y m d : Int} (h : vld y m d = true) : de y m d = 0 := by simp only [de, if_pos h]
theorem de_f {y m d : Int} (h : vld y m d = false) : de y m d = 1 := by simp [de, h]

/-! ### The order of dates is that of their days. -/
theorem cnt_11_mono {y z : Int} (h : 1 ≤ y) (h2 : y ≤ z) : cnt y 1 1 ≤ cnt z 1 1 := by rw [cnt_11, cnt_11]; omega
theorem cnt_m_mono {y m : Int} (h : 1 ≤ y ∧ y ≤ 9999) (k : Nat) : 1 ≤ m → m + k ≤ 12 → cnt y m 1 ≤ cnt y (m + k) 1 := by
  induction k with
  | zero => intro _ _; simp
  | succ k ih =>
    intro h1 h2
    have := ih h1 (by omega)
    have c := cnt_succ (m := m + k) h (by omega) 1
    have l := len_bd y (m + k)
    rw [show m + ((k + 1 : Nat) : Int) = m + k + 1 by omega, c]; omega
theorem cnt_m_lt {y m m' d d' : Int} (h : 1 ≤ y ∧ y ≤ 9999) (h1 : 1 ≤ m) (h2 : m < m') (h3 : m' ≤ 12) (hd : d ≤ len y m) (hd' : 1 ≤ d') : cnt y m d < cnt y m' d' := by
  have c := cnt_succ (m := m) h (by omega) 1
  have k := cnt_m_mono (y := y) (m := m + 1) h (m' - (m + 1)).toNat (by omega) (by omega)
  rw [show m + 1 + ((m' - (m + 1)).toNat : Int) = m' by omega] at k
  have e1 := cnt_d y m d; have e2 := cnt_d y m 1; have e3 := cnt_d y m' d'; have e4 := cnt_d y m' 1
  omega
/-- The day of a valid date lies in its year. -/
theorem cnt_in_year {y m d : Int} (h : vld y m d = true) : cnt y 1 1 ≤ cnt y m d ∧ cnt y m d < cnt (y + 1) 1 1 := by
  obtain ⟨b1, b2, b3, b4, b5, b6⟩ := vld_bd h
  have hl := (vld_iff.1 h).2
  have k1 := cnt_m_mono (y := y) (m := 1) ⟨b1, b2⟩ (m - 1).toNat (by omega) (by omega)
  have k2 := cnt_m_mono (y := y) (m := m) ⟨b1, b2⟩ (12 - m).toNat (by omega) (by omega)
  rw [show (1 : Int) + ((m - 1).toNat : Int) = m by omega] at k1
  rw [show m + ((12 - m).toNat : Int) = 12 by omega] at k2
  have e1 := cnt_d y m d; have e2 := cnt_d y m 1; have e3 := cnt_d y 12 1
  have ey := cnt_year (y := y) ⟨b1, b2⟩ 1
  refine ⟨by omega, ?_⟩
  rcases Int.lt_or_le m 12 with hm | hm
  · have := cnt_m_lt (y := y) (m := m) (m' := 12) (d := d) (d' := 1) ⟨b1, b2⟩ b3 hm (by omega) hl (by omega)
    omega
  · obtain rfl : m = 12 := by omega
    omega
def bef (y m d y' m' d' : Int) : Prop := y < y' ∨ y = y' ∧ (m < m' ∨ m = m' ∧ d < d')
theorem cnt_lt {y m d y' m' d' : Int} (h : vld y m d = true) (h' : vld y' m' d' = true) (hb : bef y m d y' m' d') : cnt y m d < cnt y' m' d' := by
  obtain ⟨b1, b2, b3, b4, b5, b6⟩ := vld_bd h
  obtain ⟨c1, c2, c3, c4, c5, c6⟩ := vld_bd h'
  have i := cnt_in_year h
  have i' := cnt_in_year h'
  rcases hb with hb | ⟨rfl, hb | ⟨rfl, hb⟩⟩
  · have := cnt_11_mono (y := y + 1) (z := y') (by omega) (by omega)
    omega
  · exact cnt_m_lt ⟨b1, b2⟩ b3 hb c4 (vld_iff.1 h).2 (by omega)
  · rw [cnt_d y m d, cnt_d y m d']; omega
theorem bef_total {y m d y' m' d' : Int} : bef y m d y' m' d' ∨ (y = y' ∧ m = m' ∧ d = d') ∨ bef y' m' d' y m d := by unfold bef; omega
theorem cnt_inj {y m d y' m' d' : Int} (h : vld y m d = true) (h' : vld y' m' d' = true) (e : cnt y m d = cnt y' m' d') : y = y' ∧ m = m' ∧ d = d' := by
  rcases bef_total (y := y) (m := m) (d := d) (y' := y') (m' := m') (d' := d') with hb | hb | hb
  · have := cnt_lt h h' hb; omega
  · exact hb
  · have := cnt_lt h' h hb; omega
theorem cnt_inside {y m d : Int} (h : vld y m d = true) : -719162 ≤ cnt y m d ∧ cnt y m d < 2932897 := by
  obtain ⟨b1, b2, _⟩ := vld_bd h
  have i := cnt_in_year h
  have k1 := cnt_11_mono (y := 1) (z := y) (by omega) (by omega)
  have k2 := cnt_11_mono (y := y + 1) (z := 10000) (by omega) (by omega)
  have e1 := cnt_11 1; have e2 := cnt_11 10000
  omega

/-! ### The date of a day. -/
def isDate (x : Int) (p : Int × Int × Int) : Prop := vld p.1 p.2.1 p.2.2 = true ∧ cnt p.1 p.2.1 p.2.2 = x
noncomputable def dt (x : Int) : Int × Int × Int := Classical.epsilon (isDate x)
theorem dt_eq {x y m d : Int} (h : vld y m d = true) (e : cnt y m d = x) : dt x = (y, m, d) := by
  have hp : isDate x (dt x) := Classical.epsilon_spec (p := isDate x) ⟨(y, m, d), h, e⟩
  have := cnt_inj hp.1 h (hp.2.trans e.symm)
  exact Prod.ext this.1 (Prod.ext this.2.1 this.2.2)
noncomputable def dtx (x : Int) : (Int × Int × Int) × Int := if ins x = true then (dt x, 0) else ((0, 0, 0), 2)
theorem dtx_f {x : Int} (h : ins x = false) : dtx x = ((0, 0, 0), 2) := by simp [dtx, h]
theorem dtx_t {x y m d : Int} (hi : ins x = true) (h : vld y m d = true) (e : cnt y m d = x) : dtx x = ((y, m, d), 0) := by simp [dtx, hi, dt_eq h e]
/-- What a search for the year and the month finds. -/
theorem dtx_of {x y m : Int} (hi : ins x = true) (h : 1 ≤ y ∧ y ≤ 9999) (hm : 1 ≤ m ∧ m ≤ 12) (h1 : cnt y m 1 ≤ x) (h2 : m < 12 → x < cnt y (m + 1) 1) (h3 : x < cnt (y + 1) 1 1) :
    dtx x = ((y, m, x - cnt y m 1 + 1), 0) := by
  have hl : x - cnt y m 1 + 1 ≤ len y m := by
    rcases Int.lt_or_le m 12 with c | c
    · have := cnt_succ (m := m) h (by omega) 1
      have := h2 c
      omega
    · obtain rfl : m = 12 := by omega
      have := cnt_year (y := y) h 1
      have := len_of (y := y) (m := 12) h (by omega) (by omega) (by omega)
      simp at this
      omega
  refine dtx_t hi (vld_t ⟨by omega, hl⟩) ?_
  rw [cnt_d]; have := cnt_d y m 1; omega
theorem cnt_guess {x : Int} (h : -719162 ≤ x ∧ x < 2932897) : 1 ≤ (x - -719162) / 366 + 1 ∧ (x - -719162) / 366 + 1 ≤ 9999 ∧ cnt ((x - -719162) / 366 + 1) 1 1 ≤ x := by
  rw [cnt_11]; omega

/-! ### The n-th weekday of a month. -/
def nthT (y m k n : Int) : Int := if n < 0 then (wd (cnt y m 1 + len y m - 1) - k) % 7 + 7 * (-n - 1) else (k - wd (cnt y m 1)) % 7 + 7 * (n - 1)
def nth (y m k n : Int) : Int × Int :=
  if len y m = 0 ∨ k < 1 ∨ 7 < k ∨ n = 0 then (0, 1)
  else if nthT y m k n < len y m then (if n < 0 then cnt y m 1 + len y m - 1 - nthT y m k n else cnt y m 1 + nthT y m k n, 0)
  else (0, 7)
theorem nth_1 {y m k n : Int} (h : len y m = 0 ∨ k < 1 ∨ 7 < k ∨ n = 0) : nth y m k n = (0, 1) := by simp only [nth, if_pos h]
theorem nth_7 {y m k n : Int} (h : ¬ (len y m = 0 ∨ k < 1 ∨ 7 < k ∨ n = 0)) (ht : len y m ≤ nthT y m k n) : nth y m k n = (0, 7) := by simp only [nth, if_neg h]; rw [if_neg (by omega)]
theorem nth_neg {y m k n : Int} (h : ¬ (len y m = 0 ∨ k < 1 ∨ 7 < k ∨ n = 0)) (ht : nthT y m k n < len y m) (hn : n < 0) : nth y m k n = (cnt y m 1 + len y m - 1 - nthT y m k n, 0) := by simp only [nth, if_neg h, if_pos ht, if_pos hn]
theorem nth_pos {y m k n : Int} (h : ¬ (len y m = 0 ∨ k < 1 ∨ 7 < k ∨ n = 0)) (ht : nthT y m k n < len y m) (hn : ¬ n < 0) : nth y m k n = (cnt y m 1 + nthT y m k n, 0) := by simp only [nth, if_neg h, if_pos ht, if_neg hn]
theorem nthT_neg {y m k n : Int} (hn : n < 0) : nthT y m k n = (wd (cnt y m 1 + len y m - 1) - k) % 7 + 7 * (-n - 1) := by simp only [nthT, if_pos hn]
theorem nthT_pos {y m k n : Int} (hn : ¬ n < 0) : nthT y m k n = (k - wd (cnt y m 1)) % 7 + 7 * (n - 1) := by simp only [nthT, if_neg hn]
/-- The days of a month. -/
theorem month_inside {y m i : Int} (h : 0 < len y m) (h0 : 0 ≤ i) (hi : i < len y m) : -719162 ≤ cnt y m 1 + i ∧ cnt y m 1 + i < 2932897 := by
  have := cnt_inside (vld_t (y := y) (m := m) (d := i + 1) ⟨by omega, by omega⟩)
  have e1 := cnt_d y m (i + 1); have e2 := cnt_d y m 1
  omega

end Go.Proofs.Ytainibnjpkbfpaa.M
