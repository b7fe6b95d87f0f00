/- Walks through the laws of chapter 2: adding months can be undone. -/
import Derived.Test.YtgjbcdbhbbimcaaCivL3
import Derived.Deep.RegionWith
namespace Go.Proofs.Ytgjbcdbhbbimcaa
set_option linter.unusedVariables false
set_option linter.unusedSimpArgs false
open Go.RowKit

theorem Add_at {y m d n a b c e : Int} (w : World) (h : M.am y m d n = ((a, b, c), e)) (h1 : -9223372036854775808 ≤ n) (h2 : n ≤ 9223372036854775807) :
    Calls Try.prog 25 #[.agg #[.int .i64 y, .int .i64 m, .int .i64 d], .int .i64 n] w fun e' w' => e' = .returned (.tuple #[.agg #[.int .i64 a, .int .i64 b, .int .i64 c], .int .i64 e]) ∧ Below w.heap.size w w' := by
  have := AddMonths_any y m d n w h1 h2; rw [h] at this; exact this

theorem CivilUndone_err (y m d n k e : Int) (w : World) (n1 : -9223372036854775808 ≤ n) (n2 : n ≤ 9223372036854775807) (h : M.am y m d n = ((0, 0, 0), e)) (he : (e != 0) = true) :
    Calls Try.prog 6 #[.agg #[.int .i64 y, .int .i64 m, .int .i64 d], .int .i64 n, .int .i64 k] w fun e w' => e = .returned (.bool true) ∧ Below w.heap.size w w' := by
  go_enter Try.func6, Try.ntmps6
  go_wp2_with (go_at_call 14; refine (awake_any _).mono ?_; rintro e w1 ⟨rfl, hb1⟩; obtain ⟨hc1, hf1⟩ := bcell hb1)
  refine (Add_at _ h n1 n2).mono ?_; rintro e w2 ⟨rfl, hb2⟩
  go_wp2
  go_ret
  have q1 := hb1.size; simp at q1; have q2 := hb2.size
  exact ⟨rfl, ((((Below.refl _ _).alloc (Nat.le_refl _) _).trans (hb1.mono (by simp))).trans (hb2.mono (by omega))).alloc (by omega) _⟩

/-- The date that is reached: in its month, and not beyond the day that was given. -/
theorem am_parts {y m d n : Int} (hv : M.vld y m d = true) (hk : 12 ≤ 12 * y + m - 1 + n ∧ 12 * y + m - 1 + n < 120000) :
    ∃ a b c : Int, M.am y m d n = ((a, b, c), 0) ∧ M.vld a b c = true ∧ c ≤ d ∧ 12 * a + b - 1 = 12 * y + m - 1 + n ∧ (c = d ∨ c = M.len a b) ∧ (d ≤ 28 → c = d) := by
  obtain ⟨b1, b2, b3, b4, b5, b6⟩ := M.vld_bd hv
  refine ⟨_, _, _, M.am_0 hv hk, ?_⟩
  have lo := M.len_lo (y := (12 * y + m - 1 + n) / 12) (m := (12 * y + m - 1 + n) % 12 + 1) (by omega) (by omega)
  by_cases hm : M.len ((12 * y + m - 1 + n) / 12) ((12 * y + m - 1 + n) % 12 + 1) < d
  · rw [M.mn_t hm]
    exact ⟨M.vld_t (by omega), by omega, by omega, .inr rfl, by omega⟩
  · rw [M.mn_f hm]
    exact ⟨M.vld_t (by omega), by omega, by omega, .inl rfl, by omega⟩

set_option maxHeartbeats 2000000 in
theorem CivilUndone_late (y m d n k a b c : Int) (w : World) (n1 : -9223372036854775808 ≤ n) (n2 : n ≤ 9223372036854775807) (hd : 28 < d) (hv : M.vld y m d = true)
    (h : M.am y m d n = ((a, b, c), 0)) (hva : M.vld a b c = true) (hcd : c ≤ d) (hn : 12 * a + b - 1 = 12 * y + m - 1 + n) (hl : c = d ∨ c = M.len a b) :
    Calls Try.prog 6 #[.agg #[.int .i64 y, .int .i64 m, .int .i64 d], .int .i64 n, .int .i64 k] w fun e w' => e = .returned (.bool true) ∧ Below w.heap.size w w' := by
  obtain ⟨b1, b2, b3, b4, b5, b6⟩ := M.vld_bd hv
  obtain ⟨a1, a2, a3, a4, a5, a6⟩ := M.vld_bd hva
  have H := Lib.hid h
  have k1 : (12 * a + b - (12 * y + m) != n) = false := by simp; omega
  have k2 : decide (d < c) = false := by simp; omega
  have hl' : (c != d) = false ∨ ((c != d) = true ∧ (c != M.len a b) = false) := by
    rcases hl with hl | hl
    · left; simp [hl]
    · by_cases hx : c = d
      · left; simp [hx]
      · right; exact ⟨by simp [hx], by simp [hl]⟩
  have lb := M.len_bd a b
  clear h hn hl
  rcases hl' with k3 | ⟨k3, k4⟩
  all_goals
    go_enter Try.func6, Try.ntmps6
    go_wp2_with (go_at_call 14; refine (awake_any _).mono ?_; rintro e w1 ⟨rfl, hb1⟩; obtain ⟨hc1, hf1⟩ := bcell hb1)
    have q1 : w.heap.size < w1.heap.size := by have := hb1.size; simp at this; omega
    refine (Add_at _ H.out n1 n2).mono ?_; rintro e w2 ⟨rfl, hb2⟩; obtain ⟨hc2, hf2⟩ := bcell hb2
    have q2 : w.heap.size < w2.heap.size := by have := hb2.size; omega
    have q2' : w.heap.size < w2.heap.size + 1 := by omega
    have q2n : w.heap.size ≠ w2.heap.size := by omega
    go_wp2_with fail
    have hS : ∀ (s' : Abv (w2.alloc (Obj.cells #[.int .i64 a, .int .i64 b, .int .i64 c] 23))) (b' o : Nat), b' < w2.heap.size + 1 → s'.w.cell? ⟨b', o, none⟩ = (w2.alloc (Obj.cells #[.int .i64 a, .int .i64 b, .int .i64 c] 23)).cell? ⟨b', o, none⟩ := fun s b o h => Abv.cells _ s b o (by simpa using h)
    refine wp_region_abv (by kernel_rfl) (by kernel_rfl) ?_
    repeat (go_big_quiet_step ((first | (go_at_call 15; exact abv_call (hva ▸ Valid_any a b c _)) | (go_at_call 19; exact abv_same (Length_any _ _ _)))))
    refine wpQuiet_nil ?_
    rintro w3 hb3
    obtain ⟨hc3, hf3⟩ := bcell hb3
    go_wp2
    go_ret
    have B1 : Below w.heap.size w w1 := ((Below.refl _ _).alloc (Nat.le_refl _) _).trans (hb1.mono (by simp))
    exact ⟨rfl, ((B1.trans (hb2.mono (by omega))).alloc (by omega) _).trans (hb3.mono (by simp; omega))⟩

set_option maxHeartbeats 2000000 in
theorem CivilUndone_no (y m d n k a b : Int) (w : World) (n1 : -9223372036854775808 ≤ n) (n2 : n ≤ 9223372036854775807) (k1 : -9223372036854775808 ≤ k) (k2 : k ≤ 9223372036854775807) (hd : d ≤ 28) (hv : M.vld y m d = true)
    (h : M.am y m d n = ((a, b, d), 0)) (hva : M.vld a b d = true) (hn : 12 * a + b - 1 = 12 * y + m - 1 + n) (hback : M.am a b d (-n) = ((y, m, d), 0)) (hno : M.am a b d k = ((0, 0, 0), 2)) :
    Calls Try.prog 6 #[.agg #[.int .i64 y, .int .i64 m, .int .i64 d], .int .i64 n, .int .i64 k] w fun e w' => e = .returned (.bool true) ∧ Below w.heap.size w w' := by
  obtain ⟨b1, b2, b3, b4, b5, b6⟩ := M.vld_bd hv
  obtain ⟨a1, a2, a3, a4, a5, a6⟩ := M.vld_bd hva
  have t1 : (12 * a + b - (12 * y + m) != n) = false := by simp; omega
  have t2 : decide (d < d) = false := by simp
  have t3 : (d != d) = false := by simp
  have H := Lib.hid (And.intro h (And.intro hback (And.intro hno trivial)))
  have r1 : -120000 ≤ n := by omega
  have r2 : n ≤ 120000 := by omega
  clear h hback hno hn
  · skip
    go_enter Try.func6, Try.ntmps6
    go_wp2_with (go_at_call 14; refine (awake_any _).mono ?_; rintro e w1 ⟨rfl, hb1⟩; obtain ⟨hc1, hf1⟩ := bcell hb1)
    have q1 : w.heap.size < w1.heap.size := by have := hb1.size; simp at this; omega
    refine (Add_at _ H.out.1 n1 n2).mono ?_; rintro e w2 ⟨rfl, hb2⟩; obtain ⟨hc2, hf2⟩ := bcell hb2
    have q2 : w.heap.size < w2.heap.size := by have := hb2.size; omega
    have q2' : w.heap.size < w2.heap.size + 1 := by omega
    have q2n : w.heap.size ≠ w2.heap.size := by omega
    go_wp2_with fail
    have hS : ∀ (s' : Abv (w2.alloc (Obj.cells #[.int .i64 a, .int .i64 b, .int .i64 d] 23))) (b' o : Nat), b' < w2.heap.size + 1 → s'.w.cell? ⟨b', o, none⟩ = (w2.alloc (Obj.cells #[.int .i64 a, .int .i64 b, .int .i64 d] 23)).cell? ⟨b', o, none⟩ := fun s b o h => Abv.cells _ s b o (by simpa using h)
    refine wp_region_abv (by kernel_rfl) (by kernel_rfl) ?_
    repeat (go_big_quiet_step ((first | (go_at_call 15; exact abv_call (hva ▸ Valid_any a b d _)) | (go_at_call 19; exact abv_same (Length_any _ _ _)))))
    refine wpQuiet_nil ?_
    rintro w3 hb3
    obtain ⟨hc3, hf3⟩ := bcell hb3
    have q3 : w2.heap.size < w3.heap.size := by have := hb3.size; simp at this; omega
    have x0 : w3.cell? ⟨w2.heap.size, 0, none⟩ = some (.int .i64 a) := by rw [hc3 _ _ (by simp)]; simp [go_sem]
    have x1 : w3.cell? ⟨w2.heap.size, 1, none⟩ = some (.int .i64 b) := by rw [hc3 _ _ (by simp)]; simp [go_sem]
    have x2 : w3.cell? ⟨w2.heap.size, 2, none⟩ = some (.int .i64 d) := by rw [hc3 _ _ (by simp)]; simp [go_sem]
    have d0 : w3.cell? ⟨w.heap.size, 0, none⟩ = some (.int .i64 y) := by rw [hc3 _ _ (by simp; omega), cell_alloc_lt q2, hc2 _ _ q1, hc1 _ _ (by simp)]; simp [go_sem]
    have d1 : w3.cell? ⟨w.heap.size, 1, none⟩ = some (.int .i64 m) := by rw [hc3 _ _ (by simp; omega), cell_alloc_lt q2, hc2 _ _ q1, hc1 _ _ (by simp)]; simp [go_sem]
    have d2 : w3.cell? ⟨w.heap.size, 2, none⟩ = some (.int .i64 d) := by rw [hc3 _ _ (by simp; omega), cell_alloc_lt q2, hc2 _ _ q1, hc1 _ _ (by simp)]; simp [go_sem]
    have B3 : Below w.heap.size w w3 := ((((Below.refl _ _).alloc (Nat.le_refl _) _).trans (hb1.mono (by simp))).trans (hb2.mono (by omega))).alloc (by omega) _ |>.trans (hb3.mono (by simp; omega))
    clear hc1 hf1 hc2 hf2 hc3 hf3 hb1 hb2 hb3
    go_wp2_with fail
    refine (Add_at _ H.out.2.1 (by omega) (by omega)).mono ?_; rintro e w4 ⟨rfl, hb4⟩; obtain ⟨hc4, hf4⟩ := bcell hb4
    have q4 : w3.heap.size ≤ w4.heap.size := hb4.size
    have q4a : w2.heap.size < w4.heap.size := by omega
    go_wp2_with fail
    refine (Add_at _ H.out.2.2.1 k1 k2).mono ?_; rintro e w5 ⟨rfl, hb5⟩; obtain ⟨hc5, hf5⟩ := bcell hb5
    have q5 : w4.heap.size < w5.heap.size := by have := hb5.size; simp at this; omega
    have e0 : w5.cell? ⟨w4.heap.size, 0, none⟩ = some (.int .i64 y) := by rw [hc5 _ _ (by simp)]; simp [go_sem]
    have e1 : w5.cell? ⟨w4.heap.size, 1, none⟩ = some (.int .i64 m) := by rw [hc5 _ _ (by simp)]; simp [go_sem]
    have e2 : w5.cell? ⟨w4.heap.size, 2, none⟩ = some (.int .i64 d) := by rw [hc5 _ _ (by simp)]; simp [go_sem]
    have g0 : w5.cell? ⟨w.heap.size, 0, none⟩ = some (.int .i64 y) := by rw [hc5 _ _ (by simp; omega), cell_alloc_lt (by omega), hc4 _ _ (by omega)]; exact d0
    have g1 : w5.cell? ⟨w.heap.size, 1, none⟩ = some (.int .i64 m) := by rw [hc5 _ _ (by simp; omega), cell_alloc_lt (by omega), hc4 _ _ (by omega)]; exact d1
    have g2 : w5.cell? ⟨w.heap.size, 2, none⟩ = some (.int .i64 d) := by rw [hc5 _ _ (by simp; omega), cell_alloc_lt (by omega), hc4 _ _ (by omega)]; exact d2
    have B5 : Below w.heap.size w w5 := ((B3.trans (hb4.mono (by omega))).alloc (by omega) _).trans (hb5.mono (by simp; omega))
    clear hc4 hf4 hc5 hf5 hb4 hb5
    have n5 : w4.heap.size ≠ w5.heap.size := by omega
    have n5' : w.heap.size ≠ w5.heap.size := by omega
    have n5a : w4.heap.size < w5.heap.size + 1 := by omega
    have n5b : w.heap.size < w5.heap.size + 1 := by omega
    have q5b : w.heap.size < w5.heap.size := by omega
    go_wp2
    go_ret
    exact ⟨rfl, B5.alloc (by omega) _⟩

set_option maxHeartbeats 2000000 in
theorem CivilUndone_yes (y m d n k a b a' b' : Int) (w : World) (n1 : -9223372036854775808 ≤ n) (n2 : n ≤ 9223372036854775807) (k1 : -9223372036854775808 ≤ k) (k2 : k ≤ 9223372036854775807) (hd : d ≤ 28) (hv : M.vld y m d = true)
    (h : M.am y m d n = ((a, b, d), 0)) (hva : M.vld a b d = true) (hn : 12 * a + b - 1 = 12 * y + m - 1 + n) (hback : M.am a b d (-n) = ((y, m, d), 0)) (hr1 : -200000 ≤ k) (hr2 : k ≤ 200000)
    (hy : M.am a b d k = ((a', b', d), 0)) (hz : M.am y m d (n + k) = ((a', b', d), 0)) :
    Calls Try.prog 6 #[.agg #[.int .i64 y, .int .i64 m, .int .i64 d], .int .i64 n, .int .i64 k] w fun e w' => e = .returned (.bool true) ∧ Below w.heap.size w w' := by
  obtain ⟨b1, b2, b3, b4, b5, b6⟩ := M.vld_bd hv
  obtain ⟨a1, a2, a3, a4, a5, a6⟩ := M.vld_bd hva
  have t1 : (12 * a + b - (12 * y + m) != n) = false := by simp; omega
  have t2 : decide (d < d) = false := by simp
  have t3 : (d != d) = false := by simp
  have H := Lib.hid (And.intro h (And.intro hback (And.intro hy hz)))
  have r1 : -120000 ≤ n := by omega
  have r2 : n ≤ 120000 := by omega
  clear h hback hy hz hn
  · skip
    go_enter Try.func6, Try.ntmps6
    go_wp2_with (go_at_call 14; refine (awake_any _).mono ?_; rintro e w1 ⟨rfl, hb1⟩; obtain ⟨hc1, hf1⟩ := bcell hb1)
    have q1 : w.heap.size < w1.heap.size := by have := hb1.size; simp at this; omega
    refine (Add_at _ H.out.1 n1 n2).mono ?_; rintro e w2 ⟨rfl, hb2⟩; obtain ⟨hc2, hf2⟩ := bcell hb2
    have q2 : w.heap.size < w2.heap.size := by have := hb2.size; omega
    have q2' : w.heap.size < w2.heap.size + 1 := by omega
    have q2n : w.heap.size ≠ w2.heap.size := by omega
    go_wp2_with fail
    have hS : ∀ (s' : Abv (w2.alloc (Obj.cells #[.int .i64 a, .int .i64 b, .int .i64 d] 23))) (b' o : Nat), b' < w2.heap.size + 1 → s'.w.cell? ⟨b', o, none⟩ = (w2.alloc (Obj.cells #[.int .i64 a, .int .i64 b, .int .i64 d] 23)).cell? ⟨b', o, none⟩ := fun s b o h => Abv.cells _ s b o (by simpa using h)
    refine wp_region_abv (by kernel_rfl) (by kernel_rfl) ?_
    repeat (go_big_quiet_step ((first | (go_at_call 15; exact abv_call (hva ▸ Valid_any a b d _)) | (go_at_call 19; exact abv_same (Length_any _ _ _)))))
    refine wpQuiet_nil ?_
    rintro w3 hb3
    obtain ⟨hc3, hf3⟩ := bcell hb3
    have q3 : w2.heap.size < w3.heap.size := by have := hb3.size; simp at this; omega
    have x0 : w3.cell? ⟨w2.heap.size, 0, none⟩ = some (.int .i64 a) := by rw [hc3 _ _ (by simp)]; simp [go_sem]
    have x1 : w3.cell? ⟨w2.heap.size, 1, none⟩ = some (.int .i64 b) := by rw [hc3 _ _ (by simp)]; simp [go_sem]
    have x2 : w3.cell? ⟨w2.heap.size, 2, none⟩ = some (.int .i64 d) := by rw [hc3 _ _ (by simp)]; simp [go_sem]
    have d0 : w3.cell? ⟨w.heap.size, 0, none⟩ = some (.int .i64 y) := by rw [hc3 _ _ (by simp; omega), cell_alloc_lt q2, hc2 _ _ q1, hc1 _ _ (by simp)]; simp [go_sem]
    have d1 : w3.cell? ⟨w.heap.size, 1, none⟩ = some (.int .i64 m) := by rw [hc3 _ _ (by simp; omega), cell_alloc_lt q2, hc2 _ _ q1, hc1 _ _ (by simp)]; simp [go_sem]
    have d2 : w3.cell? ⟨w.heap.size, 2, none⟩ = some (.int .i64 d) := by rw [hc3 _ _ (by simp; omega), cell_alloc_lt q2, hc2 _ _ q1, hc1 _ _ (by simp)]; simp [go_sem]
    have B3 : Below w.heap.size w w3 := ((((Below.refl _ _).alloc (Nat.le_refl _) _).trans (hb1.mono (by simp))).trans (hb2.mono (by omega))).alloc (by omega) _ |>.trans (hb3.mono (by simp; omega))
    clear hc1 hf1 hc2 hf2 hc3 hf3 hb1 hb2 hb3
    go_wp2_with fail
    refine (Add_at _ H.out.2.1 (by omega) (by omega)).mono ?_; rintro e w4 ⟨rfl, hb4⟩; obtain ⟨hc4, hf4⟩ := bcell hb4
    have q4 : w3.heap.size ≤ w4.heap.size := hb4.size
    have q4a : w2.heap.size < w4.heap.size := by omega
    go_wp2_with fail
    refine (Add_at _ H.out.2.2.1 k1 k2).mono ?_; rintro e w5 ⟨rfl, hb5⟩; obtain ⟨hc5, hf5⟩ := bcell hb5
    have q5 : w4.heap.size < w5.heap.size := by have := hb5.size; simp at this; omega
    have e0 : w5.cell? ⟨w4.heap.size, 0, none⟩ = some (.int .i64 y) := by rw [hc5 _ _ (by simp)]; simp [go_sem]
    have e1 : w5.cell? ⟨w4.heap.size, 1, none⟩ = some (.int .i64 m) := by rw [hc5 _ _ (by simp)]; simp [go_sem]
    have e2 : w5.cell? ⟨w4.heap.size, 2, none⟩ = some (.int .i64 d) := by rw [hc5 _ _ (by simp)]; simp [go_sem]
    have g0 : w5.cell? ⟨w.heap.size, 0, none⟩ = some (.int .i64 y) := by rw [hc5 _ _ (by simp; omega), cell_alloc_lt (by omega), hc4 _ _ (by omega)]; exact d0
    have g1 : w5.cell? ⟨w.heap.size, 1, none⟩ = some (.int .i64 m) := by rw [hc5 _ _ (by simp; omega), cell_alloc_lt (by omega), hc4 _ _ (by omega)]; exact d1
    have g2 : w5.cell? ⟨w.heap.size, 2, none⟩ = some (.int .i64 d) := by rw [hc5 _ _ (by simp; omega), cell_alloc_lt (by omega), hc4 _ _ (by omega)]; exact d2
    have B5 : Below w.heap.size w w5 := ((B3.trans (hb4.mono (by omega))).alloc (by omega) _).trans (hb5.mono (by simp; omega))
    clear hc4 hf4 hc5 hf5 hb4 hb5
    have n5 : w4.heap.size ≠ w5.heap.size := by omega
    have n5' : w.heap.size ≠ w5.heap.size := by omega
    have n5a : w4.heap.size < w5.heap.size + 1 := by omega
    have n5b : w.heap.size < w5.heap.size + 1 := by omega
    have q5b : w.heap.size < w5.heap.size := by omega
    go_wp2_with fail
    refine (Add_at _ H.out.2.2.2 (by omega) (by omega)).mono ?_; rintro e w6 ⟨rfl, hb6⟩; obtain ⟨hc6, hf6⟩ := bcell hb6
    have q6 : w5.heap.size < w6.heap.size := by have := hb6.size; simp at this; omega
    have y0 : w6.cell? ⟨w5.heap.size, 0, none⟩ = some (.int .i64 a') := by rw [hc6 _ _ (by simp)]; simp [go_sem]
    have y1 : w6.cell? ⟨w5.heap.size, 1, none⟩ = some (.int .i64 b') := by rw [hc6 _ _ (by simp)]; simp [go_sem]
    have y2 : w6.cell? ⟨w5.heap.size, 2, none⟩ = some (.int .i64 d) := by rw [hc6 _ _ (by simp)]; simp [go_sem]
    have n6 : w5.heap.size ≠ w6.heap.size := by omega
    have B6 : Below w.heap.size w w6 := (B5.alloc (by omega) _).trans (hb6.mono (by simp; omega))
    clear hc6 hf6 hb6
    go_wp2
    go_ret
    exact ⟨rfl, B6.alloc (by omega) _⟩

theorem CivilUndone_walk (y m d n k : Int) (w : World) (_ : -9223372036854775808 ≤ y) (_ : y ≤ 9223372036854775807) (_ : -9223372036854775808 ≤ m) (_ : m ≤ 9223372036854775807) (_ : -9223372036854775808 ≤ d) (_ : d ≤ 9223372036854775807) (n1 : -9223372036854775808 ≤ n) (n2 : n ≤ 9223372036854775807) (k1 : -9223372036854775808 ≤ k) (k2 : k ≤ 9223372036854775807) :
    Calls Try.prog 6 #[.agg #[.int .i64 y, .int .i64 m, .int .i64 d], .int .i64 n, .int .i64 k] w fun e w' => e = .returned (.bool true) ∧ Below w.heap.size w w' := by
  rcases hv : M.vld y m d with _ | _
  · exact CivilUndone_err y m d n k 1 w n1 n2 (M.am_1 hv) rfl
  · by_cases hk : 12 ≤ 12 * y + m - 1 + n ∧ 12 * y + m - 1 + n < 120000
    · obtain ⟨a, b, c, h, hva, hcd, hn, hl, h28⟩ := am_parts hv hk
      by_cases hd : 28 < d
      · exact CivilUndone_late y m d n k a b c w n1 n2 hd hv h hva hcd hn hl
      · obtain rfl : c = d := h28 (by omega)
        obtain ⟨b1, b2, b3, b4, b5, b6⟩ := M.vld_bd hv
        obtain ⟨a1, a2, a3, a4, a5, a6⟩ := M.vld_bd hva
        obtain ⟨ya, mb, cc, hb, hvb, hcb, hnb, hlb, h28b⟩ := am_parts (n := -n) hva (by omega)
        obtain rfl : cc = c := h28b (by omega)
        obtain ⟨e1, e2, e3, e4, _⟩ := M.vld_bd hvb
        obtain rfl : ya = y := by omega
        obtain rfl : mb = m := by omega
        by_cases hk2 : 12 ≤ 12 * a + b - 1 + k ∧ 12 * a + b - 1 + k < 120000
        · obtain ⟨a', b', c', h', hva', hcd', hn', hl', h28'⟩ := am_parts (n := k) hva hk2
          obtain rfl : c' = cc := h28' (by omega)
          obtain ⟨a2', b2', c2', h2', hva2', hcd2', hn2', hl2', h282'⟩ := am_parts (n := n + k) hv (by omega)
          obtain rfl : c2' = c' := h282' (by omega)
          obtain ⟨f1, f2, f3, f4, _⟩ := M.vld_bd hva'
          obtain ⟨g1, g2, g3, g4, _⟩ := M.vld_bd hva2'
          obtain rfl : a2' = a' := by omega
          obtain rfl : b2' = b' := by omega
          exact CivilUndone_yes _ _ _ n k a b _ _ w n1 n2 k1 k2 (by omega) hv h hva hn hb (by omega) (by omega) h' h2'
        · exact CivilUndone_no _ _ _ n k a b w n1 n2 k1 k2 (by omega) hv h hva hn hb (M.am_2 hva hk2)
    · exact CivilUndone_err y m d n k 2 w n1 n2 (M.am_2 hv hk) rfl

end Go.Proofs.Ytgjbcdbhbbimcaa
