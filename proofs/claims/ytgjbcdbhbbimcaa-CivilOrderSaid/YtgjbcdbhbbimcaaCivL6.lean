/- Walks through the laws of chapter 2: the order of dates. -/
import Derived.Test.YtgjbcdbhbbimcaaCivL5
namespace Go.Proofs.Ytgjbcdbhbbimcaa
set_option linter.unusedVariables false
set_option linter.unusedSimpArgs false
open Go.RowKit

theorem bef_cases {y m d y' m' d' : Int} (h : M.bef y m d y' m' d') :
    (decide (y < y') = true ∧ (y == y') = false) ∨
    (decide (y < y') = false ∧ (y == y') = true ∧ decide (m < m') = true ∧ (m == m') = false) ∨
    (decide (y < y') = false ∧ (y == y') = true ∧ decide (m < m') = false ∧ (m == m') = true ∧ decide (d < d') = true ∧ (d == d') = false) := by
  unfold M.bef at h
  rcases h with h | ⟨h1, h | ⟨h2, h⟩⟩
  · left; simp; omega
  · right; left; simp; omega
  · right; right; simp; omega
theorem bef_cases' {y m d y' m' d' : Int} (h : M.bef y' m' d' y m d) :
    (decide (y < y') = false ∧ (y == y') = false) ∨
    (decide (y < y') = false ∧ (y == y') = true ∧ decide (m < m') = false ∧ (m == m') = false) ∨
    (decide (y < y') = false ∧ (y == y') = true ∧ decide (m < m') = false ∧ (m == m') = true ∧ decide (d < d') = false ∧ (d == d') = false) := by
  unfold M.bef at h
  rcases h with h | ⟨h1, h | ⟨h2, h⟩⟩
  · left; simp; omega
  · right; left; simp; omega
  · right; right; simp; omega

set_option maxHeartbeats 4000000 in
theorem CivilOrder_walk (y m d y' m' d' : Int) (w : World) (_ : -9223372036854775808 ≤ y) (_ : y ≤ 9223372036854775807) (_ : -9223372036854775808 ≤ m) (_ : m ≤ 9223372036854775807) (_ : -9223372036854775808 ≤ d) (_ : d ≤ 9223372036854775807) (_ : -9223372036854775808 ≤ y') (_ : y' ≤ 9223372036854775807) (_ : -9223372036854775808 ≤ m') (_ : m' ≤ 9223372036854775807) (_ : -9223372036854775808 ≤ d') (_ : d' ≤ 9223372036854775807) :
    Calls Try.prog 11 #[.agg #[.int .i64 y, .int .i64 m, .int .i64 d], .agg #[.int .i64 y', .int .i64 m', .int .i64 d']] w fun e w' => e = .returned (.bool true) ∧ Below w.heap.size w w' := by
  rcases hv : M.vld y m d with _ | _
  · go_enter Try.func11, Try.ntmps11
    go_wp2_with (go_at_call 14; refine (awake_any _).mono ?_; rintro e w1 ⟨rfl, hb1⟩; obtain ⟨hc1, hf1⟩ := bcell hb1)
    refine (Day_no _ hv).mono ?_; rintro e w2 ⟨rfl, hb2⟩; obtain ⟨hc2, hf2⟩ := bcell hb2
    have q1 : w.heap.size + 1 < w1.heap.size := by have := hb1.size; simp at this; omega
    go_wp2_with fail
    refine (Day_any _ _ _ _).mono ?_; rintro e w3 ⟨rfl, hb3⟩
    go_wp2
    go_ret
    have q2 := hb2.size
    exact ⟨rfl, ((((((Below.refl _ _).alloc (Nat.le_refl _) _).alloc (by simp) _).trans (hb1.mono (by simp; omega)))).trans (hb2.mono (by omega))).trans (hb3.mono (by omega))⟩
  · rcases hv' : M.vld y' m' d' with _ | _
    · go_enter Try.func11, Try.ntmps11
      go_wp2_with (go_at_call 14; refine (awake_any _).mono ?_; rintro e w1 ⟨rfl, hb1⟩; obtain ⟨hc1, hf1⟩ := bcell hb1)
      refine (Day_ok _ hv).mono ?_; rintro e w2 ⟨rfl, hb2⟩; obtain ⟨hc2, hf2⟩ := bcell hb2
      have q1 : w.heap.size + 1 < w1.heap.size := by have := hb1.size; simp at this; omega
      go_wp2_with fail
      refine (Day_no _ hv').mono ?_; rintro e w3 ⟨rfl, hb3⟩
      go_wp2
      go_ret
      have q2 := hb2.size
      exact ⟨rfl, ((((((Below.refl _ _).alloc (Nat.le_refl _) _).alloc (by simp) _).trans (hb1.mono (by simp; omega)))).trans (hb2.mono (by omega))).trans (hb3.mono (by omega))⟩
    · have hT := M.text_lt hv hv'
      have H : ∃ bf be : Bool, decide (M.cnt y m d < M.cnt y' m' d') = bf ∧ Op.bytesLess (strOfNums (M.dtext y m d)).toList (strOfNums (M.dtext y' m' d')).toList = bf ∧ (M.cnt y m d == M.cnt y' m' d') = be ∧
          ((bf = true ∧ be = false ∧ ((decide (y < y') = true ∧ (y == y') = false) ∨ (decide (y < y') = false ∧ (y == y') = true ∧ decide (m < m') = true ∧ (m == m') = false) ∨ (decide (y < y') = false ∧ (y == y') = true ∧ decide (m < m') = false ∧ (m == m') = true ∧ decide (d < d') = true ∧ (d == d') = false))) ∨
           (bf = false ∧ be = true ∧ (decide (y < y') = false ∧ (y == y') = true ∧ decide (m < m') = false ∧ (m == m') = true ∧ decide (d < d') = false ∧ (d == d') = true)) ∨
           (bf = false ∧ be = false ∧ ((decide (y < y') = false ∧ (y == y') = false) ∨ (decide (y < y') = false ∧ (y == y') = true ∧ decide (m < m') = false ∧ (m == m') = false) ∨ (decide (y < y') = false ∧ (y == y') = true ∧ decide (m < m') = false ∧ (m == m') = true ∧ decide (d < d') = false ∧ (d == d') = false)))) := by
        rcases M.bef_total (y := y) (m := m) (d := d) (y' := y') (m' := m') (d' := d') with hb | hb | hb
        · have hl := M.cnt_lt hv hv' hb
          refine ⟨true, false, by simpa using hl, by rw [hT]; simpa using hb, by simp; omega, .inl ⟨rfl, rfl, bef_cases hb⟩⟩
        · obtain ⟨rfl, rfl, rfl⟩ := hb
          refine ⟨false, true, by simp, by rw [hT]; simp [M.bef], by simp, .inr (.inl ⟨rfl, rfl, by simp⟩)⟩
        · have hl := M.cnt_lt hv' hv hb
          have hn : ¬ M.bef y m d y' m' d' := by unfold M.bef at *; omega
          refine ⟨false, false, by simp; omega, by rw [hT]; simpa using hn, by simp; omega, .inr (.inr ⟨rfl, rfl, bef_cases' hb⟩)⟩
      clear hT
      obtain ⟨bf, be, k1, k2, k3, ⟨rfl, rfl, ⟨c1, c2⟩ | ⟨c1, c2, c3, c4⟩ | ⟨c1, c2, c3, c4, c5, c6⟩⟩ | ⟨rfl, rfl, c1, c2, c3, c4, c5, c6⟩ | ⟨rfl, rfl, ⟨c1, c2⟩ | ⟨c1, c2, c3, c4⟩ | ⟨c1, c2, c3, c4, c5, c6⟩⟩⟩ := H
      all_goals
        go_enter Try.func11, Try.ntmps11
        go_wp2_with (go_at_call 14; refine (awake_any _).mono ?_; rintro e w1 ⟨rfl, hb1⟩; obtain ⟨hc1, hf1⟩ := bcell hb1)
        refine (Day_ok _ hv).mono ?_; rintro e w2 ⟨rfl, hb2⟩; obtain ⟨hc2, hf2⟩ := bcell hb2
        have q1 : w.heap.size + 1 < w1.heap.size := by have := hb1.size; simp at this; omega
        have q1' : w.heap.size < w1.heap.size := by omega
        have q2 : w.heap.size + 1 < w2.heap.size := by have := hb2.size; omega
        have q2' : w.heap.size < w2.heap.size := by omega
        go_wp2_with fail
        refine (Day_ok _ hv').mono ?_; rintro e w3 ⟨rfl, hb3⟩; obtain ⟨hc3, hf3⟩ := bcell hb3
        have q3 : w.heap.size + 1 < w3.heap.size := by have := hb3.size; omega
        have q3' : w.heap.size < w3.heap.size := by omega
        go_wp2_with fail
        have hS := Abv.cells w3
        refine wp_region_abv (by kernel_rfl) (by kernel_rfl) ?_
        repeat (go_big_quiet_step ((first | (go_at_call 33; exact abv_call (cText_any _ _ _ _)))))
        refine wpQuiet_nil ?_
        rintro w4 hb4
        go_wp2
        go_ret
        have B1 : Below w.heap.size w w1 := ((((Below.refl _ _).alloc (Nat.le_refl _) _).alloc (by simp) _).trans (hb1.mono (by simp; omega)))
        exact ⟨rfl, ((B1.trans (hb2.mono (by omega))).trans (hb3.mono (by omega))).trans (hb4.mono (by omega))⟩

end Go.Proofs.Ytgjbcdbhbbimcaa
