/- Walks: valid calendars, by the reference. -/
import Derived.Test.YtainibnjpkbfpaaCalW4
namespace Go.Proofs.Ytainibnjpkbfpaa.Cv
set_option linter.unusedVariables false
set_option linter.unusedSimpArgs false
open Go.RowKit Wl

set_option maxRecDepth 20000 in
set_option maxHeartbeats 6400000 in
theorem rValid_any {A : Option Addr} {n c : Nat} {l : List (Int × Int)} (o p : Int) (w : World) (h : Hid (Sr w A n c l)) :
    Calls Try.prog 13 #[.agg #[.int .i64 o, .int .i64 p, .slice A n c]] w fun e w' => e = .returned (.bool (vld ⟨o, p, l⟩)) ∧ Below w.heap.size w w' := by
  have hnc := h.out.nc
  have hc63 := h.out.c63
  have hl := Lib.hid h.out.len
  obtain ⟨W0, hW0⟩ : ∃ W0, w.alloc (.cells #[.int .i64 o, .int .i64 p, .slice A n c] 24) = W0 := ⟨_, rfl⟩
  obtain ⟨q0, q1, q2⟩ := box3 w (.int .i64 o) (.int .i64 p) (.slice A n c) 24
  have r1 := q1
  have r2 := q2
  rw [hW0] at q0 q1 q2
  have hz0 : w.heap.size < W0.heap.size := by rw [← hW0]; simp
  have hb0 : Below w.heap.size w W0 := hW0 ▸ (Below.refl _ _).alloc (Nat.le_refl _) _
  have h0 := Lib.hid (h.out.below hb0)
  have HW0 := Lib.hid hW0
  clear hW0
  have fin : ∀ {w2 : World}, Below W0.heap.size W0 w2 → Below w.heap.size w w2 := fun hb => hb0.trans (hb.mono hb0.size)
  have HB : Hid (half o = decide (-2199023255552 ≤ o ∧ o ≤ 2199023255552)) := Lib.hid rfl
  have SC : 5000 < n ∨ (n ≤ 5000 ∧ (p < 1 ∨ 12622780800 < p ∨ ((1 ≤ p ∧ p ≤ 12622780800) ∧ (o < -2199023255552 ∨ 2199023255552 < o ∨ ((-2199023255552 ≤ o ∧ o ≤ 2199023255552) ∧ (ascB l = false ∨ ascB l = true)))))) := by
    rcases ascB l with _ | _ <;> simp <;> omega
  rcases SC with h1 | ⟨h2, h3 | h3 | ⟨⟨h3, h4⟩, h5 | h5 | ⟨⟨h5, h5'⟩, h6 | h6⟩⟩⟩
  · have R := Lib.hid (vld_f (o := o) (p := p) (l := l) (by have := hl.out; omega))
    have d1 : decide (5000 < (n : Int)) = true := by simp; omega
    go_enter Try.func13, Try.ntmps13
    go_wp2_with (first | (rw [HW0.out]; go_at_call 46; refine (listed_any _ h0).mono ?_; rintro e w2 ⟨rfl, b2⟩) | fail)
    go_ret
    exact ⟨ret_bool R.out.symm, by rw [HW0.out]; exact fin (Below.refl _ _)⟩
  · have R := Lib.hid (vld_f (o := o) (p := p) (l := l) (by have := hl.out; omega))
    have d1 : decide (5000 < (n : Int)) = false := by simp; omega
    have d2 : decide (p < 1) = true := by simp; omega
    go_enter Try.func13, Try.ntmps13
    go_wp2_with (first | (rw [HW0.out]; go_at_call 46; refine (listed_any _ h0).mono ?_; rintro e w2 ⟨rfl, b2⟩) | fail)
    go_ret
    exact ⟨ret_bool R.out.symm, by rw [HW0.out]; exact fin (Below.refl _ _)⟩
  · have R := Lib.hid (vld_f (o := o) (p := p) (l := l) (by have := hl.out; omega))
    have d1 : decide (5000 < (n : Int)) = false := by simp; omega
    have d2 : decide (p < 1) = false := by simp; omega
    have d3 : decide (12622780800 < p) = true := by simp; omega
    go_enter Try.func13, Try.ntmps13
    go_wp2_with (first | (rw [HW0.out]; go_at_call 46; refine (listed_any _ h0).mono ?_; rintro e w2 ⟨rfl, b2⟩) | fail)
    go_ret
    exact ⟨ret_bool R.out.symm, by rw [HW0.out]; exact fin (Below.refl _ _)⟩
  · have R := Lib.hid (vld_f (o := o) (p := p) (l := l) (by rw [HB.out, decide_eq_true_iff]; omega))
    have d1 : decide (5000 < (n : Int)) = false := by simp; omega
    have d2 : decide (p < 1) = false := by simp; omega
    have d3 : decide (12622780800 < p) = false := by simp; omega
    have d4 : decide (o < -2199023255552) = true := by simp; omega
    go_enter Try.func13, Try.ntmps13
    go_wp2_with (first | (rw [HW0.out]; go_at_call 46; refine (listed_any _ h0).mono ?_; rintro e w2 ⟨rfl, b2⟩) | fail)
    go_ret
    exact ⟨ret_bool R.out.symm, by rw [HW0.out]; exact fin (Below.refl _ _)⟩
  · have R := Lib.hid (vld_f (o := o) (p := p) (l := l) (by rw [HB.out, decide_eq_true_iff]; omega))
    have d1 : decide (5000 < (n : Int)) = false := by simp; omega
    have d2 : decide (p < 1) = false := by simp; omega
    have d3 : decide (12622780800 < p) = false := by simp; omega
    have d4 : decide (o < -2199023255552) = false := by simp; omega
    have d5 : decide (2199023255552 < o) = true := by simp; omega
    go_enter Try.func13, Try.ntmps13
    go_wp2_with (first | (rw [HW0.out]; go_at_call 46; refine (listed_any _ h0).mono ?_; rintro e w2 ⟨rfl, b2⟩) | fail)
    go_ret
    exact ⟨ret_bool R.out.symm, by rw [HW0.out]; exact fin (Below.refl _ _)⟩
  · have R := Lib.hid (vld_f (o := o) (p := p) (l := l) (by rw [h6]; simp))
    have d1 : decide (5000 < (n : Int)) = false := by simp; omega
    have d2 : decide (p < 1) = false := by simp; omega
    have d3 : decide (12622780800 < p) = false := by simp; omega
    have d4 : decide (o < -2199023255552) = false := by simp; omega
    have d5 : decide (2199023255552 < o) = false := by simp; omega
    go_enter Try.func13, Try.ntmps13
    go_wp2_with (first | (rw [HW0.out]; go_at_call 46; refine (listed_any _ h0).mono ?_; rintro e w2 ⟨rfl, b2⟩) | fail)
    go_ret
    exact ⟨ret_bool R.out.symm, fin b2⟩
  · have BD := Lib.hid (bd_asc h6)
    have d1 : decide (5000 < (n : Int)) = false := by simp; omega
    have d2 : decide (p < 1) = false := by simp; omega
    have d3 : decide (12622780800 < p) = false := by simp; omega
    have d4 : decide (o < -2199023255552) = false := by simp; omega
    have d5 : decide (2199023255552 < o) = false := by simp; omega
    have HH : Hid (half o = true) := Lib.hid (by rw [HB.out]; exact decide_eq_true ⟨h5, h5'⟩)
    have hn0 : 0 < n := by
      have : 0 < l.length := by unfold ascB at h6; rw [decide_eq_true_iff] at h6; exact h6.1
      have := hl.out; omega
    have HA := Lib.hid h6
    obtain ⟨x, hx⟩ : ∃ x, (gt l 0).1 = x := ⟨_, rfl⟩
    obtain ⟨y, hy⟩ : ∃ y, (gt l (l.length - 1)).2 = y := ⟨_, rfl⟩
    have HX := Lib.hid hx
    have HY := Lib.hid hy
    obtain ⟨m, hm⟩ : ∃ m, n - 1 = m := ⟨_, rfl⟩
    have hm1 : (n : Int) - 1 = (m : Int) := by omega
    have hmn : m < n := by omega
    have hml : l.length - 1 = m := by have := hl.out; omega
    have HM := Lib.hid hml
    clear hm hx hy hml
    go_enter Try.func13, Try.ntmps13
    go_wp2_with (first | (rw [HW0.out]; go_at_call 46; refine (listed_any _ h0).mono ?_; rintro e w1 ⟨rfl, b1⟩; have c1 := (b1.cell (p := ⟨w.heap.size, 1, none⟩) hz0).trans q1; have c2 := (b1.cell (p := ⟨w.heap.size, 2, none⟩) hz0).trans q2) | fail)
    have s1 := Lib.hid (h0.out.below b1)
    obtain ⟨g, o', rfl, hg, a0, _⟩ := s1.out.at_ (i := 0) hn0
    rw [Nat.zero_mul, Nat.add_zero, HX.out] at a0
    obtain ⟨_, _, e1⟩ := s1.out.at2 hmn
    rw [← HM.out, HY.out, HM.out] at e1
    have z1 := b1.size
    have hz1 : w.heap.size < w1.heap.size := by omega
    clear r1 r2 q0 q1 q2
    by_cases h7 : x = 0
    · subst h7
      by_cases h8 : y ≤ p
      · have R := Lib.hid (vld_l (o := o) (p := p) (l := l) ⟨by have := hl.out; omega, by have := hl.out; omega, h3, h4, HH.out, HA.out, HX.out, by rw [HY.out]; exact h8⟩)
        have h8' : decide (y ≤ p) = true := by simpa using h8
        have hS := Abv.cells w1
        refine wp_region_abv (by kernel_rfl) (by kernel_rfl) ?_
        repeat (go_big_quiet_step (((go_at_call 47; exact abv_call (rleast_any p _ (Lib.hid (s1.out.below (Abv.bel _))) BD (by omega) h3 h4)))))
        refine wpQuiet_nil ?_
        rintro w2 hw2
        clear hS
        go_wp2_with fail
        go_ret
        exact ⟨ret_bool (by rw [R.out, ← hl.out]), fin (b1.trans (hw2.mono b1.size))⟩
      · have R := Lib.hid (vld_f (o := o) (p := p) (l := l) (by rw [HY.out]; omega))
        have h8' : decide (y ≤ p) = false := by simp; omega
        have hS := Abv.cells w1
        refine wp_region_abv (by kernel_rfl) (by kernel_rfl) ?_
        repeat (go_big_quiet_step ((fail)))
        refine wpQuiet_nil ?_
        rintro w2 hw2
        clear hS
        go_wp2_with fail
        go_ret
        exact ⟨ret_bool R.out.symm, fin (b1.trans (hw2.mono b1.size))⟩
    · have R := Lib.hid (vld_f (o := o) (p := p) (l := l) (by rw [HX.out]; omega))
      have h7' : (x == 0) = false := by simpa using h7
      have hS := Abv.cells w1
      refine wp_region_abv (by kernel_rfl) (by kernel_rfl) ?_
      repeat (go_big_quiet_step ((fail)))
      refine wpQuiet_nil ?_
      rintro w2 hw2
      clear hS
      go_wp2_with fail
      go_ret
      exact ⟨ret_bool R.out.symm, fin (b1.trans (hw2.mono b1.size))⟩
end Go.Proofs.Ytainibnjpkbfpaa.Cv
