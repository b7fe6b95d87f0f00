/- Walks: valid calendars. -/
import Derived.Test.YtainibnjpkbfpaaCalW3
namespace Go.Proofs.Ytainibnjpkbfpaa.Cv
set_option linter.unusedVariables false
set_option linter.unusedSimpArgs false
open Go.RowKit Wl

def cal (o p : Int) (A : Option Addr) (n c : Nat) : Value := .agg #[.int .i64 o, .int .i64 p, .slice A n c]
theorem vld_f {o p : Int} {l : List (Int × Int)} (h : ¬ (1 ≤ l.length ∧ l.length ≤ 5000 ∧ 1 ≤ p ∧ p ≤ 12622780800 ∧ half o = true ∧ ascB l = true ∧ (gt l 0).1 = 0 ∧ (gt l (l.length - 1)).2 ≤ p)) : vld ⟨o, p, l⟩ = false := by
  unfold vld; exact decide_eq_false fun ⟨h1, h2, h3, h4, h5, h6, h7, h8, _⟩ => h ⟨h1, h2, h3, h4, h5, h6, h7, h8⟩
theorem vld_l {o p : Int} {l : List (Int × Int)} (h : 1 ≤ l.length ∧ l.length ≤ 5000 ∧ 1 ≤ p ∧ p ≤ 12622780800 ∧ half o = true ∧ ascB l = true ∧ (gt l 0).1 = 0 ∧ (gt l (l.length - 1)).2 ≤ p) : vld ⟨o, p, l⟩ = (((lst p l : Nat) : Int) == (l.length : Int)) := by
  unfold vld
  by_cases e : lst p l = l.length
  · rw [decide_eq_true (by exact ⟨h.1, h.2.1, h.2.2.1, h.2.2.2.1, h.2.2.2.2.1, h.2.2.2.2.2.1, h.2.2.2.2.2.2.1, h.2.2.2.2.2.2.2, e⟩), e]; simp
  · rw [decide_eq_false (fun k => e k.2.2.2.2.2.2.2.2)]
    symm; simp; omega
set_option maxRecDepth 20000 in
set_option maxHeartbeats 6400000 in
theorem Valid_any {A : Option Addr} {n c : Nat} {l : List (Int × Int)} (o p : Int) (w : World) (h : Hid (Sr w A n c l)) :
    Calls Try.prog 43 #[.agg #[.int .i64 o, .int .i64 p, .slice A n c]] w fun e w' => e = .returned (.bool (vld ⟨o, p, l⟩)) ∧ Below w.heap.size w w' := by
  have hnc := h.out.nc
  have hc63 := h.out.c63
  have hl := Lib.hid h.out.len
  obtain ⟨W0, hW0⟩ : ∃ W0, w.alloc (.cells #[.int .i64 o, .int .i64 p, .slice A n c] 24) = W0 := ⟨_, rfl⟩
  obtain ⟨q0, q1, q2⟩ := box3 w (.int .i64 o) (.int .i64 p) (.slice A n c) 24
  rw [hW0] at q0 q1 q2
  have hz0 : w.heap.size < W0.heap.size := by rw [← hW0]; simp
  have hb0 : Below w.heap.size w W0 := hW0 ▸ (Below.refl _ _).alloc (Nat.le_refl _) _
  have h0 := Lib.hid (h.out.below hb0)
  have HW0 := Lib.hid hW0
  clear hW0
  have fin : ∀ {w2 : World}, Below W0.heap.size W0 w2 → Below w.heap.size w w2 := fun hb => hb0.trans (hb.mono hb0.size)
  have SC : n = 0 ∨ 5000 < n ∨ ((1 ≤ n ∧ n ≤ 5000) ∧ (p < 1 ∨ 12622780800 < p ∨ ((1 ≤ p ∧ p ≤ 12622780800) ∧ (half o = false ∨ (half o = true ∧ (ascB l = false ∨ ascB l = true)))))) := by
    rcases half o with _ | _ <;> rcases ascB l with _ | _ <;> simp <;> omega
  rcases SC with rfl | h1 | ⟨⟨h1, h2⟩, h3 | h3 | ⟨⟨h3, h4⟩, h5 | ⟨h5, h6 | h6⟩⟩⟩
  · have R := Lib.hid (vld_f (o := o) (p := p) (l := l) (by have := hl.out; omega))
    go_enter Try.func43, Try.ntmps43
    go_wp2_with fail
    rw [HW0.out]
    have hS := Abv.cells W0
    refine wp_region_abv (by kernel_rfl) (by kernel_rfl) ?_
    repeat (go_big_quiet_step ((fail)))
    refine wpQuiet_nil ?_
    rintro w2 hw2
    clear hS
    go_wp2_with fail
    go_ret
    exact ⟨ret_bool R.out.symm, fin hw2⟩
  · have R := Lib.hid (vld_f (o := o) (p := p) (l := l) (by have := hl.out; omega))
    have d1 : decide ((n : Int) < 1) = false := by simp; omega
    have d2 : decide (5000 < (n : Int)) = true := by simp; omega
    go_enter Try.func43, Try.ntmps43
    go_wp2_with fail
    rw [HW0.out]
    have hS := Abv.cells W0
    refine wp_region_abv (by kernel_rfl) (by kernel_rfl) ?_
    repeat (go_big_quiet_step ((fail)))
    refine wpQuiet_nil ?_
    rintro w2 hw2
    clear hS
    go_wp2_with fail
    go_ret
    exact ⟨ret_bool R.out.symm, fin hw2⟩
  · have R := Lib.hid (vld_f (o := o) (p := p) (l := l) (by have := hl.out; omega))
    have d1 : decide ((n : Int) < 1) = false := by simp; omega
    have d2 : decide (5000 < (n : Int)) = false := by simp; omega
    have d3 : decide (p < 1) = true := by simp; omega
    go_enter Try.func43, Try.ntmps43
    go_wp2_with fail
    rw [HW0.out]
    have hS := Abv.cells W0
    refine wp_region_abv (by kernel_rfl) (by kernel_rfl) ?_
    repeat (go_big_quiet_step ((fail)))
    refine wpQuiet_nil ?_
    rintro w2 hw2
    clear hS
    go_wp2_with fail
    go_ret
    exact ⟨ret_bool R.out.symm, fin hw2⟩
  · have R := Lib.hid (vld_f (o := o) (p := p) (l := l) (by have := hl.out; omega))
    have d1 : decide ((n : Int) < 1) = false := by simp; omega
    have d2 : decide (5000 < (n : Int)) = false := by simp; omega
    have d3 : decide (p < 1) = false := by simp; omega
    have d4 : decide (12622780800 < p) = true := by simp; omega
    go_enter Try.func43, Try.ntmps43
    go_wp2_with fail
    rw [HW0.out]
    have hS := Abv.cells W0
    refine wp_region_abv (by kernel_rfl) (by kernel_rfl) ?_
    repeat (go_big_quiet_step ((fail)))
    refine wpQuiet_nil ?_
    rintro w2 hw2
    clear hS
    go_wp2_with fail
    go_ret
    exact ⟨ret_bool R.out.symm, fin hw2⟩
  · have R := Lib.hid (vld_f (o := o) (p := p) (l := l) (by rw [h5]; simp))
    have d1 : decide ((n : Int) < 1) = false := by simp; omega
    have d2 : decide (5000 < (n : Int)) = false := by simp; omega
    have d3 : decide (p < 1) = false := by simp; omega
    have d4 : decide (12622780800 < p) = false := by simp; omega
    go_enter Try.func43, Try.ntmps43
    go_wp2_with fail
    rw [HW0.out]
    have hS := Abv.cells W0
    refine wp_region_abv (by kernel_rfl) (by kernel_rfl) ?_
    repeat (go_big_quiet_step (((go_at_call 74; exact abv_same (half_any o _)))))
    refine wpQuiet_nil ?_
    rintro w2 hw2
    clear hS
    go_wp2_with fail
    go_ret
    exact ⟨ret_bool R.out.symm, fin hw2⟩
  · have R := Lib.hid (vld_f (o := o) (p := p) (l := l) (by rw [h6]; simp))
    have d1 : decide ((n : Int) < 1) = false := by simp; omega
    have d2 : decide (5000 < (n : Int)) = false := by simp; omega
    have d3 : decide (p < 1) = false := by simp; omega
    have d4 : decide (12622780800 < p) = false := by simp; omega
    go_enter Try.func43, Try.ntmps43
    go_wp2_with fail
    rw [HW0.out]
    have hS := Abv.cells W0
    refine wp_region_abv (by kernel_rfl) (by kernel_rfl) ?_
    repeat (go_big_quiet_step ((first | (go_at_call 74; exact abv_same (half_any o _)) | (go_at_call 75; exact abv_call (ascending_any _ (Lib.hid (h0.out.below (Abv.bel _))))))))
    refine wpQuiet_nil ?_
    rintro w2 hw2
    clear hS
    go_wp2_with fail
    go_ret
    exact ⟨ret_bool R.out.symm, fin hw2⟩
  · have BD := Lib.hid (bd_asc h6)
    have d1 : decide ((n : Int) < 1) = false := by simp; omega
    have d2 : decide (5000 < (n : Int)) = false := by simp; omega
    have d3 : decide (p < 1) = false := by simp; omega
    have d4 : decide (12622780800 < p) = false := by simp; omega
    obtain ⟨g, o', rfl, hg, a0, _⟩ := h0.out.at_ (i := 0) (by omega)
    rw [Nat.zero_mul, Nat.add_zero] at a0
    obtain ⟨_, _, b1⟩ := h0.out.at2 (i := n - 1) (by omega)
    have hnl : n - 1 = l.length - 1 := by have := hl.out; omega
    have hn1 : ((n - 1 : Nat) : Int) = (n : Int) - 1 := by omega
    rw [hnl] at b1
    obtain ⟨x, hx⟩ : ∃ x, (gt l 0).1 = x := ⟨_, rfl⟩
    obtain ⟨y, hy⟩ : ∃ y, (gt l (l.length - 1)).2 = y := ⟨_, rfl⟩
    rw [hx] at a0
    rw [hy, ← hnl] at b1
    have HX := Lib.hid hx
    have HY := Lib.hid hy
    have HO := Lib.hid h5
    have HA := Lib.hid h6
    obtain ⟨m, hm⟩ : ∃ m, n - 1 = m := ⟨_, rfl⟩
    rw [hm] at b1
    have hm1 : (n : Int) - 1 = (m : Int) := by omega
    have hmn : m < n := by omega
    clear hm
    clear hnl hn1 hx hy
    by_cases h7 : x = 0
    · subst h7
      by_cases h8 : y ≤ p
      · have R := Lib.hid (vld_l (o := o) (p := p) (l := l) ⟨by have := hl.out; omega, by have := hl.out; omega, h3, h4, h5, h6, HX.out, by rw [HY.out]; exact h8⟩)
        have h8' : decide (p < y) = false := by simp; omega
        go_enter Try.func43, Try.ntmps43
        go_wp2_with fail
        rw [HW0.out]
        have hS := Abv.cells W0
        refine wp_region_abv (by kernel_rfl) (by kernel_rfl) ?_
        repeat (go_big_quiet_step ((first | (go_at_call 74; exact abv_same (half_any o _)) | (go_at_call 75; exact abv_call (ascending_any _ (Lib.hid (h0.out.below (Abv.bel _))))))))
        refine wpQuiet_nil ?_
        rintro w2 hw2
        clear hS
        have c1 := (hw2.cell (p := ⟨w.heap.size, 1, none⟩) hz0).trans q1
        have c2 := (hw2.cell (p := ⟨w.heap.size, 2, none⟩) hz0).trans q2
        have h2 := Lib.hid (h0.out.below hw2)
        go_wp2_with fail
        go_at_call 76
        refine (least_any p _ h2 BD (by omega) h3 h4).mono ?_
        rintro e w3 ⟨rfl, b3⟩
        go_wp2_with fail
        go_ret
        exact ⟨ret_bool (by rw [R.out, ← hl.out]), (fin hw2).trans (b3.mono (fin hw2).size)⟩
      · have R := Lib.hid (vld_f (o := o) (p := p) (l := l) (by rw [HY.out]; omega))
        have h8' : decide (p < y) = true := by simp; omega
        go_enter Try.func43, Try.ntmps43
        go_wp2_with fail
        rw [HW0.out]
        have hS := Abv.cells W0
        refine wp_region_abv (by kernel_rfl) (by kernel_rfl) ?_
        repeat (go_big_quiet_step ((first | (go_at_call 74; exact abv_same (half_any o _)) | (go_at_call 75; exact abv_call (ascending_any _ (Lib.hid (h0.out.below (Abv.bel _))))))))
        refine wpQuiet_nil ?_
        rintro w2 hw2
        clear hS
        go_wp2_with fail
        go_ret
        exact ⟨ret_bool R.out.symm, fin hw2⟩
    · have R := Lib.hid (vld_f (o := o) (p := p) (l := l) (by rw [HX.out]; omega))
      have h7' : (x != 0) = true := by simpa using h7
      go_enter Try.func43, Try.ntmps43
      go_wp2_with fail
      rw [HW0.out]
      have hS := Abv.cells W0
      refine wp_region_abv (by kernel_rfl) (by kernel_rfl) ?_
      repeat (go_big_quiet_step ((first | (go_at_call 74; exact abv_same (half_any o _)) | (go_at_call 75; exact abv_call (ascending_any _ (Lib.hid (h0.out.below (Abv.bel _))))))))
      refine wpQuiet_nil ?_
      rintro w2 hw2
      clear hS
      go_wp2_with fail
      go_ret
      exact ⟨ret_bool R.out.symm, fin hw2⟩
end Go.Proofs.Ytainibnjpkbfpaa.Cv
