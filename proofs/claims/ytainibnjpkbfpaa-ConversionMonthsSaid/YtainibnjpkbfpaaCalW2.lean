/- Walks: ascending lists. -/
import Derived.Test.YtainibnjpkbfpaaCalW1
import Derived.Lib.SliceRun
namespace Go.Proofs.Ytainibnjpkbfpaa.Cv
set_option linter.unusedVariables false
set_option linter.unusedSimpArgs false
open Go.RowKit Wl

theorem asc_t {l : List (Int × Int)} (h0 : 0 < l.length) (h : ∀ i, i < l.length → okAt l i = true) : ascB l = true := by unfold ascB; exact decide_eq_true ⟨h0, h⟩
theorem asc_f {l : List (Int × Int)} {i : Nat} (hi : i < l.length) (h : okAt l i = false) : ascB l = false := by
  unfold ascB
  exact decide_eq_false fun ⟨_, k⟩ => by rw [k i hi] at h; cases h
theorem asc_0 {l : List (Int × Int)} (h0 : l.length = 0) : ascB l = false := by unfold ascB; exact decide_eq_false fun ⟨k, _⟩ => by omega
theorem okAt_f1 {l : List (Int × Int)} {i : Nat} {s : Int × Int} (h : gt l i = s) (hs : svld s = false) : okAt l i = false := by unfold okAt; rw [h, hs]; rfl
theorem okAt_f2 {l : List (Int × Int)} {i : Nat} {s : Int × Int} (h : gt l (i + 1) = s) (hs : s.1 < (gt l i).2) : okAt l (i + 1) = false := by
  unfold okAt; rw [h, Nat.add_sub_cancel]
  have : decide ((gt l i).2 ≤ s.1) = false := decide_eq_false (by omega)
  rw [this]; simp
theorem okAt_t0 {l : List (Int × Int)} {s : Int × Int} (h : gt l 0 = s) (hs : svld s = true) : okAt l 0 = true := by unfold okAt; rw [h, hs]; rfl
theorem okAt_t {l : List (Int × Int)} {i : Nat} {s : Int × Int} (h : gt l (i + 1) = s) (hs : svld s = true) (h2 : (gt l i).2 ≤ s.1) : okAt l (i + 1) = true := by
  unfold okAt; rw [h, hs, Nat.add_sub_cancel]; simp [h2]
theorem up1 {l : List (Int × Int)} {j : Nat} (h : ∀ i, i < j → okAt l i = true) (hj : okAt l j = true) : ∀ i, i < j + 1 → okAt l i = true := fun i hi => by
  rcases Nat.lt_or_ge i j with h1 | h1
  · exact h i h1
  · rw [show i = j by omega]; exact hj
set_option maxHeartbeats 1600000 in
theorem ascending_any {A : Option Addr} {n c : Nat} {l : List (Int × Int)} (w : World) (h : Hid (Sr w A n c l)) : Calls Try.prog 75 #[.slice A n c] w fun e w' => e = .returned (.bool (ascB l)) ∧ Below w.heap.size w w' := by
  have hnc := h.out.nc
  have hc63 := h.out.c63
  have hl := Lib.hid h.out.len
  go_enter Try.func75, Try.ntmps75
  go_wp2_with fail
  go_loopw [7] (fun i wr => ∃ j : Nat, j ≤ n ∧ i = .int .i64 j ∧ Below w.heap.size w wr ∧ Hid (∀ i, i < j → okAt l i = true)) (fun i _ => (n - intOf i).toNat)
  case atStart => exact ⟨0, by omega, rfl, Below.refl _ _, Lib.hid fun i hi => by omega⟩
  case round =>
    obtain ⟨j, hj, rfl, bw, hpre⟩ := hrel
    have hz := bw.size
    by_cases hlt : j < n
    · obtain ⟨g, o, rfl, hg, a0, a1⟩ := (h.out.below bw).at_ hlt
      obtain ⟨⟨x, y⟩, hxy⟩ : ∃ s, gt l j = s := ⟨_, rfl⟩
      rw [hxy] at a0 a1
      obtain ⟨Wa, hWa⟩ : ∃ Wa, wr.alloc (.cells #[.int .i64 x, .int .i64 y] 35) = Wa := ⟨_, rfl⟩
      obtain ⟨q0, q1⟩ := box2 wr (.int .i64 x) (.int .i64 y) 35
      rw [hWa] at q0 q1
      have hza : wr.heap.size < Wa.heap.size := by rw [← hWa]; simp
      have hba : Below w.heap.size w Wa := hWa ▸ bel_alloc bw (Nat.le_refl _) _
      have hga : g < Wa.heap.size := by omega
      have HWa := Lib.hid hWa
      have HXY := Lib.hid hxy
      clear hWa hxy
      rcases hs : svld (x, y) with _ | _
      · have R := Lib.hid (asc_f (by have := hl.out; omega) (okAt_f1 HXY.out hs))
        go_wp2_with fail
        rw [HWa.out]
        have hS := Abv.cells Wa
        refine wp_region_abv (by kernel_rfl) (by kernel_rfl) ?_
        repeat (go_big_quiet_step ((go_at_call 52; exact abv_call (iValid_any x y _))))
        refine wpQuiet_nil ?_
        rintro w2 hw2
        clear hS
        go_wp2_with fail
        go_ret
        exact ⟨ret_bool R.out.symm, hba.trans (hw2.mono hba.size)⟩
      · rcases Nat.eq_zero_or_pos j with rfl | hj0
        · have R := Lib.hid (up1 hpre.out (okAt_t0 HXY.out hs))
          rw [Nat.zero_mul, Nat.add_zero] at a0 a1
          go_wp2_with fail
          rw [HWa.out]
          have hS := Abv.cells Wa
          refine wp_region_abv (by kernel_rfl) (by kernel_rfl) ?_
          repeat (go_big_quiet_step ((go_at_call 52; exact abv_call (iValid_any x y _))))
          refine wpQuiet_nil ?_
          rintro w2 hw2
          clear hS
          go_wp2_with fail
          go_roundw
          case rel => exact ⟨0 + 1, by omega, by go_num, hba.trans (hw2.mono hba.size), R⟩
          case measure => simp [intOf]; omega
        · obtain ⟨k, rfl⟩ : ∃ k, j = k + 1 := ⟨j - 1, by omega⟩
          obtain ⟨_, _, p1⟩ := (h.out.below hba).at2 (i := k) (by omega)
          have jsub : ((k + 1 : Nat) : Int) - 1 = (k : Int) := by omega
          by_cases ht : x < (gt l k).2
          · have R := Lib.hid (asc_f (by have := hl.out; omega) (okAt_f2 HXY.out ht))
            obtain ⟨u, hu⟩ : ∃ u, (gt l k).2 = u := ⟨_, rfl⟩
            rw [hu] at p1 ht
            clear hu
            go_wp2_with fail
            rw [HWa.out]
            have hS := Abv.cells Wa
            refine wp_region_abv (by kernel_rfl) (by kernel_rfl) ?_
            repeat (go_big_quiet_step ((go_at_call 52; exact abv_call (iValid_any x y _))))
            refine wpQuiet_nil ?_
            rintro w2 hw2
            clear hS
            go_wp2_with fail
            go_ret
            exact ⟨ret_bool R.out.symm, hba.trans (hw2.mono hba.size)⟩
          · have R := Lib.hid (up1 hpre.out (okAt_t HXY.out hs (by show _ ≤ x; omega)))
            obtain ⟨u, hu⟩ : ∃ u, (gt l k).2 = u := ⟨_, rfl⟩
            rw [hu] at p1 ht
            have ht' : decide (x < u) = false := by simp; omega
            clear hu ht
            go_wp2_with fail
            rw [HWa.out]
            have hS := Abv.cells Wa
            refine wp_region_abv (by kernel_rfl) (by kernel_rfl) ?_
            repeat (go_big_quiet_step ((go_at_call 52; exact abv_call (iValid_any x y _))))
            refine wpQuiet_nil ?_
            rintro w2 hw2
            clear hS
            go_wp2_with fail
            go_roundw
            case rel => exact ⟨k + 1 + 1, by omega, by go_num, hba.trans (hw2.mono hba.size), R⟩
            case measure => simp [intOf]; omega
    · obtain rfl : j = n := by omega
      rcases Nat.eq_zero_or_pos j with rfl | hj0
      · have R := Lib.hid (asc_0 (l := l) (by have := hl.out; omega))
        go_wp2_with fail
        go_ret
        exact ⟨ret_bool R.out.symm, bw⟩
      · have R := Lib.hid (asc_t (by have := hl.out; omega) (fun i hi => hpre.out i (by have := hl.out; omega)))
        go_wp2_with fail
        go_ret
        exact ⟨ret_bool (by rw [R.out]), bw⟩
set_option maxHeartbeats 1600000 in
theorem listed_any {A : Option Addr} {n c : Nat} {l : List (Int × Int)} (w : World) (h : Hid (Sr w A n c l)) : Calls Try.prog 46 #[.slice A n c] w fun e w' => e = .returned (.bool (ascB l)) ∧ Below w.heap.size w w' := by
  have hnc := h.out.nc
  have hc63 := h.out.c63
  have hl := Lib.hid h.out.len
  go_enter Try.func46, Try.ntmps46
  go_wp2_with fail
  go_loopw [3] (fun i wr => ∃ j : Nat, j ≤ n ∧ i = .int .i64 j ∧ Below w.heap.size w wr ∧ Hid (∀ i, i < j → okAt l i = true)) (fun i _ => (n - intOf i).toNat)
  case atStart => exact ⟨0, by omega, rfl, Below.refl _ _, Lib.hid fun i hi => by omega⟩
  case round =>
    obtain ⟨j, hj, rfl, bw, hpre⟩ := hrel
    have hz := bw.size
    by_cases hlt : j < n
    · obtain ⟨g, o, rfl, hg, a0, a1⟩ := (h.out.below bw).at_ hlt
      obtain ⟨⟨x, y⟩, hxy⟩ : ∃ s, gt l j = s := ⟨_, rfl⟩
      rw [hxy] at a0 a1
      have HXY := Lib.hid hxy
      clear hxy
      rcases hs : svld (x, y) with _ | _
      · have R := Lib.hid (asc_f (by have := hl.out; omega) (okAt_f1 HXY.out hs))
        go_wp2_with fail
        have hS := Abv.cells wr
        refine wp_region_abv (by kernel_rfl) (by kernel_rfl) ?_
        repeat (go_big_quiet_step ((go_at_call 78; exact abv_call (r10Valid_any x y _))))
        refine wpQuiet_nil ?_
        rintro w2 hw2
        clear hS
        go_wp2_with fail
        go_ret
        exact ⟨ret_bool R.out.symm, bw.trans (hw2.mono hz)⟩
      · rcases Nat.eq_zero_or_pos j with rfl | hj0
        · have R := Lib.hid (up1 hpre.out (okAt_t0 HXY.out hs))
          rw [Nat.zero_mul, Nat.add_zero] at a0 a1
          go_wp2_with fail
          have hS := Abv.cells wr
          refine wp_region_abv (by kernel_rfl) (by kernel_rfl) ?_
          repeat (go_big_quiet_step ((go_at_call 78; exact abv_call (r10Valid_any x y _))))
          refine wpQuiet_nil ?_
          rintro w2 hw2
          clear hS
          go_wp2_with fail
          go_roundw
          case rel => exact ⟨0 + 1, by omega, by go_num, bw.trans (hw2.mono hz), R⟩
          case measure => simp [intOf]; omega
        · obtain ⟨k, rfl⟩ : ∃ k, j = k + 1 := ⟨j - 1, by omega⟩
          obtain ⟨_, _, p1⟩ := (h.out.below bw).at2 (i := k) (by omega)
          have jsub : ((k + 1 : Nat) : Int) - 1 = (k : Int) := by omega
          by_cases ht : x < (gt l k).2
          · have R := Lib.hid (asc_f (by have := hl.out; omega) (okAt_f2 HXY.out ht))
            obtain ⟨u, hu⟩ : ∃ u, (gt l k).2 = u := ⟨_, rfl⟩
            rw [hu] at p1 ht
            clear hu
            go_wp2_with fail
            have hS := Abv.cells wr
            refine wp_region_abv (by kernel_rfl) (by kernel_rfl) ?_
            repeat (go_big_quiet_step ((go_at_call 78; exact abv_call (r10Valid_any x y _))))
            refine wpQuiet_nil ?_
            rintro w2 hw2
            clear hS
            go_wp2_with fail
            go_ret
            exact ⟨ret_bool R.out.symm, bw.trans (hw2.mono hz)⟩
          · have R := Lib.hid (up1 hpre.out (okAt_t HXY.out hs (by show _ ≤ x; omega)))
            obtain ⟨u, hu⟩ : ∃ u, (gt l k).2 = u := ⟨_, rfl⟩
            rw [hu] at p1 ht
            have ht' : decide (x < u) = false := by simp; omega
            clear hu ht
            go_wp2_with fail
            have hS := Abv.cells wr
            refine wp_region_abv (by kernel_rfl) (by kernel_rfl) ?_
            repeat (go_big_quiet_step ((go_at_call 78; exact abv_call (r10Valid_any x y _))))
            refine wpQuiet_nil ?_
            rintro w2 hw2
            clear hS
            go_wp2_with fail
            go_roundw
            case rel => exact ⟨k + 1 + 1, by omega, by go_num, bw.trans (hw2.mono hz), R⟩
            case measure => simp [intOf]; omega
    · obtain rfl : j = n := by omega
      rcases Nat.eq_zero_or_pos j with rfl | hj0
      · have R := Lib.hid (asc_0 (l := l) (by have := hl.out; omega))
        go_wp2_with fail
        go_ret
        exact ⟨ret_bool R.out.symm, bw⟩
      · have R := Lib.hid (asc_t (by have := hl.out; omega) (fun i hi => hpre.out i (by have := hl.out; omega)))
        go_wp2_with fail
        go_ret
        exact ⟨ret_bool (by rw [R.out]), bw⟩
end Go.Proofs.Ytainibnjpkbfpaa.Cv
