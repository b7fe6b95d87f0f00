/- Walks: granule.Years of January. -/
import Derived.Test.YtainibnjpkbfpaaCalW21
import Derived.Deep.RegionHeld3
import Derived.Deep.DrawnRows
import Derived.Lib.SliceRun
namespace Go.Proofs.Ytainibnjpkbfpaa.Cv
set_option linter.unusedVariables false
set_option linter.unusedSimpArgs false
open Go.RowKit Wl

theorem ln_one (f : Nat → Int) (n : Nat) : ∀ u ∈ ln f n, u.oneCell' = true := by
  intro u hu; simp only [ln, List.mem_map] at hu; obtain ⟨_, _, rfl⟩ := hu; rfl
theorem iclone_any {g m d o : Nat} {f : Nat → Int} (w : World) (hd : Hid (Rd w 1 (some ⟨g, o, none⟩) m d (ln f m))) (hm : m ≤ 1073741824) :
    Calls Try.prog 61 #[.slice (some ⟨g, o, none⟩) m d] w fun e w' => ∃ A c, e = .returned (.slice A m c) ∧ w'.ownsRow w.heap.size 3 1 (.slice A m c) m (ln f m) ∧ Below w.heap.size w w' := by
  obtain ⟨i0, hi, hz0, hz1, hz2⟩ := info_parts info_int
  have q22 := fun w : World => Lib.run_eql_slice_nil (P := Try.prog) w 77 3 (some ⟨g, o, none⟩) m d 0 0 Try.underlying77
  go_enter Try.func61, Try.ntmps61
  go_wp2_with (at_builtin; refine wpList_app _ rfl (.tmp 5) (.tmp 6) 77 rfl w.heap.size 3 i0 (.int .i64 0) 1 8 Try.underlying77 hi hz0 hz1 hz2 rfl (by omega) (by rfl) (own_lit w _ 1 #[] 0 (Nat.le_refl _) (by unfold maxLen; omega) rfl) (by rfl) (hd.out.alloc _) (ln_one _ _) (by omega) (by omega) (by simp) ?_; intro A1 c1 w1 own1 g1)
  go_ret
  rw [Nat.zero_add] at own1
  exact ⟨A1, c1, rfl, own1, g1.low ((Below.refl _ _).alloc (Nat.le_refl _) _) (by simp) (fun g e => by simp [blk] at e; omega)⟩
theorem mst_sum (y m : Nat) : mst (12 * y + m) - mst (12 * y) + (mst (12 * y + m + 1) - mst (12 * y + m)) = mst (12 * y + (m + 1)) - mst (12 * y) := by rw [Nat.add_assoc]; omega
set_option maxRecDepth 20000 in
set_option maxHeartbeats 6400000 in
theorem Years_any (w : World) : Calls Try.prog 31 #[.int .i64 1] w fun e w' => ∃ g : Nat, e = .returned (.tuple #[.agg #[.int .i64 0, .int .i64 146097, .slice (some ⟨g, 0, none⟩) 400 400], .int .i64 0]) ∧ w.heap.size ≤ g ∧ Hid (Sr w' (some ⟨g, 0, none⟩) 400 400 (sp yst 400)) ∧ Below w.heap.size w w' := by
  obtain ⟨i0, hi, hz0, hz1, hz2⟩ := info_parts info_int
  obtain ⟨W0, hW0⟩ : ∃ W0, w.alloc (.cells #[.int .i64 0, .int .i64 0, .slice none 0 0] 24) = W0 := ⟨_, rfl⟩
  have hb0 : Below w.heap.size w W0 := hW0 ▸ bal _ _
  have C0 : Hid (Cb W0 w.heap.size (.int .i64 0) (.int .i64 0) (.slice none 0 0)) := Lib.hid (hW0 ▸ Cb.new _ _ _ _ _)
  have hs0 : W0.heap.size = w.heap.size + 1 := by rw [← hW0]; simp
  have HW0 := Lib.hid hW0
  clear hW0
  have YT := Lib.hid yst_top
  go_enter Try.func31, Try.ntmps31
  go_wp2_with fail
  rw [HW0.out]
  go_at_call 60
  refine (months_any _).mono ?_
  rintro e w1 ⟨A, c, rfl, O1, b1⟩
  obtain ⟨N, hN⟩ : ∃ N : Nat, N = 4800 := ⟨_, rfl⟩
  rw [← hN] at O1 ⊢
  have HN := Lib.hid hN
  have hN5 : N ≤ 5000 := by omega
  have hN1 : 1 ≤ N := by omega
  clear hN
  obtain ⟨g1, rfl, hc1, hc2⟩ := own_pos O1.out (by omega)
  have bw1 := hb0.trans (b1.mono hb0.size)
  have hz1' := b1.size
  have R1 := Lib.hid (Rd.of_own O1.out)
  go_wp2_with fail
  go_loopw [5, 26] (fun ov iv wr => ov = .int .i64 0 ∧ iv = .int .i64 0 ∧ w1 = wr) (fun _ _ _ => 0)
  case atStart => exact ⟨rfl, rfl, rfl⟩
  case round =>
    obtain ⟨rfl, rfl, rfl⟩ := hrel
    go_wp2_with fail
    have bd : Below w1.heap.size w1 w1.drew := (Below.refl _ _).drew
    have R2 := Lib.hid (R1.out.below bd)
    have hcI : (N : Int) ≤ (c : Int) := by omega
    have hcJ : (c : Int) ≤ 9223372036854775807 := by omega
    have hcK : (0 : Int) ≤ (c : Int) := by omega
    have hcL : ¬ c = 0 := by omega
    have hw0 : IntKind.i64.wrap 0 = 0 := rfl
    have hNI : (0 : Int) ≤ (N : Int) := by omega
    have hND : decide ((N : Int) ≤ (c : Int)) = true := by simp; omega
    have hcM : 0 < c := by omega
    have hcN : ¬ 0 = c := by omega
    go_region_held3 (fun w' => True) (trivial)
      (first
        | (go_at_call 61; refine (iclone_any _ R2 (by omega)).mono ?_; rintro e w2 ⟨A2, c2, rfl, own2, b2⟩)
        | (
          refine step_app (n := N) (c := c2) (xs := ln mst N) (m := 0) (d := c) (news := []) _ (by rfl) (.tmp 38) (.tmp 42) 77 (by rfl) w1.drew.heap.size 3 i0 (.int .i64 0) 1 8 Try.underlying77 hi hz0 hz1 hz2 rfl (by omega) (by rfl) own2 (by rfl) ?_ (by simp) ?_ (by omega) ?_ ?_
          · exact ⟨rfl, by omega, fun e => (by cases e), by omega, fun h => by omega⟩
          · omega
          · exact b2.size
          intro A3 c3 w3 own3 g3))
    simp only [Nat.add_zero, List.append_nil] at own3 g3 ⊢
    obtain ⟨g3', rfl, jc1, jc2⟩ := own_pos own3 (by omega)
    have B3 := Lib.hid (bd.trans ((g3.low b2 b2.size (fun g e => (own_blk_le own2 e).1)).mono bd.size))
    have O3 := Lib.hid (Rd.of_own own3)
    have gl3 : g3' < w3.heap.size := (own_blk_le own3 (g := g3') rfl).2
    clear own3 g3 own2 b2
    go_wp2_with fail
    go_loopw [8, 9] (fun yv iv wr => ∃ (y : Nat) (A' : Option Addr) (c' : Nat), y ≤ 400 ∧ iv = .int .i64 ((12 * y : Nat) : Int) ∧ yv = .slice A' y c' ∧ Hid (wr.ownsRow w3.heap.size 3 1 (.slice A' y c') y (ln yst y)) ∧ Hid (Below w3.heap.size w3 wr)) (fun _ i _ => (4800 - intOf i).toNat)
    case atStart => exact ⟨0, none, 0, by omega, rfl, rfl, Lib.hid (World.ownsRow_nil _ _ _ _), Lib.hid (Below.refl _ _)⟩
    case round =>
      obtain ⟨y, A', c', hy, rfl, rfl, hown, bw⟩ := hrel
      have hzw := bw.out.size
      have O4 := Lib.hid (O3.out.below bw.out)
      by_cases hlt : y < 400
      · have hN' := HN.out
        have k1 : ((12 * y : Nat) : Int) < (N : Int) := by omega
        have k2 : (0 : Int) ≤ ((12 * y : Nat) : Int) := by omega
        have k3 : ((12 * y : Nat) : Int) + 12 = ((12 * y + 12 : Nat) : Int) := by omega
        have k4 : ((12 * y + 12 : Nat) : Int) ≤ (c3 : Int) := by omega
        have k5 : ((12 * y : Nat) : Int) ≤ ((12 * y + 12 : Nat) : Int) := by omega
        have k6 : ¬ c3 = 12 * y := by omega
        have k7 : 12 * y + 12 - 12 * y = 12 := by omega
        have k8 : 12 * y + 12 ≤ N := by omega
        obtain ⟨p, hp⟩ : ∃ p, 12 * y = p := ⟨_, rfl⟩
        have HP := Lib.hid hp
        rw [hp] at k1 k2 k3 k4 k5 k6 k7 k8 ⊢
        obtain ⟨r, hr⟩ : ∃ r, p + 12 = r := ⟨_, rfl⟩
        have HR := Lib.hid hr
        rw [hr] at k3 k4 k5 k7 k8
        clear hp hN' hr
        go_wp2_with fail
        have hpy : p = 12 * y := HP.out.symm
        go_loopw [10, 56] (fun nv iv wq => ∃ m : Nat, m ≤ 12 ∧ iv = .int .i64 (m : Int) ∧ nv = .int .i64 (mst (12 * y + m) - mst (12 * y)) ∧ wr = wq) (fun _ i _ => (12 - intOf i).toNat)
        case atStart => exact ⟨0, by omega, rfl, by simp, rfl⟩
        case round =>
          obtain ⟨m, hm, rfl, rfl, rfl⟩ := hrel
          by_cases hmt : m < 12
          · obtain ⟨_, _, e1, hg, hc⟩ := O4.out.at_ (by omega)
            injection e1 with e1
            injection e1 with e1 e2
            subst e1 e2
            have r0 := hc (12 * y + m) (by omega)
            rw [ln_get (by omega), Nat.zero_add, ← hpy] at r0
            clear hc
            have SU := Lib.hid (mst_sum y m)
            obtain ⟨a1, a2⟩ := mInc.bd (i := 12 * y) (by omega)
            obtain ⟨b1', b2'⟩ := mInc.bd (i := 12 * y + m) (by omega)
            obtain ⟨c1', c2'⟩ := mInc.bd (i := 12 * y + (m + 1)) (by omega)
            have hs := mst_sum y m
            rw [← hpy] at hs
            obtain ⟨u, hu⟩ : ∃ u, mst (p + m) - mst p = u := ⟨_, rfl⟩
            obtain ⟨v, hv⟩ : ∃ v, mst (p + m + 1) - mst (p + m) = v := ⟨_, rfl⟩
            obtain ⟨z, hz⟩ : ∃ z, mst (p + (m + 1)) - mst p = z := ⟨_, rfl⟩
            rw [hu, hv, hz] at hs
            rw [hv] at r0
            rw [← hpy, hu]
            have ub1 : -12622780800 ≤ u := by rw [← hu, hpy]; omega
            have ub2 : u ≤ 12622780800 := by rw [← hu, hpy]; omega
            have zb1 : -12622780800 ≤ z := by rw [← hz, hpy]; omega
            have zb2 : z ≤ 12622780800 := by rw [← hz, hpy]; omega
            have HZ := Lib.hid hz
            have km : (m : Int) < 12 := by omega
            clear hu hv hz SU a1 a2 b1' b2' c1' c2' hpy
            go_wp2_with fail
            go_roundw
            case rel => exact ⟨m + 1, by omega, by go_num, by rw [HZ.out], by first | rfl | trivial⟩
            case measure => simp [intOf]; omega
          · obtain rfl : m = 12 := by omega
            have YS : Hid (ln yst (y + 1) = ln yst y ++ [.int .i64 (mst (12 * y + 12) - mst (12 * y))]) := Lib.hid (by
              rw [ln_succ, mst_y, show 12 * y + 12 = 12 * (y + 1) by omega, mst_y])
            obtain ⟨z, hz⟩ : ∃ z, mst (12 * y + 12) - mst (12 * y) = z := ⟨_, rfl⟩
            rw [hz] at YS ⊢
            clear hz
            go_wp2_with (at_builtin; refine wpList_app _ rfl (.tmp 64) (.tmp 66) 77 rfl w3.heap.size 3 i0 (.int .i64 0) 1 8 Try.underlying77 hi hz0 hz1 hz2 rfl (by omega) (by rfl) (own_alloc hown.out _) (by rfl) (Rd.lit _ _ 1 #[.int .i64 z] 1 (by omega) rfl) (one1 _ rfl) (by omega) (by omega) (by simp; omega) ?_; intro A1 c1 w4 hown1 hg1)
            have b4 : Below w3.heap.size w3 w4 := hg1.low (bel_alloc bw.out (Nat.le_refl _) _) (by simp; omega) (fun g e => (own_blk_le hown.out e).1)
            refine ⟨⟨y + 1, A1, c1, by omega, congrArg (Value.int .i64) (by push_cast; omega), rfl, Lib.hid ?_, Lib.hid b4⟩, by simp [intOf]; omega⟩
            rw [YS.out]; exact hown1
      · obtain rfl : y = 400 := by omega
        have hN' := HN.out
        have k1 : ¬ ((12 * 400 : Nat) : Int) < (N : Int) := by omega
        have RD := Lib.hid (Rd.of_own hown.out)
        clear hN'
        go_wp2_with fail
        go_at_call 62
        refine (row_any _ RD (Lib.hid yInc) (by omega) (by omega) (by omega) (by omega) (Lib.hid (by rw [yst_top]; exact y_lst))).mono ?_
        rintro e w5 ⟨g, rfl, hg, S5, b5⟩
        rw [YT.out]
        have bz : Below w.heap.size w w5 := ((bw1.trans (B3.out.mono (by omega))).trans (bw.out.mono (by have := B3.out.size; omega))).trans (b5.mono (by have := B3.out.size; omega))
        have hz3 := B3.out.size
        have C5 := (((C0.out.step b1).step B3.out).step bw.out).step b5
        have C6 := C5.all (.int .i64 0) (.int .i64 146097) (.slice (some ⟨g, 0, none⟩) 400 400)
        obtain ⟨t0, e0, e1, e2, f0, f1, f2⟩ := C5
        go_wp2_with fail
        clear t0 e0 e1 e2 f0 f1 f2
        obtain ⟨t0, e0, e1, e2, f0, f1, f2⟩ := C6
        have SZ : Sr _ (some ⟨g, 0, none⟩) 400 400 (sp yst 400) := ((Rd.set S5.out ⟨w.heap.size, 0, none⟩ (.int .i64 0) (fun _ e => by simp [blk] at e; omega)).set ⟨w.heap.size, 1, none⟩ (.int .i64 146097) (fun _ e => by simp [blk] at e; omega)).set ⟨w.heap.size, 2, none⟩ (.slice (some ⟨g, 0, none⟩) 400 400) (fun _ e => by simp [blk] at e; omega)
        exact bodyPost_ret (v := .tuple #[.agg #[.int .i64 0, .int .i64 146097, .slice (some ⟨g, 0, none⟩) 400 400], .int .i64 0]) (by simp [results, Try.results31, go_sem, e0, e1, e2, t0]) rfl ⟨_, rfl, by omega, Lib.hid SZ, ((bz.setCell (by simp) _).setCell (by simp) _).setCell (by simp) _⟩
end Go.Proofs.Ytainibnjpkbfpaa.Cv
