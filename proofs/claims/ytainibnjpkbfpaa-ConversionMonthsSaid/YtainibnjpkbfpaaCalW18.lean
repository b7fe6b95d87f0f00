/- Walks: the reference's Up, Add. -/
import Derived.Test.YtainibnjpkbfpaaCalW17
namespace Go.Proofs.Ytainibnjpkbfpaa.Cv
set_option linter.unusedVariables false
set_option linter.unusedSimpArgs false
open Go.RowKit Wl

set_option maxRecDepth 20000 in
set_option maxHeartbeats 3200000 in
theorem rUp_any {A B : Option Addr} {n cp m cq : Nat} {o p r s : Int} {l g : List (Int × Int)} (x : Int) (w : World) (h : Hid (Sr w A n cp l)) (k : Hid (Sr w B m cq g)) (hv : Hid (Vc ⟨o, p, l⟩)) (kv : Hid (Vc ⟨r, s, g⟩)) (x1 : -9223372036854775808 ≤ x) (x2 : x ≤ 9223372036854775807) :
    Calls Try.prog 27 #[.agg #[.int .i64 o, .int .i64 p, .slice A n cp], .agg #[.int .i64 r, .int .i64 s, .slice B m cq], .int .i64 x] w fun e w' => e = .returned (.tuple #[.int .i64 (upv ⟨o, p, l⟩ ⟨r, s, g⟩ x).1, .bool (upv ⟨o, p, l⟩ ⟨r, s, g⟩ x).2]) ∧ Below w.heap.size w w' := by
  obtain ⟨W0, hW0⟩ : ∃ W0, (w.alloc (.cells #[.int .i64 o, .int .i64 p, .slice A n cp] 24)).alloc (.cells #[.int .i64 r, .int .i64 s, .slice B m cq] 24) = W0 := ⟨_, rfl⟩
  have F0 : Hid (Fx w W0 w.heap.size o p A n cp l) := Lib.hid (by rw [← hW0]; exact (Fx.new _ _ h.out).alloc _)
  have G0 : Hid (Fx w W0 (w.heap.size + 1) r s B m cq g) := Lib.hid (by rw [← hW0]; exact Fx.new2 _ _ _ k.out)
  have HW0 := Lib.hid hW0
  clear hW0
  obtain ⟨z0, c0, c1, c2⟩ := F0.out.bx
  obtain ⟨y0, d0, d1, d2⟩ := G0.out.bx
  obtain ⟨⟨u, v⟩, hs⟩ : ∃ y, rz ⟨o, p, l⟩ x = y := ⟨_, rfl⟩
  have HS := Lib.hid hs
  rcases hr : rch ⟨o, p, l⟩ x with _ | _
  all_goals have HR := Lib.hid hr
  · have R : Hid (upv ⟨o, p, l⟩ ⟨r, s, g⟩ x = (0, false)) := Lib.hid (by unfold upv; rw [hr]; simp)
    clear hr hs
    go_enter Try.func27, Try.ntmps27
    go_wp2_with fail
    rw [HW0.out]
    go_at_call 29
    refine (rReach_at _ (Fx.hsr F0) hv x1 x2 HS HR).mono ?_
    rintro e w1 ⟨rfl, b1⟩
    have F1 := Lib.hid ((F0.out.step b1).alloc (.cells #[.int .i64 u, .int .i64 v] 35))
    go_wp2_with fail
    go_ret2
    exact ⟨ret_ib (congrArg Prod.fst R.out) (congrArg Prod.snd R.out), F1.out.bel⟩
  · have sp1 := hs
    rw [rz_t hr] at sp1
    clear hs
    have ⟨u1, u2⟩ := rch_p hr
    have ul := hv.out.pl_lt x
    rw [sp1] at u1 u2 ul
    have u1' : -4398046511103 ≤ u := u1
    have u2' : v ≤ 4398046511103 := u2
    have ul' : u < v := ul
    have nb := kv.out.nr_bd (x := u) (by omega) (by omega)
    have GK := Lib.hid (kv.out.grk_nr (x := u) (by omega) (by omega))
    obtain ⟨k', hk⟩ : ∃ k, nr ⟨r, s, g⟩ u = k := ⟨_, rfl⟩
    rw [hk] at nb GK
    have HK := Lib.hid hk
    obtain ⟨⟨u', v'⟩, huv⟩ : ∃ z, pl ⟨r, s, g⟩ k' = z := ⟨_, rfl⟩
    have HP := Lib.hid huv
    have RR : Hid (upv ⟨o, p, l⟩ ⟨r, s, g⟩ x = if v ≤ v' then (k', true) else (0, false)) := Lib.hid (by
      unfold upv; rw [hr, sp1]; dsimp only; rw [hk, huv]; simp)
    clear hr sp1 u1 u2 ul hk huv
    rcases hd : decide (v' < v) with _ | _
    · have R := RR.out.trans (if_pos (by simp at hd; omega))
      replace R := Lib.hid R
      go_enter Try.func27, Try.ntmps27
      go_wp2_with fail
      rw [HW0.out]
      go_at_call 29
      refine (rReach_at _ (Fx.hsr F0) hv x1 x2 HS HR).mono ?_
      rintro e w1 ⟨rfl, b1⟩
      have F1 := Lib.hid (F0.out.step b1)
      have G1 := Lib.hid (G0.out.step b1)
      clear c0 c1 c2 z0 d0 d1 d2 y0
      obtain ⟨z0, c0, c1, c2⟩ := F1.out.bx
      obtain ⟨y0, d0, d1, d2⟩ := G1.out.bx
      go_wp2_with fail
      obtain ⟨W2, hW2⟩ : ∃ W2, w1.alloc (.cells #[.int .i64 u, .int .i64 v] 35) = W2 := ⟨_, rfl⟩
      have b2 : Below w1.heap.size w1 W2 := hW2 ▸ bal _ _
      have U2 := Lib.hid (Sb.new w1 u v 35)
      rw [hW2] at U2
      rw [hW2]
      clear hW2
      have F2 := Lib.hid (F1.out.step b2)
      have G2 := Lib.hid (G1.out.step b2)
      clear c0 c1 c2 z0 d0 d1 d2 y0
      obtain ⟨z0, c0, c1, c2⟩ := F2.out.bx
      obtain ⟨y0, d0, d1, d2⟩ := G2.out.bx
      go_at_call 21
      refine (rNear_at _ (Fx.hsr G2) kv (by omega) (by omega) HK).mono ?_
      rintro e w3 ⟨rfl, b3⟩
      have U3 := Lib.hid (U2.out.below b3)
      have F3 := Lib.hid (F2.out.step b3)
      have G3 := Lib.hid (G2.out.step b3)
      clear c0 c1 c2 z0 d0 d1 d2 y0
      obtain ⟨z0, c0, c1, c2⟩ := F3.out.bx
      obtain ⟨y0, d0, d1, d2⟩ := G3.out.bx
      go_wp2_with fail
      go_at_call 28
      refine (rGran_at _ (Fx.hsr G3) kv (by omega) (by omega) GK HP).mono ?_
      rintro e w4 ⟨rfl, b4⟩
      have U4 := Lib.hid (U3.out.below b4)
      have F4 := Lib.hid (F3.out.step b4)
      have G4 := Lib.hid (G3.out.step b4)
      clear c0 c1 c2 z0 d0 d1 d2 y0
      obtain ⟨z0, c0, c1, c2⟩ := F4.out.bx
      obtain ⟨y0, d0, d1, d2⟩ := G4.out.bx
      obtain ⟨i0, j0, j1, _, _⟩ := U4.out
      have F5 := Lib.hid (F4.out.alloc (.cells #[.int .i64 u', .int .i64 v'] 35))
      go_wp2_with fail
      go_ret2
      exact ⟨ret_ib (congrArg Prod.fst R.out) (congrArg Prod.snd R.out), F5.out.bel⟩
    · have R := RR.out.trans (if_neg (by simp at hd; omega))
      replace R := Lib.hid R
      go_enter Try.func27, Try.ntmps27
      go_wp2_with fail
      rw [HW0.out]
      go_at_call 29
      refine (rReach_at _ (Fx.hsr F0) hv x1 x2 HS HR).mono ?_
      rintro e w1 ⟨rfl, b1⟩
      have F1 := Lib.hid (F0.out.step b1)
      have G1 := Lib.hid (G0.out.step b1)
      clear c0 c1 c2 z0 d0 d1 d2 y0
      obtain ⟨z0, c0, c1, c2⟩ := F1.out.bx
      obtain ⟨y0, d0, d1, d2⟩ := G1.out.bx
      go_wp2_with fail
      obtain ⟨W2, hW2⟩ : ∃ W2, w1.alloc (.cells #[.int .i64 u, .int .i64 v] 35) = W2 := ⟨_, rfl⟩
      have b2 : Below w1.heap.size w1 W2 := hW2 ▸ bal _ _
      have U2 := Lib.hid (Sb.new w1 u v 35)
      rw [hW2] at U2
      rw [hW2]
      clear hW2
      have F2 := Lib.hid (F1.out.step b2)
      have G2 := Lib.hid (G1.out.step b2)
      clear c0 c1 c2 z0 d0 d1 d2 y0
      obtain ⟨z0, c0, c1, c2⟩ := F2.out.bx
      obtain ⟨y0, d0, d1, d2⟩ := G2.out.bx
      go_at_call 21
      refine (rNear_at _ (Fx.hsr G2) kv (by omega) (by omega) HK).mono ?_
      rintro e w3 ⟨rfl, b3⟩
      have U3 := Lib.hid (U2.out.below b3)
      have F3 := Lib.hid (F2.out.step b3)
      have G3 := Lib.hid (G2.out.step b3)
      clear c0 c1 c2 z0 d0 d1 d2 y0
      obtain ⟨z0, c0, c1, c2⟩ := F3.out.bx
      obtain ⟨y0, d0, d1, d2⟩ := G3.out.bx
      go_wp2_with fail
      go_at_call 28
      refine (rGran_at _ (Fx.hsr G3) kv (by omega) (by omega) GK HP).mono ?_
      rintro e w4 ⟨rfl, b4⟩
      have U4 := Lib.hid (U3.out.below b4)
      have F4 := Lib.hid (F3.out.step b4)
      have G4 := Lib.hid (G3.out.step b4)
      clear c0 c1 c2 z0 d0 d1 d2 y0
      obtain ⟨z0, c0, c1, c2⟩ := F4.out.bx
      obtain ⟨y0, d0, d1, d2⟩ := G4.out.bx
      obtain ⟨i0, j0, j1, _, _⟩ := U4.out
      have F5 := Lib.hid (F4.out.alloc (.cells #[.int .i64 u', .int .i64 v'] 35))
      go_wp2_with fail
      go_ret2
      exact ⟨ret_ib (congrArg Prod.fst R.out) (congrArg Prod.snd R.out), F5.out.bel⟩
set_option maxRecDepth 20000 in
set_option maxHeartbeats 3200000 in
theorem rAdd_any {A : Option Addr} {n cp : Nat} {o p : Int} {l : List (Int × Int)} (x y : Int) (w : World) (h : Hid (Sr w A n cp l)) (hv : Hid (Vc ⟨o, p, l⟩)) :
    Calls Try.prog 14 #[.agg #[.int .i64 o, .int .i64 p, .slice A n cp], .int .i64 x, .int .i64 y] w fun e w' => e = .returned (.tuple #[.int .i64 (adp ⟨o, p, l⟩ x y).1, .int .i64 (adp ⟨o, p, l⟩ x y).2]) ∧ Below w.heap.size w w' := by
  obtain ⟨W0, hW0⟩ : ∃ W0, w.alloc (.cells #[.int .i64 o, .int .i64 p, .slice A n cp] 24) = W0 := ⟨_, rfl⟩
  have F0 : Hid (Fx w W0 w.heap.size o p A n cp l) := Lib.hid (by rw [← hW0]; exact Fx.new _ _ h.out)
  have HW0 := Lib.hid hW0
  clear hW0
  obtain ⟨z0, c0, c1, c2⟩ := F0.out.bx
  rcases hx : line x with _ | _
  · have R := Lib.hid (adp_1 (c := ⟨o, p, l⟩) (x := x) (n := y) (by rw [hx]; simp))
    go_enter Try.func14, Try.ntmps14
    go_wp2_with fail
    rw [HW0.out]
    go_at_call 19
    refine (r17line_any x _).mono ?_
    rintro e w0 ⟨rfl, rfl⟩
    rw [hx]
    go_wp2_with fail
    go_ret2
    exact ⟨ret_int2 (congrArg Prod.fst R.out).symm (congrArg Prod.snd R.out).symm, F0.out.bel⟩
  · rcases hy : line y with _ | _
    · have R := Lib.hid (adp_1 (c := ⟨o, p, l⟩) (x := x) (n := y) (by rw [hy]; simp))
      go_enter Try.func14, Try.ntmps14
      go_wp2_with fail
      rw [HW0.out]
      go_at_call 19
      refine (r17line_any x _).mono ?_
      rintro e w0 ⟨rfl, rfl⟩
      rw [hx]
      go_wp2_with fail
      go_at_call 19
      refine (r17line_any y _).mono ?_
      rintro e w0 ⟨rfl, rfl⟩
      rw [hy]
      go_wp2_with fail
      go_ret2
      exact ⟨ret_int2 (congrArg Prod.fst R.out).symm (congrArg Prod.snd R.out).symm, F0.out.bel⟩
    · have ⟨x1, x2⟩ := line_p hx
      have ⟨y1, y2⟩ := line_p hy
      have nb := hv.out.nr_bd (x := x) (by omega) (by omega)
      have GK := Lib.hid (hv.out.grk_nr (x := x) (by omega) (by omega))
      have nl := hv.out.nr_lo x
      have nh := (hv.out.near x).1
      have pp : p ≤ 12622780800 := hv.out.p2
      obtain ⟨i, hk⟩ : ∃ k, nr ⟨o, p, l⟩ x = k := ⟨_, rfl⟩
      rw [hk] at nb GK nl nh
      have HK := Lib.hid hk
      obtain ⟨⟨u', v'⟩, huv⟩ : ∃ z, pl ⟨o, p, l⟩ i = z := ⟨_, rfl⟩
      have HP := Lib.hid huv
      have nl1 : x - p < (pl ⟨o, p, l⟩ i).1 := nl
      rw [huv] at nh nl1
      have nh' : u' ≤ x := nh
      have nl' : x - p < u' := nl1
      have FT : x < v' → fnd ⟨o, p, l⟩ x = (i, true) := fun hc => by unfold fnd; rw [hk, huv, if_pos ⟨hx, hc⟩]
      have FF : ¬ x < v' → fnd ⟨o, p, l⟩ x = (0, false) := fun hc => by unfold fnd; rw [hk, huv, if_neg (fun h => hc h.2)]
      clear hk nl nl1 nh
      rcases hd : decide (v' ≤ x) with _ | _
      · have hf := FT (by simp at hd; omega)
        have LX := Lib.hid hx
        have LY := Lib.hid hy
        clear FT FF
        obtain ⟨⟨u, v⟩, hs⟩ : ∃ z, rz ⟨o, p, l⟩ (i + y) = z := ⟨_, rfl⟩
        have HS := Lib.hid hs
        rcases hr : rch ⟨o, p, l⟩ (i + y) with _ | _
        all_goals have HR := Lib.hid hr
        · have R := Lib.hid (adp_3 ⟨hx, hy⟩ hf hr)
          clear hf hr hs hx hy huv
          go_enter Try.func14, Try.ntmps14
          go_wp2_with fail
          rw [HW0.out]
          go_at_call 19
          refine (r17line_any x _).mono ?_
          rintro e w0 ⟨rfl, rfl⟩
          rw [LX.out]
          go_wp2_with fail
          go_at_call 19
          refine (r17line_any y _).mono ?_
          rintro e w0 ⟨rfl, rfl⟩
          rw [LY.out]
          go_wp2_with fail
          go_at_call 21
          refine (rNear_at _ (Fx.hsr F0) hv (by omega) (by omega) HK).mono ?_
          rintro e w1 ⟨rfl, b1⟩
          have F1 := Lib.hid (F0.out.step b1)
          clear c0 c1 c2 z0
          obtain ⟨z0, c0, c1, c2⟩ := F1.out.bx
          go_wp2_with fail
          go_at_call 28
          refine (rGran_at _ (Fx.hsr F1) hv (by omega) (by omega) GK HP).mono ?_
          rintro e w2 ⟨rfl, b2⟩
          have F2 := Lib.hid (F1.out.step b2)
          clear c0 c1 c2 z0
          obtain ⟨z0, c0, c1, c2⟩ := F2.out.bx
          go_wp2_with fail
          obtain ⟨W3, hW3⟩ : ∃ W3, w2.alloc (.cells #[.int .i64 u', .int .i64 v'] 35) = W3 := ⟨_, rfl⟩
          have b3 : Below w2.heap.size w2 W3 := hW3 ▸ bal _ _
          have U3 := Lib.hid (Sb.new w2 u' v' 35)
          rw [hW3] at U3
          rw [hW3]
          clear hW3
          have F3 := Lib.hid (F2.out.step b3)
          clear c0 c1 c2 z0
          obtain ⟨z0, c0, c1, c2⟩ := F3.out.bx
          go_at_call 29
          refine (rReach_at _ (Fx.hsr F3) hv (by omega) (by omega) HS HR).mono ?_
          rintro e w4 ⟨rfl, b4⟩
          have U4 := Lib.hid (U3.out.below b4)
          obtain ⟨i0, j0, j1, _, _⟩ := U4.out
          have F4 := Lib.hid (F3.out.step b4)
          clear c0 c1 c2 z0
          obtain ⟨z0, c0, c1, c2⟩ := F4.out.bx
          have F5 := Lib.hid (F4.out.alloc (.cells #[.int .i64 u, .int .i64 v] 35))
          go_wp2_with fail
          go_ret2
          exact ⟨ret_int2 (congrArg Prod.fst R.out).symm (congrArg Prod.snd R.out).symm, F5.out.bel⟩
        · have sp1 := hs
          rw [rz_t hr] at sp1
          have ⟨u1, u2⟩ := rch_p hr
          have ul := hv.out.pl_lt (i + y)
          rw [sp1] at u1 u2 ul
          have u1' : -4398046511103 ≤ u := u1
          have u2' : v ≤ 4398046511103 := u2
          have ul' : u < v := ul
          have R := Lib.hid (adp_4 ⟨hx, hy⟩ hf hr sp1 huv)
          clear hf hr hs hx hy huv sp1 u1 u2 ul
          go_enter Try.func14, Try.ntmps14
          go_wp2_with fail
          rw [HW0.out]
          go_at_call 19
          refine (r17line_any x _).mono ?_
          rintro e w0 ⟨rfl, rfl⟩
          rw [LX.out]
          go_wp2_with fail
          go_at_call 19
          refine (r17line_any y _).mono ?_
          rintro e w0 ⟨rfl, rfl⟩
          rw [LY.out]
          go_wp2_with fail
          go_at_call 21
          refine (rNear_at _ (Fx.hsr F0) hv (by omega) (by omega) HK).mono ?_
          rintro e w1 ⟨rfl, b1⟩
          have F1 := Lib.hid (F0.out.step b1)
          clear c0 c1 c2 z0
          obtain ⟨z0, c0, c1, c2⟩ := F1.out.bx
          go_wp2_with fail
          go_at_call 28
          refine (rGran_at _ (Fx.hsr F1) hv (by omega) (by omega) GK HP).mono ?_
          rintro e w2 ⟨rfl, b2⟩
          have F2 := Lib.hid (F1.out.step b2)
          clear c0 c1 c2 z0
          obtain ⟨z0, c0, c1, c2⟩ := F2.out.bx
          go_wp2_with fail
          obtain ⟨W3, hW3⟩ : ∃ W3, w2.alloc (.cells #[.int .i64 u', .int .i64 v'] 35) = W3 := ⟨_, rfl⟩
          have b3 : Below w2.heap.size w2 W3 := hW3 ▸ bal _ _
          have U3 := Lib.hid (Sb.new w2 u' v' 35)
          rw [hW3] at U3
          rw [hW3]
          clear hW3
          have F3 := Lib.hid (F2.out.step b3)
          clear c0 c1 c2 z0
          obtain ⟨z0, c0, c1, c2⟩ := F3.out.bx
          go_at_call 29
          refine (rReach_at _ (Fx.hsr F3) hv (by omega) (by omega) HS HR).mono ?_
          rintro e w4 ⟨rfl, b4⟩
          have U4 := Lib.hid (U3.out.below b4)
          obtain ⟨i0, j0, j1, _, _⟩ := U4.out
          have F4 := Lib.hid (F3.out.step b4)
          clear c0 c1 c2 z0
          obtain ⟨z0, c0, c1, c2⟩ := F4.out.bx
          have F5 := Lib.hid (F4.out.alloc (.cells #[.int .i64 u, .int .i64 v] 35))
          go_wp2_with fail
          all_goals first
            | (exfalso; omega)
            | (go_ret2; exact ⟨ret_int2 ((congrArg Prod.fst R.out).trans (by first | rfl | (dsimp only; omega))).symm (congrArg Prod.snd R.out).symm, F5.out.bel⟩)
      · have R := Lib.hid (adp_2 (n := y) ⟨hx, hy⟩ (FF (by simp at hd; omega)))
        have LX := Lib.hid hx
        have LY := Lib.hid hy
        clear FT FF hx hy huv
        go_enter Try.func14, Try.ntmps14
        go_wp2_with fail
        rw [HW0.out]
        go_at_call 19
        refine (r17line_any x _).mono ?_
        rintro e w0 ⟨rfl, rfl⟩
        rw [LX.out]
        go_wp2_with fail
        go_at_call 19
        refine (r17line_any y _).mono ?_
        rintro e w0 ⟨rfl, rfl⟩
        rw [LY.out]
        go_wp2_with fail
        go_at_call 21
        refine (rNear_at _ (Fx.hsr F0) hv (by omega) (by omega) HK).mono ?_
        rintro e w1 ⟨rfl, b1⟩
        have F1 := Lib.hid (F0.out.step b1)
        clear c0 c1 c2 z0
        obtain ⟨z0, c0, c1, c2⟩ := F1.out.bx
        go_wp2_with fail
        go_at_call 28
        refine (rGran_at _ (Fx.hsr F1) hv (by omega) (by omega) GK HP).mono ?_
        rintro e w2 ⟨rfl, b2⟩
        have F2 := Lib.hid (F1.out.step b2)
        clear c0 c1 c2 z0
        obtain ⟨z0, c0, c1, c2⟩ := F2.out.bx
        have F3 := Lib.hid (F2.out.alloc (.cells #[.int .i64 u', .int .i64 v'] 35))
        go_wp2_with fail
        go_ret2
        exact ⟨ret_int2 (congrArg Prod.fst R.out).symm (congrArg Prod.snd R.out).symm, F3.out.bel⟩
end Go.Proofs.Ytainibnjpkbfpaa.Cv
