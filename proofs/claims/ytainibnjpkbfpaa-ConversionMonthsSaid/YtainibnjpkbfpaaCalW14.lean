/- Walks: conversion.Up, Down, Covering, Place. -/
import Derived.Test.YtainibnjpkbfpaaCalW13
namespace Go.Proofs.Ytainibnjpkbfpaa.Cv
set_option linter.unusedVariables false
set_option linter.unusedSimpArgs false
open Go.RowKit Wl

theorem Fx.new2 {o q : Int} {A : Option Addr} {n c : Nat} {l : List (Int × Int)} (w : World) (x : Obj) (T : TypeId) (h : Sr w A n c l) : Fx w ((w.alloc x).alloc (.cells #[.int .i64 o, .int .i64 q, .slice A n c] T)) (w.heap.size + 1) o q A n c l := by
  have := Bx.new (w.alloc x) o q A n c T
  have hb : Below w.heap.size w ((w.alloc x).alloc (.cells #[.int .i64 o, .int .i64 q, .slice A n c] T)) := (bal _ _).trans ((bal _ _).mono (by simp))
  exact ⟨hb, by simpa using this, h.below hb, by omega⟩
theorem hand {a b : Bool} (h : Hid (a = true)) (k : Hid (b = true)) : Hid ((a && b) = true) := Lib.hid (by rw [h.out, k.out]; rfl)
theorem valid2_any {A B : Option Addr} {n cp m cq : Nat} {o p r s : Int} {l g : List (Int × Int)} (w : World) (h : Hid (Sr w A n cp l)) (k : Hid (Sr w B m cq g)) :
    Calls Try.prog 57 #[.agg #[.int .i64 o, .int .i64 p, .slice A n cp], .agg #[.int .i64 r, .int .i64 s, .slice B m cq]] w fun e w' => e = .returned (.bool (vld ⟨o, p, l⟩ && vld ⟨r, s, g⟩)) ∧ Below w.heap.size w w' := by
  obtain ⟨W0, hW0⟩ : ∃ W0, (w.alloc (.cells #[.int .i64 o, .int .i64 p, .slice A n cp] 24)).alloc (.cells #[.int .i64 r, .int .i64 s, .slice B m cq] 24) = W0 := ⟨_, rfl⟩
  have F0 : Hid (Fx w W0 w.heap.size o p A n cp l) := Lib.hid (by rw [← hW0]; exact (Fx.new _ _ h.out).alloc _)
  have G0 : Hid (Fx w W0 (w.heap.size + 1) r s B m cq g) := Lib.hid (by rw [← hW0]; exact Fx.new2 _ _ _ k.out)
  have HW0 := Lib.hid hW0
  clear hW0
  obtain ⟨z0, c0, c1, c2⟩ := F0.out.bx
  obtain ⟨y0, d0, d1, d2⟩ := G0.out.bx
  rcases hb : vld ⟨o, p, l⟩ with _ | _
  all_goals replace hb := Lib.hid hb
  · go_enter Try.func57, Try.ntmps57
    go_wp2_with fail
    rw [HW0.out]
    go_at_call 43
    refine (Valid_any o p _ (Fx.hsr F0)).mono ?_
    rintro e w1 ⟨rfl, b1⟩
    rw [hb.out]
    have F1 := Lib.hid (F0.out.step b1)
    have G1 := Lib.hid (G0.out.step b1)
    clear c0 c1 c2 z0 d0 d1 d2 y0
    obtain ⟨z0, c0, c1, c2⟩ := F1.out.bx
    obtain ⟨y0, d0, d1, d2⟩ := G1.out.bx
    go_wp2_with fail
    go_ret
    exact ⟨ret_bool (by simp), F1.out.bel⟩
  · go_enter Try.func57, Try.ntmps57
    go_wp2_with fail
    rw [HW0.out]
    go_at_call 43
    refine (Valid_any o p _ (Fx.hsr F0)).mono ?_
    rintro e w1 ⟨rfl, b1⟩
    rw [hb.out]
    have F1 := Lib.hid (F0.out.step b1)
    have G1 := Lib.hid (G0.out.step b1)
    clear c0 c1 c2 z0 d0 d1 d2 y0
    obtain ⟨z0, c0, c1, c2⟩ := F1.out.bx
    obtain ⟨y0, d0, d1, d2⟩ := G1.out.bx
    go_wp2_with fail
    go_at_call 43
    refine (Valid_any r s _ (Fx.hsr G1)).mono ?_
    rintro e w2 ⟨rfl, b2⟩
    have F2 := Lib.hid (F1.out.step b2)
    obtain ⟨vv, hvv⟩ : ∃ vv, vld ⟨r, s, g⟩ = vv := ⟨_, rfl⟩
    rw [hvv]
    go_wp2_with fail
    go_ret
    exact ⟨ret_bool (by simp [hvv]), F2.out.bel⟩
set_option maxRecDepth 20000 in
set_option maxHeartbeats 3200000 in
theorem Up_bad {A B : Option Addr} {n cp m cq : Nat} {o p r s : Int} {l g : List (Int × Int)} (x : Int) (w : World) (h : Hid (Sr w A n cp l)) (k : Hid (Sr w B m cq g)) (HV : Hid ((vld ⟨o, p, l⟩ && vld ⟨r, s, g⟩) = false)) :
    Calls Try.prog 22 #[.agg #[.int .i64 o, .int .i64 p, .slice A n cp], .agg #[.int .i64 r, .int .i64 s, .slice B m cq], .int .i64 x] w fun e w' => e = .returned (.tuple #[.int .i64 0, .bool false]) ∧ Below w.heap.size w w' := by
  obtain ⟨W0, hW0⟩ : ∃ W0, (w.alloc (.cells #[.int .i64 o, .int .i64 p, .slice A n cp] 24)).alloc (.cells #[.int .i64 r, .int .i64 s, .slice B m cq] 24) = W0 := ⟨_, rfl⟩
  have F0 : Hid (Fx w W0 w.heap.size o p A n cp l) := Lib.hid (by rw [← hW0]; exact (Fx.new _ _ h.out).alloc _)
  have G0 : Hid (Fx w W0 (w.heap.size + 1) r s B m cq g) := Lib.hid (by rw [← hW0]; exact Fx.new2 _ _ _ k.out)
  have HW0 := Lib.hid hW0
  clear hW0
  obtain ⟨z0, c0, c1, c2⟩ := F0.out.bx
  obtain ⟨y0, d0, d1, d2⟩ := G0.out.bx
  go_enter Try.func22, Try.ntmps22
  go_wp2_with fail
  rw [HW0.out]
  go_at_call 57
  refine (valid2_any _ (Fx.hsr F0) (Fx.hsr G0)).mono ?_
  rintro e w1 ⟨rfl, b1⟩
  rw [HV.out]
  have F1 := Lib.hid (F0.out.step b1)
  go_wp2_with fail
  go_ret2
  exact ⟨rfl, F1.out.bel⟩
set_option maxRecDepth 20000 in
set_option maxHeartbeats 3200000 in
theorem Down_bad {A B : Option Addr} {n cp m cq : Nat} {o p r s : Int} {l g : List (Int × Int)} (x : Int) (w : World) (h : Hid (Sr w A n cp l)) (k : Hid (Sr w B m cq g)) (HV : Hid ((vld ⟨o, p, l⟩ && vld ⟨r, s, g⟩) = false)) :
    Calls Try.prog 23 #[.agg #[.int .i64 o, .int .i64 p, .slice A n cp], .agg #[.int .i64 r, .int .i64 s, .slice B m cq], .int .i64 x] w fun e w' => e = .returned (.tuple #[.int .i64 0, .int .i64 0, .int .i64 1]) ∧ Below w.heap.size w w' := by
  obtain ⟨W0, hW0⟩ : ∃ W0, (w.alloc (.cells #[.int .i64 o, .int .i64 p, .slice A n cp] 24)).alloc (.cells #[.int .i64 r, .int .i64 s, .slice B m cq] 24) = W0 := ⟨_, rfl⟩
  have F0 : Hid (Fx w W0 w.heap.size o p A n cp l) := Lib.hid (by rw [← hW0]; exact (Fx.new _ _ h.out).alloc _)
  have G0 : Hid (Fx w W0 (w.heap.size + 1) r s B m cq g) := Lib.hid (by rw [← hW0]; exact Fx.new2 _ _ _ k.out)
  have HW0 := Lib.hid hW0
  clear hW0
  obtain ⟨z0, c0, c1, c2⟩ := F0.out.bx
  obtain ⟨y0, d0, d1, d2⟩ := G0.out.bx
  go_enter Try.func23, Try.ntmps23
  go_wp2_with fail
  rw [HW0.out]
  go_at_call 57
  refine (valid2_any _ (Fx.hsr F0) (Fx.hsr G0)).mono ?_
  rintro e w1 ⟨rfl, b1⟩
  rw [HV.out]
  have F1 := Lib.hid (F0.out.step b1)
  go_wp2_with fail
  go_ret3
  exact ⟨rfl, F1.out.bel⟩
set_option maxRecDepth 20000 in
set_option maxHeartbeats 3200000 in
theorem Covering_bad {A B : Option Addr} {n cp m cq : Nat} {o p r s : Int} {l g : List (Int × Int)} (x : Int) (w : World) (h : Hid (Sr w A n cp l)) (k : Hid (Sr w B m cq g)) (HV : Hid ((vld ⟨o, p, l⟩ && vld ⟨r, s, g⟩) = false)) :
    Calls Try.prog 24 #[.agg #[.int .i64 o, .int .i64 p, .slice A n cp], .agg #[.int .i64 r, .int .i64 s, .slice B m cq], .int .i64 x] w fun e w' => e = .returned (.tuple #[.int .i64 0, .int .i64 0, .int .i64 1]) ∧ Below w.heap.size w w' := by
  obtain ⟨W0, hW0⟩ : ∃ W0, (w.alloc (.cells #[.int .i64 o, .int .i64 p, .slice A n cp] 24)).alloc (.cells #[.int .i64 r, .int .i64 s, .slice B m cq] 24) = W0 := ⟨_, rfl⟩
  have F0 : Hid (Fx w W0 w.heap.size o p A n cp l) := Lib.hid (by rw [← hW0]; exact (Fx.new _ _ h.out).alloc _)
  have G0 : Hid (Fx w W0 (w.heap.size + 1) r s B m cq g) := Lib.hid (by rw [← hW0]; exact Fx.new2 _ _ _ k.out)
  have HW0 := Lib.hid hW0
  clear hW0
  obtain ⟨z0, c0, c1, c2⟩ := F0.out.bx
  obtain ⟨y0, d0, d1, d2⟩ := G0.out.bx
  go_enter Try.func24, Try.ntmps24
  go_wp2_with fail
  rw [HW0.out]
  go_at_call 57
  refine (valid2_any _ (Fx.hsr F0) (Fx.hsr G0)).mono ?_
  rintro e w1 ⟨rfl, b1⟩
  rw [HV.out]
  have F1 := Lib.hid (F0.out.step b1)
  go_wp2_with fail
  go_ret3
  exact ⟨rfl, F1.out.bel⟩
set_option maxRecDepth 20000 in
set_option maxHeartbeats 3200000 in
theorem Up_any {A B : Option Addr} {n cp m cq : Nat} {o p r s : Int} {l g : List (Int × Int)} (x : Int) (w : World) (h : Hid (Sr w A n cp l)) (k : Hid (Sr w B m cq g)) (hv : Hid (vld ⟨o, p, l⟩ = true)) (kv : Hid (vld ⟨r, s, g⟩ = true)) (x1 : -9223372036854775808 ≤ x) (x2 : x ≤ 9223372036854775807) :
    Calls Try.prog 22 #[.agg #[.int .i64 o, .int .i64 p, .slice A n cp], .agg #[.int .i64 r, .int .i64 s, .slice B m cq], .int .i64 x] w fun e w' => e = .returned (.tuple #[.int .i64 (upv ⟨o, p, l⟩ ⟨r, s, g⟩ x).1, .bool (upv ⟨o, p, l⟩ ⟨r, s, g⟩ x).2]) ∧ Below w.heap.size w w' := by
  have V := hVc kv
  have HV := hand hv kv
  obtain ⟨W0, hW0⟩ : ∃ W0, (w.alloc (.cells #[.int .i64 o, .int .i64 p, .slice A n cp] 24)).alloc (.cells #[.int .i64 r, .int .i64 s, .slice B m cq] 24) = W0 := ⟨_, rfl⟩
  have F0 : Hid (Fx w W0 w.heap.size o p A n cp l) := Lib.hid (by rw [← hW0]; exact (Fx.new _ _ h.out).alloc _)
  have G0 : Hid (Fx w W0 (w.heap.size + 1) r s B m cq g) := Lib.hid (by rw [← hW0]; exact Fx.new2 _ _ _ k.out)
  have HW0 := Lib.hid hW0
  clear hW0
  obtain ⟨z0, c0, c1, c2⟩ := F0.out.bx
  obtain ⟨y0, d0, d1, d2⟩ := G0.out.bx
  obtain ⟨⟨⟨u, v⟩, er⟩, hs⟩ : ∃ y, spn ⟨o, p, l⟩ x = y := ⟨_, rfl⟩
  have HS := Lib.hid hs
  clear hs
  have fl := fld1
  rcases hr : rch ⟨o, p, l⟩ x with _ | _
  all_goals have HR := Lib.hid hr
  · have R : Hid (upv ⟨o, p, l⟩ ⟨r, s, g⟩ x = (0, false)) := Lib.hid (by unfold upv; rw [hr]; simp)
    clear hr
    go_enter Try.func22, Try.ntmps22
    go_wp2_with fail
    rw [HW0.out]
    go_at_call 57
    refine (valid2_any _ (Fx.hsr F0) (Fx.hsr G0)).mono ?_
    rintro e w1 ⟨rfl, b1⟩
    rw [HV.out]
    have F1 := Lib.hid (F0.out.step b1)
    have G1 := Lib.hid (G0.out.step b1)
    clear c0 c1 c2 z0 d0 d1 d2 y0
    obtain ⟨z0, c0, c1, c2⟩ := F1.out.bx
    obtain ⟨y0, d0, d1, d2⟩ := G1.out.bx
    go_wp2_with fail
    go_at_call 44
    refine (reach_at _ (Fx.hsr F1) hv x1 x2 HS HR).mono ?_
    rintro e w2 ⟨rfl, b2⟩
    have F2 := Lib.hid ((F1.out.step b2).alloc (.cells #[.int .i64 u, .int .i64 v] 35))
    go_wp2_with fail
    go_ret2
    exact ⟨ret_ib (congrArg Prod.fst R.out) (congrArg Prod.snd R.out), F2.out.bel⟩
  · have sp := spn_t (rch_onl hr)
    rw [HS.out] at sp
    injection sp with sp1 sp2
    subst sp2
    have ⟨u1, u2⟩ := rch_p hr
    have ul := (hVc hv).out.pl_lt x
    rw [← sp1] at u1 u2 ul
    have u1' : -4398046511103 ≤ u := u1
    have u2' : v ≤ 4398046511103 := u2
    have ul' : u < v := ul
    have B := Lib.hid (V.out.bk_nr (x := u) (by omega) (by omega))
    obtain ⟨k', hk⟩ : ∃ k, nr ⟨r, s, g⟩ u = k := ⟨_, rfl⟩
    rw [hk] at B
    have HK := Lib.hid hk
    obtain ⟨⟨u', v'⟩, huv⟩ : ∃ z, pl ⟨r, s, g⟩ k' = z := ⟨_, rfl⟩
    have HP := Lib.hid huv
    have RR : Hid (upv ⟨o, p, l⟩ ⟨r, s, g⟩ x = if v ≤ v' then (k', true) else (0, false)) := Lib.hid (by
      unfold upv; rw [hr, ← sp1]; dsimp only; rw [hk, huv]; simp)
    clear hr sp1 u1 u2 ul hk huv
    rcases hd : decide (v' < v) with _ | _
    · have R := RR.out.trans (if_pos (by simp at hd; omega))
      replace R := Lib.hid R
      go_enter Try.func22, Try.ntmps22
      go_wp2_with fail
      rw [HW0.out]
      go_at_call 57
      refine (valid2_any _ (Fx.hsr F0) (Fx.hsr G0)).mono ?_
      rintro e w1 ⟨rfl, b1⟩
      rw [HV.out]
      have F1 := Lib.hid (F0.out.step b1)
      have G1 := Lib.hid (G0.out.step b1)
      clear c0 c1 c2 z0 d0 d1 d2 y0
      obtain ⟨z0, c0, c1, c2⟩ := F1.out.bx
      obtain ⟨y0, d0, d1, d2⟩ := G1.out.bx
      go_wp2_with fail
      go_at_call 44
      refine (reach_at _ (Fx.hsr F1) hv x1 x2 HS HR).mono ?_
      rintro e w2 ⟨rfl, b2⟩
      obtain ⟨W3, hW3⟩ : ∃ W3, w2.alloc (.cells #[.int .i64 u, .int .i64 v] 35) = W3 := ⟨_, rfl⟩
      have b3 : Below w2.heap.size w2 W3 := hW3 ▸ bal _ _
      have U3 := Lib.hid (Sb.new w2 u v 35)
      rw [hW3] at U3
      have HW3 := Lib.hid hW3
      clear hW3
      have F2 := Lib.hid (F1.out.step b2)
      have G2 := Lib.hid (G1.out.step b2)
      clear c0 c1 c2 z0 d0 d1 d2 y0
      obtain ⟨z0, c0, c1, c2⟩ := F2.out.bx
      obtain ⟨y0, d0, d1, d2⟩ := G2.out.bx
      go_wp2_with fail
      rw [HW3.out]
      have F3 := Lib.hid (F2.out.step b3)
      have G3 := Lib.hid (G2.out.step b3)
      go_at_call 55
      refine (near_at _ (Fx.hsr G3) V (by omega) (by omega) HK).mono ?_
      rintro e w4 ⟨rfl, b4⟩
      have U4 := Lib.hid (U3.out.below b4)
      have F4 := Lib.hid (F3.out.step b4)
      have G4 := Lib.hid (G3.out.step b4)
      clear c0 c1 c2 z0 d0 d1 d2 y0
      obtain ⟨z0, c0, c1, c2⟩ := F4.out.bx
      obtain ⟨y0, d0, d1, d2⟩ := G4.out.bx
      obtain ⟨i0, j0, j1, _, _⟩ := U4.out
      go_wp2_with fail
      have hS := Abv.cells w4
      refine wp_region_abv (by kernel_rfl) (by kernel_rfl) ?_
      repeat (go_big_quiet_step ((go_at_call 45; exact abv_call (place_at _ (Lib.hid (G4.out.sr.below (Abv.bel _))) V B HP))))
      refine wpQuiet_nil ?_
      rintro w5 hw5
      clear hS
      have F5 := Lib.hid (F4.out.step hw5)
      go_wp2_with fail
      go_ret2
      exact ⟨ret_ib (congrArg Prod.fst R.out) (congrArg Prod.snd R.out), F5.out.bel⟩
    · have R := RR.out.trans (if_neg (by simp at hd; omega))
      replace R := Lib.hid R
      go_enter Try.func22, Try.ntmps22
      go_wp2_with fail
      rw [HW0.out]
      go_at_call 57
      refine (valid2_any _ (Fx.hsr F0) (Fx.hsr G0)).mono ?_
      rintro e w1 ⟨rfl, b1⟩
      rw [HV.out]
      have F1 := Lib.hid (F0.out.step b1)
      have G1 := Lib.hid (G0.out.step b1)
      clear c0 c1 c2 z0 d0 d1 d2 y0
      obtain ⟨z0, c0, c1, c2⟩ := F1.out.bx
      obtain ⟨y0, d0, d1, d2⟩ := G1.out.bx
      go_wp2_with fail
      go_at_call 44
      refine (reach_at _ (Fx.hsr F1) hv x1 x2 HS HR).mono ?_
      rintro e w2 ⟨rfl, b2⟩
      obtain ⟨W3, hW3⟩ : ∃ W3, w2.alloc (.cells #[.int .i64 u, .int .i64 v] 35) = W3 := ⟨_, rfl⟩
      have b3 : Below w2.heap.size w2 W3 := hW3 ▸ bal _ _
      have U3 := Lib.hid (Sb.new w2 u v 35)
      rw [hW3] at U3
      have HW3 := Lib.hid hW3
      clear hW3
      have F2 := Lib.hid (F1.out.step b2)
      have G2 := Lib.hid (G1.out.step b2)
      clear c0 c1 c2 z0 d0 d1 d2 y0
      obtain ⟨z0, c0, c1, c2⟩ := F2.out.bx
      obtain ⟨y0, d0, d1, d2⟩ := G2.out.bx
      go_wp2_with fail
      rw [HW3.out]
      have F3 := Lib.hid (F2.out.step b3)
      have G3 := Lib.hid (G2.out.step b3)
      go_at_call 55
      refine (near_at _ (Fx.hsr G3) V (by omega) (by omega) HK).mono ?_
      rintro e w4 ⟨rfl, b4⟩
      have U4 := Lib.hid (U3.out.below b4)
      have F4 := Lib.hid (F3.out.step b4)
      have G4 := Lib.hid (G3.out.step b4)
      clear c0 c1 c2 z0 d0 d1 d2 y0
      obtain ⟨z0, c0, c1, c2⟩ := F4.out.bx
      obtain ⟨y0, d0, d1, d2⟩ := G4.out.bx
      obtain ⟨i0, j0, j1, _, _⟩ := U4.out
      go_wp2_with fail
      have hS := Abv.cells w4
      refine wp_region_abv (by kernel_rfl) (by kernel_rfl) ?_
      repeat (go_big_quiet_step ((go_at_call 45; exact abv_call (place_at _ (Lib.hid (G4.out.sr.below (Abv.bel _))) V B HP))))
      refine wpQuiet_nil ?_
      rintro w5 hw5
      clear hS
      have F5 := Lib.hid (F4.out.step hw5)
      go_wp2_with fail
      go_ret2
      exact ⟨ret_ib (congrArg Prod.fst R.out) (congrArg Prod.snd R.out), F5.out.bel⟩
end Go.Proofs.Ytainibnjpkbfpaa.Cv
