/- Walks: conversion.Down, Covering, Place. -/
import Derived.Test.YtainibnjpkbfpaaCalW14
namespace Go.Proofs.Ytainibnjpkbfpaa.Cv
set_option linter.unusedVariables false
set_option linter.unusedSimpArgs false
open Go.RowKit Wl

theorem ret_iii {a a' b b' c : Int} (h : a' = a) (k : b' = b) : Ending.returned (.tuple #[.int .i64 a, .int .i64 b, .int .i64 c]) = .returned (.tuple #[.int .i64 a', .int .i64 b', .int .i64 c]) := by rw [h, k]
theorem inside_at {A : Option Addr} {n cp : Nat} {o p : Int} {l : List (Int × Int)} {x k : Int} (w : World) (h : Hid (Sr w A n cp l)) (hv : Hid (Vc ⟨o, p, l⟩)) (k1 : -17592186044416 ≤ x) (k2 : x ≤ 17592186044416) (hk : Hid (nr ⟨o, p, l⟩ (x - 1) = k)) :
    Calls Try.prog 54 #[.agg #[.int .i64 o, .int .i64 p, .slice A n cp], .int .i64 x] w fun e w' => e = .returned (.int .i64 (k + 1)) ∧ Below w.heap.size w w' := by
  have := inside_any x w h hv k1 k2
  rw [hk.out] at this
  exact this
theorem ended_at {A : Option Addr} {n cp : Nat} {o p : Int} {l : List (Int × Int)} {x k : Int} (w : World) (h : Hid (Sr w A n cp l)) (hv : Hid (Vc ⟨o, p, l⟩)) (k1 : -17592186044416 ≤ x) (k2 : x ≤ 17592186044416) (hk : Hid (en ⟨o, p, l⟩ x = k)) :
    Calls Try.prog 53 #[.agg #[.int .i64 o, .int .i64 p, .slice A n cp], .int .i64 x] w fun e w' => e = .returned (.int .i64 k) ∧ Below w.heap.size w w' := by
  have := ended_any x w h hv k1 k2
  rw [hk.out] at this
  exact this
theorem Vc.en_bd {c : Cal} (h : Vc c) {x : Int} (h1 : -17592186044416 ≤ x) (h2 : x ≤ 17592186044416) : -1125899906842625 ≤ en c x ∧ en c x ≤ 1125899906842624 := by
  have := h.nr_bd (x := x) (by omega) (by omega)
  unfold en; split <;> omega
theorem cnt2_no {f n : Int} (h : n ≤ 0) : cnt2 f n = (0, 0) := by unfold cnt2; rw [if_pos h]
theorem cnt2_yes {f n : Int} (h : ¬ n ≤ 0) : cnt2 f n = (f, n) := by unfold cnt2; rw [if_neg h]
set_option maxRecDepth 20000 in
set_option maxHeartbeats 3200000 in
theorem Down_no {A B : Option Addr} {n cp m cq : Nat} {o p r s : Int} {l g : List (Int × Int)} (x : Int) (w : World) (h : Hid (Sr w A n cp l)) (k : Hid (Sr w B m cq g)) (hv : Hid (vld ⟨o, p, l⟩ = true)) (kv : Hid (vld ⟨r, s, g⟩ = true)) (x1 : -9223372036854775808 ≤ x) (x2 : x ≤ 9223372036854775807) (HR : Hid (rch ⟨r, s, g⟩ x = false)) :
    Calls Try.prog 23 #[.agg #[.int .i64 o, .int .i64 p, .slice A n cp], .agg #[.int .i64 r, .int .i64 s, .slice B m cq], .int .i64 x] w fun e w' => e = .returned (.tuple #[.int .i64 0, .int .i64 0, .int .i64 2]) ∧ Below w.heap.size w w' := by
  have HV := hand hv kv
  obtain ⟨W0, hW0⟩ : ∃ W0, (w.alloc (.cells #[.int .i64 o, .int .i64 p, .slice A n cp] 24)).alloc (.cells #[.int .i64 r, .int .i64 s, .slice B m cq] 24) = W0 := ⟨_, rfl⟩
  have F0 : Hid (Fx w W0 w.heap.size o p A n cp l) := Lib.hid (by rw [← hW0]; exact (Fx.new _ _ h.out).alloc _)
  have G0 : Hid (Fx w W0 (w.heap.size + 1) r s B m cq g) := Lib.hid (by rw [← hW0]; exact Fx.new2 _ _ _ k.out)
  have HW0 := Lib.hid hW0
  clear hW0
  obtain ⟨z0, c0, c1, c2⟩ := F0.out.bx
  obtain ⟨y0, d0, d1, d2⟩ := G0.out.bx
  obtain ⟨⟨⟨u, v⟩, er⟩, hs⟩ : ∃ y, spn ⟨r, s, g⟩ x = y := ⟨_, rfl⟩
  have HS := Lib.hid hs
  clear hs
  go_enter Try.func23, Try.ntmps23
  go_wp2_with fail
  rw [HW0.out]
  go_at_call 57
  refine (valid2_any _ (Fx.hsr F0) (Fx.hsr G0)).mono ?_
  rintro e w1 ⟨rfl, b1⟩
  rw [HV.out]
  have F1 := Lib.hid (F0.out.step b1)
  have G1 := Lib.hid (G0.out.step b1)
  clear c0 c1 c2 z0 d0 d1 d2 y0
  obtain ⟨z0, c0, c1, c2⟩ := F1.out.bx
  obtain ⟨y0, d0, d1, d2⟩ := G1.out.bx
  go_wp2_with fail
  go_at_call 44
  refine (reach_at _ (Fx.hsr G1) kv x1 x2 HS HR).mono ?_
  rintro e w2 ⟨rfl, b2⟩
  have F2 := Lib.hid ((F1.out.step b2).alloc (.cells #[.int .i64 u, .int .i64 v] 35))
  go_wp2_with fail
  go_ret3
  exact ⟨rfl, F2.out.bel⟩
set_option maxRecDepth 20000 in
set_option maxHeartbeats 3200000 in
theorem Down_any {A B : Option Addr} {n cp m cq : Nat} {o p r s : Int} {l g : List (Int × Int)} (x : Int) (w : World) (h : Hid (Sr w A n cp l)) (k : Hid (Sr w B m cq g)) (hv : Hid (vld ⟨o, p, l⟩ = true)) (kv : Hid (vld ⟨r, s, g⟩ = true)) (x1 : -9223372036854775808 ≤ x) (x2 : x ≤ 9223372036854775807) (HR : Hid (rch ⟨r, s, g⟩ x = true)) :
    Calls Try.prog 23 #[.agg #[.int .i64 o, .int .i64 p, .slice A n cp], .agg #[.int .i64 r, .int .i64 s, .slice B m cq], .int .i64 x] w fun e w' => e = .returned (.tuple #[.int .i64 (ins ⟨o, p, l⟩ (pl ⟨r, s, g⟩ x)).1, .int .i64 (ins ⟨o, p, l⟩ (pl ⟨r, s, g⟩ x)).2, .int .i64 0]) ∧ Below w.heap.size w w' := by
  have V := hVc hv
  have HV := hand hv kv
  obtain ⟨W0, hW0⟩ : ∃ W0, (w.alloc (.cells #[.int .i64 o, .int .i64 p, .slice A n cp] 24)).alloc (.cells #[.int .i64 r, .int .i64 s, .slice B m cq] 24) = W0 := ⟨_, rfl⟩
  have F0 : Hid (Fx w W0 w.heap.size o p A n cp l) := Lib.hid (by rw [← hW0]; exact (Fx.new _ _ h.out).alloc _)
  have G0 : Hid (Fx w W0 (w.heap.size + 1) r s B m cq g) := Lib.hid (by rw [← hW0]; exact Fx.new2 _ _ _ k.out)
  have HW0 := Lib.hid hW0
  clear hW0
  obtain ⟨z0, c0, c1, c2⟩ := F0.out.bx
  obtain ⟨y0, d0, d1, d2⟩ := G0.out.bx
  obtain ⟨⟨⟨u, v⟩, er⟩, hs⟩ : ∃ y, spn ⟨r, s, g⟩ x = y := ⟨_, rfl⟩
  have HS := Lib.hid hs
  have sp := spn_t (rch_onl HR.out)
  rw [hs] at sp
  injection sp with sp1 sp2
  subst sp2
  clear hs
  have ⟨u1, u2⟩ := rch_p HR.out
  have ul := (hVc kv).out.pl_lt x
  rw [← sp1] at u1 u2 ul
  have u1' : -4398046511103 ≤ u := u1
  have u2' : v ≤ 4398046511103 := u2
  have ul' : u < v := ul
  have na := V.out.nr_bd (x := u - 1) (by omega) (by omega)
  have ea := V.out.en_bd (x := v) (by omega) (by omega)
  obtain ⟨f, hf⟩ : ∃ f, nr ⟨o, p, l⟩ (u - 1) = f := ⟨_, rfl⟩
  obtain ⟨e', he⟩ : ∃ f, en ⟨o, p, l⟩ v = f := ⟨_, rfl⟩
  rw [hf] at na
  rw [he] at ea
  have HF := Lib.hid hf
  have HE := Lib.hid he
  have RR : Hid (ins ⟨o, p, l⟩ (pl ⟨r, s, g⟩ x) = cnt2 (f + 1) (e' - (f + 1) + 1)) := Lib.hid (by rw [← sp1]; unfold ins; dsimp only; rw [hf, he])
  clear hf he
  clear sp1 u1 u2 ul
  by_cases hn : e' - (f + 1) + 1 ≤ 0
  · have R := RR.out.trans (cnt2_no hn)
    replace R := Lib.hid R
    go_enter Try.func23, Try.ntmps23
    go_wp2_with fail
    rw [HW0.out]
    go_at_call 57
    refine (valid2_any _ (Fx.hsr F0) (Fx.hsr G0)).mono ?_
    rintro e w1 ⟨rfl, b1⟩
    rw [HV.out]
    have F1 := Lib.hid (F0.out.step b1)
    have G1 := Lib.hid (G0.out.step b1)
    clear c0 c1 c2 z0 d0 d1 d2 y0
    obtain ⟨z0, c0, c1, c2⟩ := F1.out.bx
    obtain ⟨y0, d0, d1, d2⟩ := G1.out.bx
    go_wp2_with fail
    go_at_call 44
    refine (reach_at _ (Fx.hsr G1) kv x1 x2 HS HR).mono ?_
    rintro e w2 ⟨rfl, b2⟩
    have F2 := Lib.hid (F1.out.step b2)
    have G2 := Lib.hid (G1.out.step b2)
    clear c0 c1 c2 z0 d0 d1 d2 y0
    obtain ⟨z0, c0, c1, c2⟩ := F2.out.bx
    obtain ⟨y0, d0, d1, d2⟩ := G2.out.bx
    go_wp2_with fail
    obtain ⟨W3, hW3⟩ : ∃ W3, w2.alloc (.cells #[.int .i64 u, .int .i64 v] 35) = W3 := ⟨_, rfl⟩
    have b3 : Below w2.heap.size w2 W3 := hW3 ▸ bal _ _
    have U3 := Lib.hid (Sb.new w2 u v 35)
    rw [hW3] at U3
    rw [hW3]
    clear hW3
    have F3 := Lib.hid (F2.out.step b3)
    have G3 := Lib.hid (G2.out.step b3)
    clear c0 c1 c2 z0 d0 d1 d2 y0
    obtain ⟨z0, c0, c1, c2⟩ := F3.out.bx
    obtain ⟨y0, d0, d1, d2⟩ := G3.out.bx
    obtain ⟨i0, j0, j1, _, _⟩ := U3.out
    go_at_call 54
    refine (inside_at _ (Fx.hsr F3) V (by omega) (by omega) HF).mono ?_
    rintro e w4 ⟨rfl, b4⟩
    have U4 := Lib.hid (U3.out.below b4)
    clear i0 j0 j1
    have F4 := Lib.hid (F3.out.step b4)
    have G4 := Lib.hid (G3.out.step b4)
    clear c0 c1 c2 z0 d0 d1 d2 y0
    obtain ⟨z0, c0, c1, c2⟩ := F4.out.bx
    obtain ⟨y0, d0, d1, d2⟩ := G4.out.bx
    obtain ⟨i0, j0, j1, _, _⟩ := U4.out
    go_wp2_with fail
    go_at_call 53
    refine (ended_at _ (Fx.hsr F4) V (by omega) (by omega) HE).mono ?_
    rintro e w5 ⟨rfl, b5⟩
    have F5 := Lib.hid (F4.out.step b5)
    go_wp2_with fail
    go_ret3
    exact ⟨ret_iii (congrArg Prod.fst R.out) (congrArg Prod.snd R.out), F5.out.bel⟩
  · have R := RR.out.trans (cnt2_yes hn)
    replace R := Lib.hid R
    go_enter Try.func23, Try.ntmps23
    go_wp2_with fail
    rw [HW0.out]
    go_at_call 57
    refine (valid2_any _ (Fx.hsr F0) (Fx.hsr G0)).mono ?_
    rintro e w1 ⟨rfl, b1⟩
    rw [HV.out]
    have F1 := Lib.hid (F0.out.step b1)
    have G1 := Lib.hid (G0.out.step b1)
    clear c0 c1 c2 z0 d0 d1 d2 y0
    obtain ⟨z0, c0, c1, c2⟩ := F1.out.bx
    obtain ⟨y0, d0, d1, d2⟩ := G1.out.bx
    go_wp2_with fail
    go_at_call 44
    refine (reach_at _ (Fx.hsr G1) kv x1 x2 HS HR).mono ?_
    rintro e w2 ⟨rfl, b2⟩
    have F2 := Lib.hid (F1.out.step b2)
    have G2 := Lib.hid (G1.out.step b2)
    clear c0 c1 c2 z0 d0 d1 d2 y0
    obtain ⟨z0, c0, c1, c2⟩ := F2.out.bx
    obtain ⟨y0, d0, d1, d2⟩ := G2.out.bx
    go_wp2_with fail
    obtain ⟨W3, hW3⟩ : ∃ W3, w2.alloc (.cells #[.int .i64 u, .int .i64 v] 35) = W3 := ⟨_, rfl⟩
    have b3 : Below w2.heap.size w2 W3 := hW3 ▸ bal _ _
    have U3 := Lib.hid (Sb.new w2 u v 35)
    rw [hW3] at U3
    rw [hW3]
    clear hW3
    have F3 := Lib.hid (F2.out.step b3)
    have G3 := Lib.hid (G2.out.step b3)
    clear c0 c1 c2 z0 d0 d1 d2 y0
    obtain ⟨z0, c0, c1, c2⟩ := F3.out.bx
    obtain ⟨y0, d0, d1, d2⟩ := G3.out.bx
    obtain ⟨i0, j0, j1, _, _⟩ := U3.out
    go_at_call 54
    refine (inside_at _ (Fx.hsr F3) V (by omega) (by omega) HF).mono ?_
    rintro e w4 ⟨rfl, b4⟩
    have U4 := Lib.hid (U3.out.below b4)
    clear i0 j0 j1
    have F4 := Lib.hid (F3.out.step b4)
    have G4 := Lib.hid (G3.out.step b4)
    clear c0 c1 c2 z0 d0 d1 d2 y0
    obtain ⟨z0, c0, c1, c2⟩ := F4.out.bx
    obtain ⟨y0, d0, d1, d2⟩ := G4.out.bx
    obtain ⟨i0, j0, j1, _, _⟩ := U4.out
    go_wp2_with fail
    go_at_call 53
    refine (ended_at _ (Fx.hsr F4) V (by omega) (by omega) HE).mono ?_
    rintro e w5 ⟨rfl, b5⟩
    have F5 := Lib.hid (F4.out.step b5)
    go_wp2_with fail
    go_ret3
    exact ⟨ret_iii (congrArg Prod.fst R.out) (congrArg Prod.snd R.out), F5.out.bel⟩
set_option maxRecDepth 20000 in
set_option maxHeartbeats 3200000 in
theorem Covering_no {A B : Option Addr} {n cp m cq : Nat} {o p r s : Int} {l g : List (Int × Int)} (x : Int) (w : World) (h : Hid (Sr w A n cp l)) (k : Hid (Sr w B m cq g)) (hv : Hid (vld ⟨o, p, l⟩ = true)) (kv : Hid (vld ⟨r, s, g⟩ = true)) (x1 : -9223372036854775808 ≤ x) (x2 : x ≤ 9223372036854775807) (HR : Hid (rch ⟨r, s, g⟩ x = false)) :
    Calls Try.prog 24 #[.agg #[.int .i64 o, .int .i64 p, .slice A n cp], .agg #[.int .i64 r, .int .i64 s, .slice B m cq], .int .i64 x] w fun e w' => e = .returned (.tuple #[.int .i64 0, .int .i64 0, .int .i64 2]) ∧ Below w.heap.size w w' := by
  have HV := hand hv kv
  obtain ⟨W0, hW0⟩ : ∃ W0, (w.alloc (.cells #[.int .i64 o, .int .i64 p, .slice A n cp] 24)).alloc (.cells #[.int .i64 r, .int .i64 s, .slice B m cq] 24) = W0 := ⟨_, rfl⟩
  have F0 : Hid (Fx w W0 w.heap.size o p A n cp l) := Lib.hid (by rw [← hW0]; exact (Fx.new _ _ h.out).alloc _)
  have G0 : Hid (Fx w W0 (w.heap.size + 1) r s B m cq g) := Lib.hid (by rw [← hW0]; exact Fx.new2 _ _ _ k.out)
  have HW0 := Lib.hid hW0
  clear hW0
  obtain ⟨z0, c0, c1, c2⟩ := F0.out.bx
  obtain ⟨y0, d0, d1, d2⟩ := G0.out.bx
  obtain ⟨⟨⟨u, v⟩, er⟩, hs⟩ : ∃ y, spn ⟨r, s, g⟩ x = y := ⟨_, rfl⟩
  have HS := Lib.hid hs
  clear hs
  go_enter Try.func24, Try.ntmps24
  go_wp2_with fail
  rw [HW0.out]
  go_at_call 57
  refine (valid2_any _ (Fx.hsr F0) (Fx.hsr G0)).mono ?_
  rintro e w1 ⟨rfl, b1⟩
  rw [HV.out]
  have F1 := Lib.hid (F0.out.step b1)
  have G1 := Lib.hid (G0.out.step b1)
  clear c0 c1 c2 z0 d0 d1 d2 y0
  obtain ⟨z0, c0, c1, c2⟩ := F1.out.bx
  obtain ⟨y0, d0, d1, d2⟩ := G1.out.bx
  go_wp2_with fail
  go_at_call 44
  refine (reach_at _ (Fx.hsr G1) kv x1 x2 HS HR).mono ?_
  rintro e w2 ⟨rfl, b2⟩
  have F2 := Lib.hid ((F1.out.step b2).alloc (.cells #[.int .i64 u, .int .i64 v] 35))
  go_wp2_with fail
  go_ret3
  exact ⟨rfl, F2.out.bel⟩
set_option maxRecDepth 20000 in
set_option maxHeartbeats 3200000 in
theorem Covering_any {A B : Option Addr} {n cp m cq : Nat} {o p r s : Int} {l g : List (Int × Int)} (x : Int) (w : World) (h : Hid (Sr w A n cp l)) (k : Hid (Sr w B m cq g)) (hv : Hid (vld ⟨o, p, l⟩ = true)) (kv : Hid (vld ⟨r, s, g⟩ = true)) (x1 : -9223372036854775808 ≤ x) (x2 : x ≤ 9223372036854775807) (HR : Hid (rch ⟨r, s, g⟩ x = true)) :
    Calls Try.prog 24 #[.agg #[.int .i64 o, .int .i64 p, .slice A n cp], .agg #[.int .i64 r, .int .i64 s, .slice B m cq], .int .i64 x] w fun e w' => e = .returned (.tuple #[.int .i64 (cvr ⟨o, p, l⟩ (pl ⟨r, s, g⟩ x)).1, .int .i64 (cvr ⟨o, p, l⟩ (pl ⟨r, s, g⟩ x)).2, .int .i64 0]) ∧ Below w.heap.size w w' := by
  have V := hVc hv
  have HV := hand hv kv
  obtain ⟨W0, hW0⟩ : ∃ W0, (w.alloc (.cells #[.int .i64 o, .int .i64 p, .slice A n cp] 24)).alloc (.cells #[.int .i64 r, .int .i64 s, .slice B m cq] 24) = W0 := ⟨_, rfl⟩
  have F0 : Hid (Fx w W0 w.heap.size o p A n cp l) := Lib.hid (by rw [← hW0]; exact (Fx.new _ _ h.out).alloc _)
  have G0 : Hid (Fx w W0 (w.heap.size + 1) r s B m cq g) := Lib.hid (by rw [← hW0]; exact Fx.new2 _ _ _ k.out)
  have HW0 := Lib.hid hW0
  clear hW0
  obtain ⟨z0, c0, c1, c2⟩ := F0.out.bx
  obtain ⟨y0, d0, d1, d2⟩ := G0.out.bx
  obtain ⟨⟨⟨u, v⟩, er⟩, hs⟩ : ∃ y, spn ⟨r, s, g⟩ x = y := ⟨_, rfl⟩
  have HS := Lib.hid hs
  have sp := spn_t (rch_onl HR.out)
  rw [hs] at sp
  injection sp with sp1 sp2
  subst sp2
  clear hs
  have ⟨u1, u2⟩ := rch_p HR.out
  have ul := (hVc kv).out.pl_lt x
  rw [← sp1] at u1 u2 ul
  have u1' : -4398046511103 ≤ u := u1
  have u2' : v ≤ 4398046511103 := u2
  have ul' : u < v := ul
  have na := V.out.en_bd (x := u) (by omega) (by omega)
  have ea := V.out.nr_bd (x := v - 1) (by omega) (by omega)
  obtain ⟨f, hf⟩ : ∃ f, en ⟨o, p, l⟩ u = f := ⟨_, rfl⟩
  obtain ⟨e', he⟩ : ∃ f, nr ⟨o, p, l⟩ (v - 1) = f := ⟨_, rfl⟩
  rw [hf] at na
  rw [he] at ea
  have HF := Lib.hid hf
  have HE := Lib.hid he
  have RR : Hid (cvr ⟨o, p, l⟩ (pl ⟨r, s, g⟩ x) = cnt2 (f + 1) (e' - (f + 1) + 1)) := Lib.hid (by rw [← sp1]; unfold cvr; dsimp only; rw [hf, he])
  clear hf he
  clear sp1 u1 u2 ul
  by_cases hn : e' - (f + 1) + 1 ≤ 0
  · have R := RR.out.trans (cnt2_no hn)
    replace R := Lib.hid R
    go_enter Try.func24, Try.ntmps24
    go_wp2_with fail
    rw [HW0.out]
    go_at_call 57
    refine (valid2_any _ (Fx.hsr F0) (Fx.hsr G0)).mono ?_
    rintro e w1 ⟨rfl, b1⟩
    rw [HV.out]
    have F1 := Lib.hid (F0.out.step b1)
    have G1 := Lib.hid (G0.out.step b1)
    clear c0 c1 c2 z0 d0 d1 d2 y0
    obtain ⟨z0, c0, c1, c2⟩ := F1.out.bx
    obtain ⟨y0, d0, d1, d2⟩ := G1.out.bx
    go_wp2_with fail
    go_at_call 44
    refine (reach_at _ (Fx.hsr G1) kv x1 x2 HS HR).mono ?_
    rintro e w2 ⟨rfl, b2⟩
    have F2 := Lib.hid (F1.out.step b2)
    have G2 := Lib.hid (G1.out.step b2)
    clear c0 c1 c2 z0 d0 d1 d2 y0
    obtain ⟨z0, c0, c1, c2⟩ := F2.out.bx
    obtain ⟨y0, d0, d1, d2⟩ := G2.out.bx
    go_wp2_with fail
    obtain ⟨W3, hW3⟩ : ∃ W3, w2.alloc (.cells #[.int .i64 u, .int .i64 v] 35) = W3 := ⟨_, rfl⟩
    have b3 : Below w2.heap.size w2 W3 := hW3 ▸ bal _ _
    have U3 := Lib.hid (Sb.new w2 u v 35)
    rw [hW3] at U3
    rw [hW3]
    clear hW3
    have F3 := Lib.hid (F2.out.step b3)
    have G3 := Lib.hid (G2.out.step b3)
    clear c0 c1 c2 z0 d0 d1 d2 y0
    obtain ⟨z0, c0, c1, c2⟩ := F3.out.bx
    obtain ⟨y0, d0, d1, d2⟩ := G3.out.bx
    obtain ⟨i0, j0, j1, _, _⟩ := U3.out
    go_at_call 53
    refine (ended_at _ (Fx.hsr F3) V (by omega) (by omega) HF).mono ?_
    rintro e w4 ⟨rfl, b4⟩
    have U4 := Lib.hid (U3.out.below b4)
    clear i0 j0 j1
    have F4 := Lib.hid (F3.out.step b4)
    have G4 := Lib.hid (G3.out.step b4)
    clear c0 c1 c2 z0 d0 d1 d2 y0
    obtain ⟨z0, c0, c1, c2⟩ := F4.out.bx
    obtain ⟨y0, d0, d1, d2⟩ := G4.out.bx
    obtain ⟨i0, j0, j1, _, _⟩ := U4.out
    go_wp2_with fail
    go_at_call 55
    refine (near_at _ (Fx.hsr F4) V (by omega) (by omega) HE).mono ?_
    rintro e w5 ⟨rfl, b5⟩
    have F5 := Lib.hid (F4.out.step b5)
    go_wp2_with fail
    go_ret3
    exact ⟨ret_iii (congrArg Prod.fst R.out) (congrArg Prod.snd R.out), F5.out.bel⟩
  · have R := RR.out.trans (cnt2_yes hn)
    replace R := Lib.hid R
    go_enter Try.func24, Try.ntmps24
    go_wp2_with fail
    rw [HW0.out]
    go_at_call 57
    refine (valid2_any _ (Fx.hsr F0) (Fx.hsr G0)).mono ?_
    rintro e w1 ⟨rfl, b1⟩
    rw [HV.out]
    have F1 := Lib.hid (F0.out.step b1)
    have G1 := Lib.hid (G0.out.step b1)
    clear c0 c1 c2 z0 d0 d1 d2 y0
    obtain ⟨z0, c0, c1, c2⟩ := F1.out.bx
    obtain ⟨y0, d0, d1, d2⟩ := G1.out.bx
    go_wp2_with fail
    go_at_call 44
    refine (reach_at _ (Fx.hsr G1) kv x1 x2 HS HR).mono ?_
    rintro e w2 ⟨rfl, b2⟩
    have F2 := Lib.hid (F1.out.step b2)
    have G2 := Lib.hid (G1.out.step b2)
    clear c0 c1 c2 z0 d0 d1 d2 y0
    obtain ⟨z0, c0, c1, c2⟩ := F2.out.bx
    obtain ⟨y0, d0, d1, d2⟩ := G2.out.bx
    go_wp2_with fail
    obtain ⟨W3, hW3⟩ : ∃ W3, w2.alloc (.cells #[.int .i64 u, .int .i64 v] 35) = W3 := ⟨_, rfl⟩
    have b3 : Below w2.heap.size w2 W3 := hW3 ▸ bal _ _
    have U3 := Lib.hid (Sb.new w2 u v 35)
    rw [hW3] at U3
    rw [hW3]
    clear hW3
    have F3 := Lib.hid (F2.out.step b3)
    have G3 := Lib.hid (G2.out.step b3)
    clear c0 c1 c2 z0 d0 d1 d2 y0
    obtain ⟨z0, c0, c1, c2⟩ := F3.out.bx
    obtain ⟨y0, d0, d1, d2⟩ := G3.out.bx
    obtain ⟨i0, j0, j1, _, _⟩ := U3.out
    go_at_call 53
    refine (ended_at _ (Fx.hsr F3) V (by omega) (by omega) HF).mono ?_
    rintro e w4 ⟨rfl, b4⟩
    have U4 := Lib.hid (U3.out.below b4)
    clear i0 j0 j1
    have F4 := Lib.hid (F3.out.step b4)
    have G4 := Lib.hid (G3.out.step b4)
    clear c0 c1 c2 z0 d0 d1 d2 y0
    obtain ⟨z0, c0, c1, c2⟩ := F4.out.bx
    obtain ⟨y0, d0, d1, d2⟩ := G4.out.bx
    obtain ⟨i0, j0, j1, _, _⟩ := U4.out
    go_wp2_with fail
    go_at_call 55
    refine (near_at _ (Fx.hsr F4) V (by omega) (by omega) HE).mono ?_
    rintro e w5 ⟨rfl, b5⟩
    have F5 := Lib.hid (F4.out.step b5)
    go_wp2_with fail
    go_ret3
    exact ⟨ret_iii (congrArg Prod.fst R.out) (congrArg Prod.snd R.out), F5.out.bel⟩
theorem ret_iib {a a' b b' : Int} {c c' : Bool} (h : a' = a) (k : b' = b) (m : c' = c) : Ending.returned (.tuple #[.int .i64 a, .int .i64 b, .bool c]) = .returned (.tuple #[.int .i64 a', .int .i64 b', .bool c']) := by rw [h, k, m]
theorem Up_at {A B : Option Addr} {n cp m cq : Nat} {o p r s : Int} {l g : List (Int × Int)} {x i : Int} {b : Bool} (w : World) (h : Hid (Sr w A n cp l)) (k : Hid (Sr w B m cq g)) (hv : Hid (vld ⟨o, p, l⟩ = true)) (kv : Hid (vld ⟨r, s, g⟩ = true)) (x1 : -9223372036854775808 ≤ x) (x2 : x ≤ 9223372036854775807) (hu : Hid (upv ⟨o, p, l⟩ ⟨r, s, g⟩ x = (i, b))) :
    Calls Try.prog 22 #[.agg #[.int .i64 o, .int .i64 p, .slice A n cp], .agg #[.int .i64 r, .int .i64 s, .slice B m cq], .int .i64 x] w fun e w' => e = .returned (.tuple #[.int .i64 i, .bool b]) ∧ Below w.heap.size w w' := by
  have := Up_any x w h k hv kv x1 x2
  rw [hu.out] at this
  exact this
theorem upv_t {a b : Cal} {k i : Int} (h : upv a b k = (i, true)) : rch a k = true ∧ (pl a k).2 ≤ (pl b i).2 ∧ nr b (pl a k).1 = i := by
  unfold upv at h
  split at h
  · rename_i hc
    injection h with h1 _
    rw [h1] at hc
    exact ⟨hc.1, hc.2, h1⟩
  · injection h with _ h; cases h
theorem upv_f {a b : Cal} {k i : Int} (h : upv a b k = (i, false)) : i = 0 := by
  unfold upv at h
  split at h
  · injection h with _ h; cases h
  · injection h with h _; exact h.symm
set_option maxRecDepth 20000 in
set_option maxHeartbeats 3200000 in
theorem Place_bad {A B : Option Addr} {n cp m cq : Nat} {o p r s : Int} {l g : List (Int × Int)} (x : Int) (w : World) (h : Hid (Sr w A n cp l)) (k : Hid (Sr w B m cq g)) (HV : Hid ((vld ⟨o, p, l⟩ && vld ⟨r, s, g⟩) = false)) :
    Calls Try.prog 25 #[.agg #[.int .i64 o, .int .i64 p, .slice A n cp], .agg #[.int .i64 r, .int .i64 s, .slice B m cq], .int .i64 x] w fun e w' => e = .returned (.tuple #[.int .i64 0, .int .i64 0, .bool false]) ∧ Below w.heap.size w w' := by
  obtain ⟨W0, hW0⟩ : ∃ W0, (w.alloc (.cells #[.int .i64 o, .int .i64 p, .slice A n cp] 24)).alloc (.cells #[.int .i64 r, .int .i64 s, .slice B m cq] 24) = W0 := ⟨_, rfl⟩
  have F0 : Hid (Fx w W0 w.heap.size o p A n cp l) := Lib.hid (by rw [← hW0]; exact (Fx.new _ _ h.out).alloc _)
  have G0 : Hid (Fx w W0 (w.heap.size + 1) r s B m cq g) := Lib.hid (by rw [← hW0]; exact Fx.new2 _ _ _ k.out)
  have HW0 := Lib.hid hW0
  clear hW0
  obtain ⟨z0, c0, c1, c2⟩ := F0.out.bx
  obtain ⟨y0, d0, d1, d2⟩ := G0.out.bx
  go_enter Try.func25, Try.ntmps25
  go_wp2_with fail
  rw [HW0.out]
  go_at_call 22
  refine (Up_bad x _ (Fx.hsr F0) (Fx.hsr G0) HV).mono ?_
  rintro e w1 ⟨rfl, b1⟩
  have F1 := Lib.hid (F0.out.step b1)
  go_wp2_with fail
  go_ret3
  exact ⟨rfl, F1.out.bel⟩
set_option maxRecDepth 20000 in
set_option maxHeartbeats 3200000 in
theorem Place_any {A B : Option Addr} {n cp m cq : Nat} {o p r s : Int} {l g : List (Int × Int)} (x : Int) (w : World) (h : Hid (Sr w A n cp l)) (k : Hid (Sr w B m cq g)) (hv : Hid (vld ⟨o, p, l⟩ = true)) (kv : Hid (vld ⟨r, s, g⟩ = true)) (x1 : -9223372036854775808 ≤ x) (x2 : x ≤ 9223372036854775807) :
    Calls Try.prog 25 #[.agg #[.int .i64 o, .int .i64 p, .slice A n cp], .agg #[.int .i64 r, .int .i64 s, .slice B m cq], .int .i64 x] w fun e w' => e = .returned (.tuple #[.int .i64 (plc ⟨o, p, l⟩ ⟨r, s, g⟩ x).1, .int .i64 (plc ⟨o, p, l⟩ ⟨r, s, g⟩ x).2.1, .bool (plc ⟨o, p, l⟩ ⟨r, s, g⟩ x).2.2]) ∧ Below w.heap.size w w' := by
  have V := hVc hv
  have V' := hVc kv
  obtain ⟨W0, hW0⟩ : ∃ W0, (w.alloc (.cells #[.int .i64 o, .int .i64 p, .slice A n cp] 24)).alloc (.cells #[.int .i64 r, .int .i64 s, .slice B m cq] 24) = W0 := ⟨_, rfl⟩
  have F0 : Hid (Fx w W0 w.heap.size o p A n cp l) := Lib.hid (by rw [← hW0]; exact (Fx.new _ _ h.out).alloc _)
  have G0 : Hid (Fx w W0 (w.heap.size + 1) r s B m cq g) := Lib.hid (by rw [← hW0]; exact Fx.new2 _ _ _ k.out)
  have HW0 := Lib.hid hW0
  clear hW0
  obtain ⟨z0, c0, c1, c2⟩ := F0.out.bx
  obtain ⟨y0, d0, d1, d2⟩ := G0.out.bx
  obtain ⟨⟨i, b⟩, hu⟩ : ∃ y, upv ⟨o, p, l⟩ ⟨r, s, g⟩ x = y := ⟨_, rfl⟩
  have HU := Lib.hid hu
  have fl := fld0
  rcases b with _ | _
  · have hi0 := upv_f hu
    subst hi0
    have R : Hid (plc ⟨o, p, l⟩ ⟨r, s, g⟩ x = (0, 0, false)) := Lib.hid (by unfold plc; rw [hu]; rfl)
    clear hu
    go_enter Try.func25, Try.ntmps25
    go_wp2_with fail
    rw [HW0.out]
    go_at_call 22
    refine (Up_at _ (Fx.hsr F0) (Fx.hsr G0) hv kv x1 x2 HU).mono ?_
    rintro e w1 ⟨rfl, b1⟩
    have F1 := Lib.hid (F0.out.step b1)
    have G1 := Lib.hid (G0.out.step b1)
    clear c0 c1 c2 z0 d0 d1 d2 y0
    obtain ⟨z0, c0, c1, c2⟩ := F1.out.bx
    obtain ⟨y0, d0, d1, d2⟩ := G1.out.bx
    go_wp2_with fail
    go_ret3
    exact ⟨ret_iib (congrArg (·.1) R.out) (congrArg (·.2.1) R.out) (congrArg (·.2.2) R.out), F1.out.bel⟩
  · obtain ⟨ur, ue, uk⟩ := upv_t hu
    have ⟨u1, u2⟩ := rch_p ur
    have ul := V.out.pl_lt x
    have Bx0 := V.out.bk_rch ur
    have B := Lib.hid (V'.out.bk_nr (x := (pl ⟨o, p, l⟩ x).1) (by omega) (by omega))
    have nl := V'.out.nr_lo (pl ⟨o, p, l⟩ x).1
    have nh := (V'.out.near (pl ⟨o, p, l⟩ x).1).1
    rw [uk] at B nl nh
    have pp : s ≤ 12622780800 := V'.out.p2
    have nl' : (pl ⟨o, p, l⟩ x).1 - s < (pl ⟨r, s, g⟩ i).1 := nl
    obtain ⟨⟨u', v'⟩, huv⟩ : ∃ z, pl ⟨r, s, g⟩ i = z := ⟨_, rfl⟩
    have HP := Lib.hid huv
    rw [huv] at nh nl'
    have nh' : u' ≤ (pl ⟨o, p, l⟩ x).1 := nh
    have nl2 : (pl ⟨o, p, l⟩ x).1 - s < u' := nl'
    have ub1 : -4410669291904 ≤ u' := by omega
    have ub2 : u' ≤ 4398046511104 := by omega
    have na := V.out.nr_bd (x := u' - 1) (by omega) (by omega)
    obtain ⟨f, hf⟩ : ∃ f, nr ⟨o, p, l⟩ (u' - 1) = f := ⟨_, rfl⟩
    rw [hf] at na
    have HF := Lib.hid hf
    have xb1 := Bx0.k1
    have xb2 := Bx0.k2
    have R : Hid (plc ⟨o, p, l⟩ ⟨r, s, g⟩ x = (i, x - (f + 1) + 1, true)) := Lib.hid (by unfold plc; rw [hu]; dsimp only; rw [huv]; dsimp only; rw [hf]; rfl)
    clear hu ur ue uk u1 u2 ul Bx0 nl nh huv nh' nl2 hf pp nl'
    go_enter Try.func25, Try.ntmps25
    go_wp2_with fail
    rw [HW0.out]
    go_at_call 22
    refine (Up_at _ (Fx.hsr F0) (Fx.hsr G0) hv kv x1 x2 HU).mono ?_
    rintro e w1 ⟨rfl, b1⟩
    have F1 := Lib.hid (F0.out.step b1)
    have G1 := Lib.hid (G0.out.step b1)
    clear c0 c1 c2 z0 d0 d1 d2 y0
    obtain ⟨z0, c0, c1, c2⟩ := F1.out.bx
    obtain ⟨y0, d0, d1, d2⟩ := G1.out.bx
    go_wp2_with fail
    have hS := Abv.cells w1
    refine wp_region_abv (by kernel_rfl) (by kernel_rfl) ?_
    repeat (go_big_quiet_step ((first | (go_at_call 45; exact abv_call (place_at _ (Lib.hid (G1.out.sr.below (Abv.bel _))) V' B HP)) | (go_at_call 54; exact abv_call (inside_at _ (Lib.hid (F1.out.sr.below (Abv.bel _))) V (by omega) (by omega) HF)))))
    refine wpQuiet_nil ?_
    rintro w2 hw2
    clear hS
    have F5 := Lib.hid (F1.out.step hw2)
    go_wp2_with fail
    go_ret3
    exact ⟨ret_iib (congrArg (·.1) R.out) (congrArg (·.2.1) R.out) (congrArg (·.2.2) R.out), F5.out.bel⟩
end Go.Proofs.Ytainibnjpkbfpaa.Cv
