/- Walks: granule.Near, Find, Span. -/
import Derived.Test.YtainibnjpkbfpaaCalW10
import Derived.Test.YtainibnjpkbfpaaCalW5
namespace Go.Proofs.Ytainibnjpkbfpaa.Cv
set_option linter.unusedVariables false
set_option linter.unusedSimpArgs false
open Go.RowKit Wl

/-- A calendar in a box and its spans, in a world behind w0. -/
structure Fx (w0 W : World) (b : Nat) (o q : Int) (A : Option Addr) (n c : Nat) (l : List (Int × Int)) : Prop where
  bel : Below w0.heap.size w0 W
  bx : Bx W b o q A n c
  sr : Sr W A n c l
  b0 : w0.heap.size ≤ b
section
variable {w0 W U : World} {b : Nat} {o q : Int} {A : Option Addr} {n c : Nat} {l : List (Int × Int)}
theorem Fx.step (h : Fx w0 W b o q A n c l) (k : Below W.heap.size W U) : Fx w0 U b o q A n c l := ⟨h.bel.trans (k.mono h.bel.size), h.bx.below k, h.sr.below k, h.b0⟩
theorem Fx.hsr (h : Hid (Fx w0 W b o q A n c l)) : Hid (Sr W A n c l) := Lib.hid h.out.sr
theorem Fx.alloc (h : Fx w0 W b o q A n c l) (x : Obj) : Fx w0 (W.alloc x) b o q A n c l := h.step (bal _ _)
theorem Fx.new (w : World) (T : TypeId) (h : Sr w A n c l) : Fx w (w.alloc (.cells #[.int .i64 o, .int .i64 q, .slice A n c] T)) w.heap.size o q A n c l :=
  ⟨bal _ _, Bx.new _ _ _ _ _ _ _, h.below (bal _ _), Nat.le_refl _⟩
end
theorem ret_ib {a a' : Int} {b b' : Bool} (h : a' = a) (k : b' = b) : Ending.returned (.tuple #[.int .i64 a, .bool b]) = .returned (.tuple #[.int .i64 a', .bool b']) := by rw [h, k]
theorem hVc {o p : Int} {l : List (Int × Int)} (h : Hid (vld ⟨o, p, l⟩ = true)) : Hid (Vc ⟨o, p, l⟩) := Lib.hid (vc h.out)
theorem fld0 (u v : Int) (w : World) : (Instr.field 35 (.agg #[.int .i64 u, .int .i64 v]) 0).run Try.prog w = .ok (.int .i64 u) w := by kernel_rfl
theorem fld1 (u v : Int) (w : World) : (Instr.field 35 (.agg #[.int .i64 u, .int .i64 v]) 1).run Try.prog w = .ok (.int .i64 v) w := by kernel_rfl
theorem at_at {A : Option Addr} {n cp : Nat} {o p u v k : Int} {l : List (Int × Int)} (w : World) (h : Hid (Sr w A n cp l)) (hv : Hid (Vc ⟨o, p, l⟩)) (B : Hid (Bk ⟨o, p, l⟩ k)) (HP : Hid (pl ⟨o, p, l⟩ k = (u, v))) :
    Calls Try.prog 50 #[.agg #[.int .i64 o, .int .i64 p, .slice A n cp], .int .i64 k] w fun e w' => e = .returned (.agg #[.int .i64 u, .int .i64 v]) ∧ Below w.heap.size w w' := by
  have := at_any k w h hv (by have := B.out.k1; omega) (by have := B.out.k2; omega) B.out.m1 B.out.m2
  rw [HP.out] at this
  exact this
theorem place_at {A : Option Addr} {n cp : Nat} {o p u v k : Int} {l : List (Int × Int)} (w : World) (h : Hid (Sr w A n cp l)) (hv : Hid (Vc ⟨o, p, l⟩)) (B : Hid (Bk ⟨o, p, l⟩ k)) (HP : Hid (pl ⟨o, p, l⟩ k = (u, v))) :
    Calls Try.prog 45 #[.agg #[.int .i64 o, .int .i64 p, .slice A n cp], .int .i64 k] w fun e w' => e = .returned (.agg #[.int .i64 u, .int .i64 v]) ∧ Below w.heap.size w w' := by
  have := place_any k w h hv (by have := B.out.k1; omega) (by have := B.out.k2; omega) B.out.m1 B.out.m2
  rw [HP.out] at this
  exact this
set_option maxHeartbeats 1600000 in
theorem gNear_any {A : Option Addr} {n cp : Nat} {o p : Int} {l : List (Int × Int)} (x : Int) (w : World) (h : Hid (Sr w A n cp l)) (hv : Hid (vld ⟨o, p, l⟩ = true)) (hx : Hid (line x = true)) :
    Calls Try.prog 49 #[.agg #[.int .i64 o, .int .i64 p, .slice A n cp], .int .i64 x] w fun e w' => e = .returned (.int .i64 (nr ⟨o, p, l⟩ x)) ∧ Below w.heap.size w w' := by
  have V := hVc hv
  have hnc := h.out.nc
  have hc63 := h.out.c63
  have hl := Lib.hid h.out.len
  have hn1 : 1 ≤ n := by have : 1 ≤ l.length := V.out.n1; have := hl.out; omega
  have hn2 : n ≤ 5000 := by have : l.length ≤ 5000 := V.out.n2; have := hl.out; omega
  have o1 : -2199023255552 ≤ o := V.out.o1
  have o2 : o ≤ 2199023255552 := V.out.o2
  have p1 : 1 ≤ p := V.out.p1
  have p2 : p ≤ 12622780800 := V.out.p2
  have np : (n : Int) ≤ p := by have : (l.length : Int) ≤ p := V.out.np; have := hl.out; omega
  have ⟨x1, x2⟩ := line_p hx.out
  obtain ⟨m1, m2, m3, m4, m5, m6⟩ := qn_bd (x := x - o) (p := p) (n := n) (by omega) (by omega) p1 p2 (by omega) np
  have r2 := Int.mul_ediv_add_emod (x - o) p
  have r3 := Int.emod_nonneg (x - o) (show p ≠ 0 by omega)
  obtain ⟨q, hq⟩ : ∃ q, (x - o) / p = q := ⟨_, rfl⟩
  obtain ⟨r, hr⟩ : ∃ r, (x - o) % p = r := ⟨_, rfl⟩
  have HN := Lib.hid (nr_eq hl.out hq hr)
  rw [hq] at m1 m2 m3 m4 m5 m6 r2
  rw [hr] at r2 r3
  have HR : x - o - p * q = r := by omega
  have HQ := Lib.hid hq
  have G0 : Hid ((gt l 0).1 ≤ r) := Lib.hid (by have : (gt l 0).1 = 0 := V.out.z; omega)
  clear hq hr r2
  obtain ⟨W0, hW0⟩ : ∃ W0, w.alloc (.cells #[.int .i64 o, .int .i64 p, .slice A n cp] 24) = W0 := ⟨_, rfl⟩
  have F0 : Hid (Fx w W0 w.heap.size o p A n cp l) := Lib.hid (by rw [← hW0]; exact Fx.new _ _ h.out)
  have HW0 := Lib.hid hW0
  clear hW0
  obtain ⟨z0, c0, c1, c2⟩ := F0.out.bx
  go_enter Try.func49, Try.ntmps49
  go_wp2_with fail
  rw [HW0.out]
  go_at_call 43
  refine (Valid_any o p _ (Fx.hsr F0)).mono ?_
  rintro e w1 ⟨rfl, b1⟩
  rw [hv.out]
  have F1 := Lib.hid (F0.out.step b1)
  clear c0 c1 c2 z0
  obtain ⟨z0, c0, c1, c2⟩ := F1.out.bx
  go_wp2_with fail
  go_at_call 48
  refine (gline_any x _).mono ?_
  rintro e w2 ⟨rfl, rfl⟩
  rw [hx.out]
  go_wp2_with fail
  go_at_call 51
  refine (FloorB (x - o) p _ (by omega) (by omega) p1 (by omega)).mono ?_
  rintro e w2 ⟨rfl, b2⟩
  rw [HQ.out]
  have F2 := Lib.hid (F1.out.step b2)
  clear c0 c1 c2 z0
  obtain ⟨z0, c0, c1, c2⟩ := F2.out.bx
  go_wp2_with fail
  have F3 := Lib.hid (F2.out.step (bal w2 (.cells #[.int .i64 r] 3)))
  have hs : (w2.alloc (.cells #[.int .i64 r] 3)).cell? ⟨w2.heap.size, 0, none⟩ = some (.int .i64 r) := by unfold World.cell?; rw [heap_alloc_new]; rfl
  refine (Search_any (r := r) _ (Fx.hsr F3) (Lib.hid F3.out.bx) hs (by simp) (Lib.hid V.out.asc) hn2).mono ?_
  rintro e w3 ⟨k, rfl, hk, k1, k2, b3⟩
  obtain ⟨hk1, hk2⟩ := idx_of G0.out (by have := hl.out; omega) k1 (by rw [← hl.out]; exact k2) (by have := hl.out; omega)
  rw [← hl.out] at hk2
  have R := Lib.hid hk2
  have F4 := Lib.hid (F3.out.step b3)
  clear c0 c1 c2 z0 hs k1 k2 hk2
  obtain ⟨z0, c0, c1, c2⟩ := F4.out.bx
  have hqn : (n : Int) * q = q * (n : Int) := Int.mul_comm _ _
  have m7 : -1125899906842624 ≤ (n : Int) * q := by omega
  have m8 : (n : Int) * q ≤ 1125899906842624 := by omega
  have HF : Hid ((n : Int) * q + (k : Int) - 1 = nr ⟨o, p, l⟩ x) := Lib.hid (by rw [HN.out, R.out]; omega)
  clear hqn
  go_wp2_with fail
  go_ret
  exact ⟨ret_int HF.out, F4.out.bel⟩
set_option maxRecDepth 20000 in
theorem gFind_any {A : Option Addr} {n cp : Nat} {o p : Int} {l : List (Int × Int)} (x : Int) (w : World) (h : Hid (Sr w A n cp l)) (hv : Hid (vld ⟨o, p, l⟩ = true)) :
    Calls Try.prog 15 #[.agg #[.int .i64 o, .int .i64 p, .slice A n cp], .int .i64 x] w fun e w' => e = .returned (.tuple #[.int .i64 (fnd ⟨o, p, l⟩ x).1, .bool (fnd ⟨o, p, l⟩ x).2]) ∧ Below w.heap.size w w' := by
  have V := hVc hv
  obtain ⟨W0, hW0⟩ : ∃ W0, w.alloc (.cells #[.int .i64 o, .int .i64 p, .slice A n cp] 24) = W0 := ⟨_, rfl⟩
  have F0 : Hid (Fx w W0 w.heap.size o p A n cp l) := Lib.hid (by rw [← hW0]; exact Fx.new _ _ h.out)
  have HW0 := Lib.hid hW0
  clear hW0
  obtain ⟨z0, c0, c1, c2⟩ := F0.out.bx
  rcases hx : line x with _ | _
  · have R : Hid (fnd ⟨o, p, l⟩ x = (0, false)) := Lib.hid (by unfold fnd; rw [hx]; simp)
    have HX := Lib.hid hx
    clear hx
    go_enter Try.func15, Try.ntmps15
    go_wp2_with fail
    rw [HW0.out]
    go_at_call 43
    refine (Valid_any o p _ (Fx.hsr F0)).mono ?_
    rintro e w1 ⟨rfl, b1⟩
    rw [hv.out]
    have F1 := Lib.hid (F0.out.step b1)
    go_wp2_with fail
    go_at_call 48
    refine (gline_any x _).mono ?_
    rintro e w2 ⟨rfl, rfl⟩
    rw [HX.out]
    go_wp2_with fail
    go_ret2
    exact ⟨ret_ib (congrArg Prod.fst R.out) (congrArg Prod.snd R.out), F1.out.bel⟩
  · have HX := Lib.hid hx
    have ⟨x1, x2⟩ := line_p hx
    have B := Lib.hid (V.out.bk_nr (x := x) (by omega) (by omega))
    obtain ⟨k, hk⟩ : ∃ k, nr ⟨o, p, l⟩ x = k := ⟨_, rfl⟩
    rw [hk] at B
    have HK := Lib.hid hk
    obtain ⟨⟨u, v⟩, huv⟩ : ∃ s, pl ⟨o, p, l⟩ k = s := ⟨_, rfl⟩
    have HP := Lib.hid huv
    have RR : Hid (fnd ⟨o, p, l⟩ x = if x < v then (k, true) else (0, false)) := Lib.hid (by
      unfold fnd; rw [hk, huv, hx]; simp)
    clear hx hk huv
    have fl := fld1
    rcases hd : decide (x ≥ v) with _ | _
    · have R : Hid (fnd ⟨o, p, l⟩ x = (k, true)) := Lib.hid (by rw [RR.out, if_pos (by simp at hd; omega)])
      go_enter Try.func15, Try.ntmps15
      go_wp2_with fail
      rw [HW0.out]
      go_at_call 43
      refine (Valid_any o p _ (Fx.hsr F0)).mono ?_
      rintro e w1 ⟨rfl, b1⟩
      rw [hv.out]
      have F1 := Lib.hid (F0.out.step b1)
      clear c0 c1 c2 z0
      obtain ⟨z0, c0, c1, c2⟩ := F1.out.bx
      go_wp2_with fail
      go_at_call 48
      refine (gline_any x _).mono ?_
      rintro e w2 ⟨rfl, rfl⟩
      rw [HX.out]
      go_wp2_with fail
      go_at_call 49
      refine (gNear_any x _ (Fx.hsr F1) hv HX).mono ?_
      rintro e w2 ⟨rfl, b2⟩
      rw [HK.out]
      have F2 := Lib.hid (F1.out.step b2)
      clear c0 c1 c2 z0
      obtain ⟨z0, c0, c1, c2⟩ := F2.out.bx
      go_wp2_with fail
      go_at_call 50
      refine (at_at _ (Fx.hsr F2) V B HP).mono ?_
      rintro e w3 ⟨rfl, b3⟩
      have F3 := Lib.hid (F2.out.step b3)
      go_wp2_with fail
      go_ret2
      exact ⟨ret_ib (congrArg Prod.fst R.out) (congrArg Prod.snd R.out), F3.out.bel⟩
    · have R : Hid (fnd ⟨o, p, l⟩ x = (0, false)) := Lib.hid (by rw [RR.out, if_neg (by simp at hd; omega)])
      go_enter Try.func15, Try.ntmps15
      go_wp2_with fail
      rw [HW0.out]
      go_at_call 43
      refine (Valid_any o p _ (Fx.hsr F0)).mono ?_
      rintro e w1 ⟨rfl, b1⟩
      rw [hv.out]
      have F1 := Lib.hid (F0.out.step b1)
      clear c0 c1 c2 z0
      obtain ⟨z0, c0, c1, c2⟩ := F1.out.bx
      go_wp2_with fail
      go_at_call 48
      refine (gline_any x _).mono ?_
      rintro e w2 ⟨rfl, rfl⟩
      rw [HX.out]
      go_wp2_with fail
      go_at_call 49
      refine (gNear_any x _ (Fx.hsr F1) hv HX).mono ?_
      rintro e w2 ⟨rfl, b2⟩
      rw [HK.out]
      have F2 := Lib.hid (F1.out.step b2)
      clear c0 c1 c2 z0
      obtain ⟨z0, c0, c1, c2⟩ := F2.out.bx
      go_wp2_with fail
      go_at_call 50
      refine (at_at _ (Fx.hsr F2) V B HP).mono ?_
      rintro e w3 ⟨rfl, b3⟩
      have F3 := Lib.hid (F2.out.step b3)
      go_wp2_with fail
      go_ret2
      exact ⟨ret_ib (congrArg Prod.fst R.out) (congrArg Prod.snd R.out), F3.out.bel⟩
end Go.Proofs.Ytainibnjpkbfpaa.Cv
