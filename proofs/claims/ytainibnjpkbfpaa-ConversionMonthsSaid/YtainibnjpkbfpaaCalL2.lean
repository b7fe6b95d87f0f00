/- The law: ConversionCounts. -/
import Derived.Test.YtainibnjpkbfpaaCalL1
namespace Go.Proofs.Ytainibnjpkbfpaa.Cv
set_option linter.unusedVariables false
set_option linter.unusedSimpArgs false
open Go.RowKit Wl

def btw (c : Cal) (x y : Int) : Int × Int := if line x = true ∧ line y = true then (nr c y - nr c x, 0) else (0, 2)
def ctn (c : Cal) (x y : Int) : Int × Int := if svld (x, y) = true then (if x < -4398046511103 ∨ 4398046511103 < y then (0, 2) else ((ins c (x, y)).2, 0)) else (0, 1)
theorem Between_at {A : Option Addr} {n cp : Nat} {o p : Int} {l : List (Int × Int)} {x y z e : Int} (w : World) (h : Hid (Sr w A n cp l)) (hv : Hid (vld ⟨o, p, l⟩ = true)) (hb : Hid (btw ⟨o, p, l⟩ x y = (z, e))) :
    Calls Try.prog 18 #[.agg #[.int .i64 o, .int .i64 p, .slice A n cp], .int .i64 x, .int .i64 y] w fun q w' => q = .returned (.tuple #[.int .i64 z, .int .i64 e]) ∧ Below w.heap.size w w' := by
  by_cases hl : line x = true ∧ line y = true
  · have := Between_any x y w h hv (Lib.hid hl.1) (Lib.hid hl.2)
    have e := hb.out
    unfold btw at e
    rw [if_pos hl] at e
    injection e with e1 e2
    rw [e1, e2] at this; exact this
  · have := Between_no x y w h hv (Lib.hid hl)
    have e := hb.out
    unfold btw at e
    rw [if_neg hl] at e
    injection e with e1 e2
    rw [← e1, ← e2]; exact this
theorem Count_at {A : Option Addr} {n cp : Nat} {o p : Int} {l : List (Int × Int)} {x y z e : Int} (w : World) (h : Hid (Sr w A n cp l)) (hv : Hid (vld ⟨o, p, l⟩ = true)) (hb : Hid (ctn ⟨o, p, l⟩ x y = (z, e))) :
    Calls Try.prog 17 #[.agg #[.int .i64 o, .int .i64 p, .slice A n cp], .agg #[.int .i64 x, .int .i64 y]] w fun q w' => q = .returned (.tuple #[.int .i64 z, .int .i64 e]) ∧ Below w.heap.size w w' := by
  have e := hb.out
  unfold ctn at e
  by_cases hs : svld (x, y) = true
  · rw [if_pos hs] at e
    by_cases hf : x < -4398046511103 ∨ 4398046511103 < y
    · have := Count_far x y w h hv (Lib.hid hs) hf
      rw [if_pos hf] at e
      injection e with e1 e2
      rw [← e1, ← e2]; exact this
    · have := Count_any x y w h hv (Lib.hid hs) (by omega) (by omega)
      rw [if_neg hf] at e
      injection e with e1 e2
      rw [e1, e2] at this; exact this
  · have := Count_no x y w h hv (Lib.hid (by rcases hh : svld (x, y) with _ | _; rfl; exact absurd hh hs))
    rw [if_neg hs] at e
    injection e with e1 e2
    rw [← e1, ← e2]; exact this
theorem rInside_at {A : Option Addr} {n cp : Nat} {o p : Int} {l : List (Int × Int)} {x y f z : Int} (w : World) (h : Hid (Sr w A n cp l)) (hv : Hid (vld ⟨o, p, l⟩ = true)) (hxy : x < y) (x1 : -4410669291904 ≤ x) (y2 : y ≤ 4410669291904) (hi : Hid (ins ⟨o, p, l⟩ (x, y) = (f, z))) :
    Calls Try.prog 20 #[.agg #[.int .i64 o, .int .i64 p, .slice A n cp], .agg #[.int .i64 x, .int .i64 y]] w fun e w' => e = .returned (.tuple #[.int .i64 f, .int .i64 z]) ∧ Below w.heap.size w w' := by
  have := rInside_any x y w h (hVc hv) hxy x1 y2
  rw [hi.out] at this; exact this
set_option maxRecDepth 20000 in
set_option maxHeartbeats 12800000 in
theorem ConversionCounts_walk (o p : Int) (A : Option Addr) (n cp : Nat) (l : List (Int × Int)) (x y z : Int) (w : World) (h : Hid (Sr w A n cp l)) (x1 : -9223372036854775808 ≤ x) (x2 : x ≤ 9223372036854775807) (y1 : -9223372036854775808 ≤ y) (y2 : y ≤ 9223372036854775807) (z1 : -9223372036854775808 ≤ z) (z2 : z ≤ 9223372036854775807) :
    Calls Try.prog 4 #[.agg #[.int .i64 o, .int .i64 p, .slice A n cp], .int .i64 x, .int .i64 y, .int .i64 z] w fun e w' => e = .returned (.bool true) ∧ Below w.heap.size w w' := by
  obtain ⟨W0, hW0⟩ : ∃ W0, w.alloc (.cells #[.int .i64 o, .int .i64 p, .slice A n cp] 24) = W0 := ⟨_, rfl⟩
  have F0 : Hid (Fx w W0 w.heap.size o p A n cp l) := Lib.hid (by rw [← hW0]; exact Fx.new _ _ h.out)
  have HW0 := Lib.hid hW0
  clear hW0
  obtain ⟨z0, c0, c1, c2⟩ := F0.out.bx
  rcases hl : lng n with _ | _
  all_goals replace hl := Lib.hid hl
  · rcases hv : vld ⟨o, p, l⟩ with _ | _
    all_goals replace hv := Lib.hid hv
    · go_enter Try.func4, Try.ntmps4
      go_wp2_with fail
      rw [HW0.out]
      go_at_call 10
      refine (awake_any _).mono ?_
      rintro e w1 ⟨rfl, b1⟩
      have F1 := Lib.hid (F0.out.step b1)
      clear c0 c1 c2 z0
      obtain ⟨z0, c0, c1, c2⟩ := F1.out.bx
      go_wp2_with fail
      go_at_call 11
      refine (long_at o p _ hl).mono ?_
      rintro e w2 ⟨rfl, b2⟩
      have F2 := Lib.hid (F1.out.step b2)
      clear c0 c1 c2 z0
      obtain ⟨z0, c0, c1, c2⟩ := F2.out.bx
      go_wp2_with fail
      obtain ⟨w3, hW⟩ : ∃ W, w2.alloc (.cells #[.int .i64 x, .int .i64 y] 35) = W := ⟨_, rfl⟩
      have b3 : Below w2.heap.size w2 w3 := hW ▸ bal _ _
      have Uq3 := Lib.hid (Sb.new w2 x y 35)
      rw [hW] at Uq3 ⊢
      clear hW
      have F3 := Lib.hid (F2.out.step b3)
      clear c0 c1 c2 z0
      obtain ⟨z0, c0, c1, c2⟩ := F3.out.bx
      obtain ⟨tq, eq0, eq1, _, _⟩ := Uq3.out
      go_at_call 17
      refine (Count_bad x y _ (Fx.hsr F3) hv).mono ?_
      rintro e w4 ⟨rfl, b4⟩
      have F4 := Lib.hid (F3.out.step b4)
      have Uq4 := Lib.hid (Uq3.out.below b4)
      clear c0 c1 c2 z0 tq eq0 eq1
      obtain ⟨z0, c0, c1, c2⟩ := F4.out.bx
      obtain ⟨tq, eq0, eq1, _, _⟩ := Uq4.out
      go_wp2_with fail
      go_at_call 18
      refine (Between_bad x y _ (Fx.hsr F4) hv).mono ?_
      rintro e w5 ⟨rfl, b5⟩
      have F5 := Lib.hid (F4.out.step b5)
      have Uq5 := Lib.hid (Uq4.out.below b5)
      clear c0 c1 c2 z0 tq eq0 eq1
      obtain ⟨z0, c0, c1, c2⟩ := F5.out.bx
      obtain ⟨tq, eq0, eq1, _, _⟩ := Uq5.out
      go_wp2_with fail
      go_at_call 18
      refine (Between_bad y z _ (Fx.hsr F5) hv).mono ?_
      rintro e w6 ⟨rfl, b6⟩
      have F6 := Lib.hid (F5.out.step b6)
      have Uq6 := Lib.hid (Uq5.out.below b6)
      clear c0 c1 c2 z0 tq eq0 eq1
      obtain ⟨z0, c0, c1, c2⟩ := F6.out.bx
      obtain ⟨tq, eq0, eq1, _, _⟩ := Uq6.out
      go_wp2_with fail
      go_at_call 18
      refine (Between_bad x z _ (Fx.hsr F6) hv).mono ?_
      rintro e w7 ⟨rfl, b7⟩
      have F7 := Lib.hid (F6.out.step b7)
      have Uq7 := Lib.hid (Uq6.out.below b7)
      clear c0 c1 c2 z0 tq eq0 eq1
      obtain ⟨z0, c0, c1, c2⟩ := F7.out.bx
      obtain ⟨tq, eq0, eq1, _, _⟩ := Uq7.out
      go_wp2_with fail
      go_at_call 13
      refine (rValid_at _ (Fx.hsr F7) hv).mono ?_
      rintro e w8 ⟨rfl, b8⟩
      have F8 := Lib.hid (F7.out.step b8)
      have Uq8 := Lib.hid (Uq7.out.below b8)
      clear c0 c1 c2 z0 tq eq0 eq1
      obtain ⟨z0, c0, c1, c2⟩ := F8.out.bx
      obtain ⟨tq, eq0, eq1, _, _⟩ := Uq8.out
      go_wp2_with fail
      go_ret
      exact ⟨rfl, F8.out.bel⟩
    · have V := hVc hv
      obtain ⟨⟨pp, pe⟩, hp⟩ : ∃ q, btw ⟨o, p, l⟩ x y = q := ⟨_, rfl⟩
      obtain ⟨⟨qq, qe⟩, hq⟩ : ∃ q, btw ⟨o, p, l⟩ y z = q := ⟨_, rfl⟩
      obtain ⟨⟨rr, re⟩, hr⟩ : ∃ q, btw ⟨o, p, l⟩ x z = q := ⟨_, rfl⟩
      obtain ⟨⟨cc, ce⟩, hc⟩ : ∃ q, ctn ⟨o, p, l⟩ x y = q := ⟨_, rfl⟩
      have HP := Lib.hid hp
      have HQ := Lib.hid hq
      have HR := Lib.hid hr
      have HC := Lib.hid hc
      unfold btw at hp hq hr
      unfold ctn at hc
      have sv := svld_eq x y
      rcases lx : line x with _ | _
      · rw [lx] at hp sv
        rw [show (false && line y && decide (x < y)) = false from rfl] at sv
        rw [sv] at hc
        rw [if_neg (by simp)] at hp hc
        injection hp with p1 p2
        injection hc with c1' c2'
        subst p1 p2 c1' c2'
        have Lx := Lib.hid lx
        clear hq hr lx sv
        go_enter Try.func4, Try.ntmps4
        go_wp2_with fail
        rw [HW0.out]
        go_at_call 10
        refine (awake_any _).mono ?_
        rintro e w1 ⟨rfl, b1⟩
        have F1 := Lib.hid (F0.out.step b1)
        clear c0 c1 c2 z0
        obtain ⟨z0, c0, c1, c2⟩ := F1.out.bx
        go_wp2_with fail
        go_at_call 11
        refine (long_at o p _ hl).mono ?_
        rintro e w2 ⟨rfl, b2⟩
        have F2 := Lib.hid (F1.out.step b2)
        clear c0 c1 c2 z0
        obtain ⟨z0, c0, c1, c2⟩ := F2.out.bx
        go_wp2_with fail
        obtain ⟨w3, hW⟩ : ∃ W, w2.alloc (.cells #[.int .i64 x, .int .i64 y] 35) = W := ⟨_, rfl⟩
        have b3 : Below w2.heap.size w2 w3 := hW ▸ bal _ _
        have Uq3 := Lib.hid (Sb.new w2 x y 35)
        rw [hW] at Uq3 ⊢
        clear hW
        have F3 := Lib.hid (F2.out.step b3)
        clear c0 c1 c2 z0
        obtain ⟨z0, c0, c1, c2⟩ := F3.out.bx
        obtain ⟨tq, eq0, eq1, _, _⟩ := Uq3.out
        go_at_call 17
        refine (Count_at _ (Fx.hsr F3) hv HC).mono ?_
        rintro e w4 ⟨rfl, b4⟩
        have F4 := Lib.hid (F3.out.step b4)
        have Uq4 := Lib.hid (Uq3.out.below b4)
        clear c0 c1 c2 z0 tq eq0 eq1
        obtain ⟨z0, c0, c1, c2⟩ := F4.out.bx
        obtain ⟨tq, eq0, eq1, _, _⟩ := Uq4.out
        go_wp2_with fail
        go_at_call 18
        refine (Between_at _ (Fx.hsr F4) hv HP).mono ?_
        rintro e w5 ⟨rfl, b5⟩
        have F5 := Lib.hid (F4.out.step b5)
        have Uq5 := Lib.hid (Uq4.out.below b5)
        clear c0 c1 c2 z0 tq eq0 eq1
        obtain ⟨z0, c0, c1, c2⟩ := F5.out.bx
        obtain ⟨tq, eq0, eq1, _, _⟩ := Uq5.out
        go_wp2_with fail
        go_at_call 18
        refine (Between_at _ (Fx.hsr F5) hv HQ).mono ?_
        rintro e w6 ⟨rfl, b6⟩
        have F6 := Lib.hid (F5.out.step b6)
        have Uq6 := Lib.hid (Uq5.out.below b6)
        clear c0 c1 c2 z0 tq eq0 eq1
        obtain ⟨z0, c0, c1, c2⟩ := F6.out.bx
        obtain ⟨tq, eq0, eq1, _, _⟩ := Uq6.out
        go_wp2_with fail
        go_at_call 18
        refine (Between_at _ (Fx.hsr F6) hv HR).mono ?_
        rintro e w7 ⟨rfl, b7⟩
        have F7 := Lib.hid (F6.out.step b7)
        have Uq7 := Lib.hid (Uq6.out.below b7)
        clear c0 c1 c2 z0 tq eq0 eq1
        obtain ⟨z0, c0, c1, c2⟩ := F7.out.bx
        obtain ⟨tq, eq0, eq1, _, _⟩ := Uq7.out
        go_wp2_with fail
        go_at_call 13
        refine (rValid_at _ (Fx.hsr F7) hv).mono ?_
        rintro e w8 ⟨rfl, b8⟩
        have F8 := Lib.hid (F7.out.step b8)
        have Uq8 := Lib.hid (Uq7.out.below b8)
        clear c0 c1 c2 z0 tq eq0 eq1
        obtain ⟨z0, c0, c1, c2⟩ := F8.out.bx
        obtain ⟨tq, eq0, eq1, _, _⟩ := Uq8.out
        go_wp2_with fail
        go_at_call 19
        refine (r17line_any x _).mono ?_
        rintro e w0 ⟨rfl, rfl⟩
        rw [Lx.out]
        go_wp2_with fail
        go_at_call 19
        refine (r17line_any x _).mono ?_
        rintro e w0 ⟨rfl, rfl⟩
        rw [Lx.out]
        go_wp2_with fail
        go_ret
        exact ⟨rfl, F8.out.bel⟩
      · rcases ly : line y with _ | _
        · rw [lx, ly] at hp sv
          rw [show (true && false && decide (x < y)) = false from rfl] at sv
          rw [sv] at hc
          rw [if_neg (by simp)] at hp hc
          injection hp with p1 p2
          injection hc with c1' c2'
          subst p1 p2 c1' c2'
          have Lx := Lib.hid lx
          have Ly := Lib.hid ly
          clear hq hr lx sv ly
          go_enter Try.func4, Try.ntmps4
          go_wp2_with fail
          rw [HW0.out]
          go_at_call 10
          refine (awake_any _).mono ?_
          rintro e w1 ⟨rfl, b1⟩
          have F1 := Lib.hid (F0.out.step b1)
          clear c0 c1 c2 z0
          obtain ⟨z0, c0, c1, c2⟩ := F1.out.bx
          go_wp2_with fail
          go_at_call 11
          refine (long_at o p _ hl).mono ?_
          rintro e w2 ⟨rfl, b2⟩
          have F2 := Lib.hid (F1.out.step b2)
          clear c0 c1 c2 z0
          obtain ⟨z0, c0, c1, c2⟩ := F2.out.bx
          go_wp2_with fail
          obtain ⟨w3, hW⟩ : ∃ W, w2.alloc (.cells #[.int .i64 x, .int .i64 y] 35) = W := ⟨_, rfl⟩
          have b3 : Below w2.heap.size w2 w3 := hW ▸ bal _ _
          have Uq3 := Lib.hid (Sb.new w2 x y 35)
          rw [hW] at Uq3 ⊢
          clear hW
          have F3 := Lib.hid (F2.out.step b3)
          clear c0 c1 c2 z0
          obtain ⟨z0, c0, c1, c2⟩ := F3.out.bx
          obtain ⟨tq, eq0, eq1, _, _⟩ := Uq3.out
          go_at_call 17
          refine (Count_at _ (Fx.hsr F3) hv HC).mono ?_
          rintro e w4 ⟨rfl, b4⟩
          have F4 := Lib.hid (F3.out.step b4)
          have Uq4 := Lib.hid (Uq3.out.below b4)
          clear c0 c1 c2 z0 tq eq0 eq1
          obtain ⟨z0, c0, c1, c2⟩ := F4.out.bx
          obtain ⟨tq, eq0, eq1, _, _⟩ := Uq4.out
          go_wp2_with fail
          go_at_call 18
          refine (Between_at _ (Fx.hsr F4) hv HP).mono ?_
          rintro e w5 ⟨rfl, b5⟩
          have F5 := Lib.hid (F4.out.step b5)
          have Uq5 := Lib.hid (Uq4.out.below b5)
          clear c0 c1 c2 z0 tq eq0 eq1
          obtain ⟨z0, c0, c1, c2⟩ := F5.out.bx
          obtain ⟨tq, eq0, eq1, _, _⟩ := Uq5.out
          go_wp2_with fail
          go_at_call 18
          refine (Between_at _ (Fx.hsr F5) hv HQ).mono ?_
          rintro e w6 ⟨rfl, b6⟩
          have F6 := Lib.hid (F5.out.step b6)
          have Uq6 := Lib.hid (Uq5.out.below b6)
          clear c0 c1 c2 z0 tq eq0 eq1
          obtain ⟨z0, c0, c1, c2⟩ := F6.out.bx
          obtain ⟨tq, eq0, eq1, _, _⟩ := Uq6.out
          go_wp2_with fail
          go_at_call 18
          refine (Between_at _ (Fx.hsr F6) hv HR).mono ?_
          rintro e w7 ⟨rfl, b7⟩
          have F7 := Lib.hid (F6.out.step b7)
          have Uq7 := Lib.hid (Uq6.out.below b7)
          clear c0 c1 c2 z0 tq eq0 eq1
          obtain ⟨z0, c0, c1, c2⟩ := F7.out.bx
          obtain ⟨tq, eq0, eq1, _, _⟩ := Uq7.out
          go_wp2_with fail
          go_at_call 13
          refine (rValid_at _ (Fx.hsr F7) hv).mono ?_
          rintro e w8 ⟨rfl, b8⟩
          have F8 := Lib.hid (F7.out.step b8)
          have Uq8 := Lib.hid (Uq7.out.below b8)
          clear c0 c1 c2 z0 tq eq0 eq1
          obtain ⟨z0, c0, c1, c2⟩ := F8.out.bx
          obtain ⟨tq, eq0, eq1, _, _⟩ := Uq8.out
          go_wp2_with fail
          go_at_call 19
          refine (r17line_any x _).mono ?_
          rintro e w0 ⟨rfl, rfl⟩
          rw [Lx.out]
          go_wp2_with fail
          go_at_call 19
          refine (r17line_any y _).mono ?_
          rintro e w0 ⟨rfl, rfl⟩
          rw [Ly.out]
          go_wp2_with fail
          go_at_call 19
          refine (r17line_any x _).mono ?_
          rintro e w0 ⟨rfl, rfl⟩
          rw [Lx.out]
          go_wp2_with fail
          go_at_call 19
          refine (r17line_any y _).mono ?_
          rintro e w0 ⟨rfl, rfl⟩
          rw [Ly.out]
          go_wp2_with fail
          go_ret
          exact ⟨rfl, F8.out.bel⟩
        · have ⟨xa, xb⟩ := line_p lx
          have ⟨ya, yb⟩ := line_p ly
          have nx := V.out.nr_bd (x := x) (by omega) (by omega)
          have ny := V.out.nr_bd (x := y) (by omega) (by omega)
          obtain ⟨f, hf⟩ : ∃ f, nr ⟨o, p, l⟩ x = f := ⟨_, rfl⟩
          obtain ⟨g, hg⟩ : ∃ f, nr ⟨o, p, l⟩ y = f := ⟨_, rfl⟩
          have HNX := Lib.hid hf
          have HNY := Lib.hid hg
          rw [if_pos ⟨lx, ly⟩, hf, hg] at hp
          rw [hf] at nx
          rw [hg] at ny
          injection hp with p1 p2
          subst p1 p2
          have LAST : Hid ((qe = 2) ∨ (qe = 0 ∧ re = 0 ∧ ∃ d, -1125899906842624 ≤ d ∧ d ≤ 1125899906842624 ∧ qq = d - g ∧ rr = d - f)) := Lib.hid (by
            rcases lz : line z with _ | _
            · left; rw [lz, if_neg (by simp)] at hq; injection hq with _ e; exact e.symm
            · right
              have ⟨za, zb⟩ := line_p lz
              have nz := V.out.nr_bd (x := z) (by omega) (by omega)
              rw [if_pos ⟨ly, lz⟩, hg] at hq
              rw [if_pos ⟨lx, lz⟩, hf] at hr
              injection hq with q1 q2
              injection hr with r1 r2
              exact ⟨q2.symm, r2.symm, nr ⟨o, p, l⟩ z, nz.1, nz.2, q1.symm, r1.symm⟩)
          clear hq hr hf hg
          have Lx := Lib.hid lx
          have Ly := Lib.hid ly
          rw [lx, ly] at sv
          clear lx ly
          by_cases hxy : x < y
          · rw [show (true && true && decide (x < y)) = true by simp [hxy]] at sv
            rw [if_pos sv] at hc
            by_cases hfar : x < -4398046511103 ∨ 4398046511103 < y
            · rw [if_pos hfar] at hc
              injection hc with c1' c2'
              subst c1' c2'
              have dxy : decide (x ≥ y) = false := by simp; omega
              clear sv
              rcases hfx : decide (x < -4398046511103) with _ | _
              · have dfy : decide (y > 4398046511103) = true := by simp at hfx ⊢; omega
                rcases LAST.out with rfl | ⟨rfl, rfl, d, dd1, dd2, rfl, rfl⟩
                · go_enter Try.func4, Try.ntmps4
                  go_wp2_with fail
                  rw [HW0.out]
                  go_at_call 10
                  refine (awake_any _).mono ?_
                  rintro e w1 ⟨rfl, b1⟩
                  have F1 := Lib.hid (F0.out.step b1)
                  clear c0 c1 c2 z0
                  obtain ⟨z0, c0, c1, c2⟩ := F1.out.bx
                  go_wp2_with fail
                  go_at_call 11
                  refine (long_at o p _ hl).mono ?_
                  rintro e w2 ⟨rfl, b2⟩
                  have F2 := Lib.hid (F1.out.step b2)
                  clear c0 c1 c2 z0
                  obtain ⟨z0, c0, c1, c2⟩ := F2.out.bx
                  go_wp2_with fail
                  obtain ⟨w3, hW⟩ : ∃ W, w2.alloc (.cells #[.int .i64 x, .int .i64 y] 35) = W := ⟨_, rfl⟩
                  have b3 : Below w2.heap.size w2 w3 := hW ▸ bal _ _
                  have Uq3 := Lib.hid (Sb.new w2 x y 35)
                  rw [hW] at Uq3 ⊢
                  clear hW
                  have F3 := Lib.hid (F2.out.step b3)
                  clear c0 c1 c2 z0
                  obtain ⟨z0, c0, c1, c2⟩ := F3.out.bx
                  obtain ⟨tq, eq0, eq1, _, _⟩ := Uq3.out
                  go_at_call 17
                  refine (Count_at _ (Fx.hsr F3) hv HC).mono ?_
                  rintro e w4 ⟨rfl, b4⟩
                  have F4 := Lib.hid (F3.out.step b4)
                  have Uq4 := Lib.hid (Uq3.out.below b4)
                  clear c0 c1 c2 z0 tq eq0 eq1
                  obtain ⟨z0, c0, c1, c2⟩ := F4.out.bx
                  obtain ⟨tq, eq0, eq1, _, _⟩ := Uq4.out
                  go_wp2_with fail
                  go_at_call 18
                  refine (Between_at _ (Fx.hsr F4) hv HP).mono ?_
                  rintro e w5 ⟨rfl, b5⟩
                  have F5 := Lib.hid (F4.out.step b5)
                  have Uq5 := Lib.hid (Uq4.out.below b5)
                  clear c0 c1 c2 z0 tq eq0 eq1
                  obtain ⟨z0, c0, c1, c2⟩ := F5.out.bx
                  obtain ⟨tq, eq0, eq1, _, _⟩ := Uq5.out
                  go_wp2_with fail
                  go_at_call 18
                  refine (Between_at _ (Fx.hsr F5) hv HQ).mono ?_
                  rintro e w6 ⟨rfl, b6⟩
                  have F6 := Lib.hid (F5.out.step b6)
                  have Uq6 := Lib.hid (Uq5.out.below b6)
                  clear c0 c1 c2 z0 tq eq0 eq1
                  obtain ⟨z0, c0, c1, c2⟩ := F6.out.bx
                  obtain ⟨tq, eq0, eq1, _, _⟩ := Uq6.out
                  go_wp2_with fail
                  go_at_call 18
                  refine (Between_at _ (Fx.hsr F6) hv HR).mono ?_
                  rintro e w7 ⟨rfl, b7⟩
                  have F7 := Lib.hid (F6.out.step b7)
                  have Uq7 := Lib.hid (Uq6.out.below b7)
                  clear c0 c1 c2 z0 tq eq0 eq1
                  obtain ⟨z0, c0, c1, c2⟩ := F7.out.bx
                  obtain ⟨tq, eq0, eq1, _, _⟩ := Uq7.out
                  go_wp2_with fail
                  go_at_call 13
                  refine (rValid_at _ (Fx.hsr F7) hv).mono ?_
                  rintro e w8 ⟨rfl, b8⟩
                  have F8 := Lib.hid (F7.out.step b8)
                  have Uq8 := Lib.hid (Uq7.out.below b8)
                  clear c0 c1 c2 z0 tq eq0 eq1
                  obtain ⟨z0, c0, c1, c2⟩ := F8.out.bx
                  obtain ⟨tq, eq0, eq1, _, _⟩ := Uq8.out
                  go_wp2_with fail
                  go_at_call 19
                  refine (r17line_any x _).mono ?_
                  rintro e w0 ⟨rfl, rfl⟩
                  rw [Lx.out]
                  go_wp2_with fail
                  go_at_call 19
                  refine (r17line_any y _).mono ?_
                  rintro e w0 ⟨rfl, rfl⟩
                  rw [Ly.out]
                  go_wp2_with fail
                  go_at_call 19
                  refine (r17line_any x _).mono ?_
                  rintro e w0 ⟨rfl, rfl⟩
                  rw [Lx.out]
                  go_wp2_with fail
                  go_at_call 19
                  refine (r17line_any y _).mono ?_
                  rintro e w0 ⟨rfl, rfl⟩
                  rw [Ly.out]
                  go_wp2_with fail
                  have hS := Abv.cells w8
                  refine wp_region_abv (by kernel_rfl) (by kernel_rfl) ?_
                  repeat (go_big_quiet_step ((first | (go_at_call_of 21 (Value.int IntKind.i64 x); exact abv_call (rNear_at _ (Lib.hid (F8.out.sr.below (Abv.bel _))) V (by omega) (by omega) HNX)) | (go_at_call_of 21 (Value.int IntKind.i64 y); exact abv_call (rNear_at _ (Lib.hid (F8.out.sr.below (Abv.bel _))) V (by omega) (by omega) HNY)))))
                  refine wpQuiet_nil ?_
                  rintro w9 hw9
                  clear hS
                  have b9 := hw9
                  have F9 := Lib.hid (F8.out.step b9)
                  have Uq9 := Lib.hid (Uq8.out.below b9)
                  clear c0 c1 c2 z0 tq eq0 eq1
                  obtain ⟨z0, c0, c1, c2⟩ := F9.out.bx
                  obtain ⟨tq, eq0, eq1, _, _⟩ := Uq9.out
                  go_wp2_with fail
                  go_ret
                  exact ⟨rfl, F9.out.bel⟩
                · have ks : g - f + (d - g) = d - f := by omega
                  go_enter Try.func4, Try.ntmps4
                  go_wp2_with fail
                  rw [HW0.out]
                  go_at_call 10
                  refine (awake_any _).mono ?_
                  rintro e w1 ⟨rfl, b1⟩
                  have F1 := Lib.hid (F0.out.step b1)
                  clear c0 c1 c2 z0
                  obtain ⟨z0, c0, c1, c2⟩ := F1.out.bx
                  go_wp2_with fail
                  go_at_call 11
                  refine (long_at o p _ hl).mono ?_
                  rintro e w2 ⟨rfl, b2⟩
                  have F2 := Lib.hid (F1.out.step b2)
                  clear c0 c1 c2 z0
                  obtain ⟨z0, c0, c1, c2⟩ := F2.out.bx
                  go_wp2_with fail
                  obtain ⟨w3, hW⟩ : ∃ W, w2.alloc (.cells #[.int .i64 x, .int .i64 y] 35) = W := ⟨_, rfl⟩
                  have b3 : Below w2.heap.size w2 w3 := hW ▸ bal _ _
                  have Uq3 := Lib.hid (Sb.new w2 x y 35)
                  rw [hW] at Uq3 ⊢
                  clear hW
                  have F3 := Lib.hid (F2.out.step b3)
                  clear c0 c1 c2 z0
                  obtain ⟨z0, c0, c1, c2⟩ := F3.out.bx
                  obtain ⟨tq, eq0, eq1, _, _⟩ := Uq3.out
                  go_at_call 17
                  refine (Count_at _ (Fx.hsr F3) hv HC).mono ?_
                  rintro e w4 ⟨rfl, b4⟩
                  have F4 := Lib.hid (F3.out.step b4)
                  have Uq4 := Lib.hid (Uq3.out.below b4)
                  clear c0 c1 c2 z0 tq eq0 eq1
                  obtain ⟨z0, c0, c1, c2⟩ := F4.out.bx
                  obtain ⟨tq, eq0, eq1, _, _⟩ := Uq4.out
                  go_wp2_with fail
                  go_at_call 18
                  refine (Between_at _ (Fx.hsr F4) hv HP).mono ?_
                  rintro e w5 ⟨rfl, b5⟩
                  have F5 := Lib.hid (F4.out.step b5)
                  have Uq5 := Lib.hid (Uq4.out.below b5)
                  clear c0 c1 c2 z0 tq eq0 eq1
                  obtain ⟨z0, c0, c1, c2⟩ := F5.out.bx
                  obtain ⟨tq, eq0, eq1, _, _⟩ := Uq5.out
                  go_wp2_with fail
                  go_at_call 18
                  refine (Between_at _ (Fx.hsr F5) hv HQ).mono ?_
                  rintro e w6 ⟨rfl, b6⟩
                  have F6 := Lib.hid (F5.out.step b6)
                  have Uq6 := Lib.hid (Uq5.out.below b6)
                  clear c0 c1 c2 z0 tq eq0 eq1
                  obtain ⟨z0, c0, c1, c2⟩ := F6.out.bx
                  obtain ⟨tq, eq0, eq1, _, _⟩ := Uq6.out
                  go_wp2_with fail
                  go_at_call 18
                  refine (Between_at _ (Fx.hsr F6) hv HR).mono ?_
                  rintro e w7 ⟨rfl, b7⟩
                  have F7 := Lib.hid (F6.out.step b7)
                  have Uq7 := Lib.hid (Uq6.out.below b7)
                  clear c0 c1 c2 z0 tq eq0 eq1
                  obtain ⟨z0, c0, c1, c2⟩ := F7.out.bx
                  obtain ⟨tq, eq0, eq1, _, _⟩ := Uq7.out
                  go_wp2_with fail
                  go_at_call 13
                  refine (rValid_at _ (Fx.hsr F7) hv).mono ?_
                  rintro e w8 ⟨rfl, b8⟩
                  have F8 := Lib.hid (F7.out.step b8)
                  have Uq8 := Lib.hid (Uq7.out.below b8)
                  clear c0 c1 c2 z0 tq eq0 eq1
                  obtain ⟨z0, c0, c1, c2⟩ := F8.out.bx
                  obtain ⟨tq, eq0, eq1, _, _⟩ := Uq8.out
                  go_wp2_with fail
                  go_at_call 19
                  refine (r17line_any x _).mono ?_
                  rintro e w0 ⟨rfl, rfl⟩
                  rw [Lx.out]
                  go_wp2_with fail
                  go_at_call 19
                  refine (r17line_any y _).mono ?_
                  rintro e w0 ⟨rfl, rfl⟩
                  rw [Ly.out]
                  go_wp2_with fail
                  go_at_call 19
                  refine (r17line_any x _).mono ?_
                  rintro e w0 ⟨rfl, rfl⟩
                  rw [Lx.out]
                  go_wp2_with fail
                  go_at_call 19
                  refine (r17line_any y _).mono ?_
                  rintro e w0 ⟨rfl, rfl⟩
                  rw [Ly.out]
                  go_wp2_with fail
                  have hS := Abv.cells w8
                  refine wp_region_abv (by kernel_rfl) (by kernel_rfl) ?_
                  repeat (go_big_quiet_step ((first | (go_at_call_of 21 (Value.int IntKind.i64 x); exact abv_call (rNear_at _ (Lib.hid (F8.out.sr.below (Abv.bel _))) V (by omega) (by omega) HNX)) | (go_at_call_of 21 (Value.int IntKind.i64 y); exact abv_call (rNear_at _ (Lib.hid (F8.out.sr.below (Abv.bel _))) V (by omega) (by omega) HNY)))))
                  refine wpQuiet_nil ?_
                  rintro w9 hw9
                  clear hS
                  have b9 := hw9
                  have F9 := Lib.hid (F8.out.step b9)
                  have Uq9 := Lib.hid (Uq8.out.below b9)
                  clear c0 c1 c2 z0 tq eq0 eq1
                  obtain ⟨z0, c0, c1, c2⟩ := F9.out.bx
                  obtain ⟨tq, eq0, eq1, _, _⟩ := Uq9.out
                  go_wp2_with fail
                  go_ret
                  exact ⟨rfl, F9.out.bel⟩
              · rcases LAST.out with rfl | ⟨rfl, rfl, d, dd1, dd2, rfl, rfl⟩
                · go_enter Try.func4, Try.ntmps4
                  go_wp2_with fail
                  rw [HW0.out]
                  go_at_call 10
                  refine (awake_any _).mono ?_
                  rintro e w1 ⟨rfl, b1⟩
                  have F1 := Lib.hid (F0.out.step b1)
                  clear c0 c1 c2 z0
                  obtain ⟨z0, c0, c1, c2⟩ := F1.out.bx
                  go_wp2_with fail
                  go_at_call 11
                  refine (long_at o p _ hl).mono ?_
                  rintro e w2 ⟨rfl, b2⟩
                  have F2 := Lib.hid (F1.out.step b2)
                  clear c0 c1 c2 z0
                  obtain ⟨z0, c0, c1, c2⟩ := F2.out.bx
                  go_wp2_with fail
                  obtain ⟨w3, hW⟩ : ∃ W, w2.alloc (.cells #[.int .i64 x, .int .i64 y] 35) = W := ⟨_, rfl⟩
                  have b3 : Below w2.heap.size w2 w3 := hW ▸ bal _ _
                  have Uq3 := Lib.hid (Sb.new w2 x y 35)
                  rw [hW] at Uq3 ⊢
                  clear hW
                  have F3 := Lib.hid (F2.out.step b3)
                  clear c0 c1 c2 z0
                  obtain ⟨z0, c0, c1, c2⟩ := F3.out.bx
                  obtain ⟨tq, eq0, eq1, _, _⟩ := Uq3.out
                  go_at_call 17
                  refine (Count_at _ (Fx.hsr F3) hv HC).mono ?_
                  rintro e w4 ⟨rfl, b4⟩
                  have F4 := Lib.hid (F3.out.step b4)
                  have Uq4 := Lib.hid (Uq3.out.below b4)
                  clear c0 c1 c2 z0 tq eq0 eq1
                  obtain ⟨z0, c0, c1, c2⟩ := F4.out.bx
                  obtain ⟨tq, eq0, eq1, _, _⟩ := Uq4.out
                  go_wp2_with fail
                  go_at_call 18
                  refine (Between_at _ (Fx.hsr F4) hv HP).mono ?_
                  rintro e w5 ⟨rfl, b5⟩
                  have F5 := Lib.hid (F4.out.step b5)
                  have Uq5 := Lib.hid (Uq4.out.below b5)
                  clear c0 c1 c2 z0 tq eq0 eq1
                  obtain ⟨z0, c0, c1, c2⟩ := F5.out.bx
                  obtain ⟨tq, eq0, eq1, _, _⟩ := Uq5.out
                  go_wp2_with fail
                  go_at_call 18
                  refine (Between_at _ (Fx.hsr F5) hv HQ).mono ?_
                  rintro e w6 ⟨rfl, b6⟩
                  have F6 := Lib.hid (F5.out.step b6)
                  have Uq6 := Lib.hid (Uq5.out.below b6)
                  clear c0 c1 c2 z0 tq eq0 eq1
                  obtain ⟨z0, c0, c1, c2⟩ := F6.out.bx
                  obtain ⟨tq, eq0, eq1, _, _⟩ := Uq6.out
                  go_wp2_with fail
                  go_at_call 18
                  refine (Between_at _ (Fx.hsr F6) hv HR).mono ?_
                  rintro e w7 ⟨rfl, b7⟩
                  have F7 := Lib.hid (F6.out.step b7)
                  have Uq7 := Lib.hid (Uq6.out.below b7)
                  clear c0 c1 c2 z0 tq eq0 eq1
                  obtain ⟨z0, c0, c1, c2⟩ := F7.out.bx
                  obtain ⟨tq, eq0, eq1, _, _⟩ := Uq7.out
                  go_wp2_with fail
                  go_at_call 13
                  refine (rValid_at _ (Fx.hsr F7) hv).mono ?_
                  rintro e w8 ⟨rfl, b8⟩
                  have F8 := Lib.hid (F7.out.step b8)
                  have Uq8 := Lib.hid (Uq7.out.below b8)
                  clear c0 c1 c2 z0 tq eq0 eq1
                  obtain ⟨z0, c0, c1, c2⟩ := F8.out.bx
                  obtain ⟨tq, eq0, eq1, _, _⟩ := Uq8.out
                  go_wp2_with fail
                  go_at_call 19
                  refine (r17line_any x _).mono ?_
                  rintro e w0 ⟨rfl, rfl⟩
                  rw [Lx.out]
                  go_wp2_with fail
                  go_at_call 19
                  refine (r17line_any y _).mono ?_
                  rintro e w0 ⟨rfl, rfl⟩
                  rw [Ly.out]
                  go_wp2_with fail
                  go_at_call 19
                  refine (r17line_any x _).mono ?_
                  rintro e w0 ⟨rfl, rfl⟩
                  rw [Lx.out]
                  go_wp2_with fail
                  go_at_call 19
                  refine (r17line_any y _).mono ?_
                  rintro e w0 ⟨rfl, rfl⟩
                  rw [Ly.out]
                  go_wp2_with fail
                  have hS := Abv.cells w8
                  refine wp_region_abv (by kernel_rfl) (by kernel_rfl) ?_
                  repeat (go_big_quiet_step ((first | (go_at_call_of 21 (Value.int IntKind.i64 x); exact abv_call (rNear_at _ (Lib.hid (F8.out.sr.below (Abv.bel _))) V (by omega) (by omega) HNX)) | (go_at_call_of 21 (Value.int IntKind.i64 y); exact abv_call (rNear_at _ (Lib.hid (F8.out.sr.below (Abv.bel _))) V (by omega) (by omega) HNY)))))
                  refine wpQuiet_nil ?_
                  rintro w9 hw9
                  clear hS
                  have b9 := hw9
                  have F9 := Lib.hid (F8.out.step b9)
                  have Uq9 := Lib.hid (Uq8.out.below b9)
                  clear c0 c1 c2 z0 tq eq0 eq1
                  obtain ⟨z0, c0, c1, c2⟩ := F9.out.bx
                  obtain ⟨tq, eq0, eq1, _, _⟩ := Uq9.out
                  go_wp2_with fail
                  go_ret
                  exact ⟨rfl, F9.out.bel⟩
                · have ks : g - f + (d - g) = d - f := by omega
                  go_enter Try.func4, Try.ntmps4
                  go_wp2_with fail
                  rw [HW0.out]
                  go_at_call 10
                  refine (awake_any _).mono ?_
                  rintro e w1 ⟨rfl, b1⟩
                  have F1 := Lib.hid (F0.out.step b1)
                  clear c0 c1 c2 z0
                  obtain ⟨z0, c0, c1, c2⟩ := F1.out.bx
                  go_wp2_with fail
                  go_at_call 11
                  refine (long_at o p _ hl).mono ?_
                  rintro e w2 ⟨rfl, b2⟩
                  have F2 := Lib.hid (F1.out.step b2)
                  clear c0 c1 c2 z0
                  obtain ⟨z0, c0, c1, c2⟩ := F2.out.bx
                  go_wp2_with fail
                  obtain ⟨w3, hW⟩ : ∃ W, w2.alloc (.cells #[.int .i64 x, .int .i64 y] 35) = W := ⟨_, rfl⟩
                  have b3 : Below w2.heap.size w2 w3 := hW ▸ bal _ _
                  have Uq3 := Lib.hid (Sb.new w2 x y 35)
                  rw [hW] at Uq3 ⊢
                  clear hW
                  have F3 := Lib.hid (F2.out.step b3)
                  clear c0 c1 c2 z0
                  obtain ⟨z0, c0, c1, c2⟩ := F3.out.bx
                  obtain ⟨tq, eq0, eq1, _, _⟩ := Uq3.out
                  go_at_call 17
                  refine (Count_at _ (Fx.hsr F3) hv HC).mono ?_
                  rintro e w4 ⟨rfl, b4⟩
                  have F4 := Lib.hid (F3.out.step b4)
                  have Uq4 := Lib.hid (Uq3.out.below b4)
                  clear c0 c1 c2 z0 tq eq0 eq1
                  obtain ⟨z0, c0, c1, c2⟩ := F4.out.bx
                  obtain ⟨tq, eq0, eq1, _, _⟩ := Uq4.out
                  go_wp2_with fail
                  go_at_call 18
                  refine (Between_at _ (Fx.hsr F4) hv HP).mono ?_
                  rintro e w5 ⟨rfl, b5⟩
                  have F5 := Lib.hid (F4.out.step b5)
                  have Uq5 := Lib.hid (Uq4.out.below b5)
                  clear c0 c1 c2 z0 tq eq0 eq1
                  obtain ⟨z0, c0, c1, c2⟩ := F5.out.bx
                  obtain ⟨tq, eq0, eq1, _, _⟩ := Uq5.out
                  go_wp2_with fail
                  go_at_call 18
                  refine (Between_at _ (Fx.hsr F5) hv HQ).mono ?_
                  rintro e w6 ⟨rfl, b6⟩
                  have F6 := Lib.hid (F5.out.step b6)
                  have Uq6 := Lib.hid (Uq5.out.below b6)
                  clear c0 c1 c2 z0 tq eq0 eq1
                  obtain ⟨z0, c0, c1, c2⟩ := F6.out.bx
                  obtain ⟨tq, eq0, eq1, _, _⟩ := Uq6.out
                  go_wp2_with fail
                  go_at_call 18
                  refine (Between_at _ (Fx.hsr F6) hv HR).mono ?_
                  rintro e w7 ⟨rfl, b7⟩
                  have F7 := Lib.hid (F6.out.step b7)
                  have Uq7 := Lib.hid (Uq6.out.below b7)
                  clear c0 c1 c2 z0 tq eq0 eq1
                  obtain ⟨z0, c0, c1, c2⟩ := F7.out.bx
                  obtain ⟨tq, eq0, eq1, _, _⟩ := Uq7.out
                  go_wp2_with fail
                  go_at_call 13
                  refine (rValid_at _ (Fx.hsr F7) hv).mono ?_
                  rintro e w8 ⟨rfl, b8⟩
                  have F8 := Lib.hid (F7.out.step b8)
                  have Uq8 := Lib.hid (Uq7.out.below b8)
                  clear c0 c1 c2 z0 tq eq0 eq1
                  obtain ⟨z0, c0, c1, c2⟩ := F8.out.bx
                  obtain ⟨tq, eq0, eq1, _, _⟩ := Uq8.out
                  go_wp2_with fail
                  go_at_call 19
                  refine (r17line_any x _).mono ?_
                  rintro e w0 ⟨rfl, rfl⟩
                  rw [Lx.out]
                  go_wp2_with fail
                  go_at_call 19
                  refine (r17line_any y _).mono ?_
                  rintro e w0 ⟨rfl, rfl⟩
                  rw [Ly.out]
                  go_wp2_with fail
                  go_at_call 19
                  refine (r17line_any x _).mono ?_
                  rintro e w0 ⟨rfl, rfl⟩
                  rw [Lx.out]
                  go_wp2_with fail
                  go_at_call 19
                  refine (r17line_any y _).mono ?_
                  rintro e w0 ⟨rfl, rfl⟩
                  rw [Ly.out]
                  go_wp2_with fail
                  have hS := Abv.cells w8
                  refine wp_region_abv (by kernel_rfl) (by kernel_rfl) ?_
                  repeat (go_big_quiet_step ((first | (go_at_call_of 21 (Value.int IntKind.i64 x); exact abv_call (rNear_at _ (Lib.hid (F8.out.sr.below (Abv.bel _))) V (by omega) (by omega) HNX)) | (go_at_call_of 21 (Value.int IntKind.i64 y); exact abv_call (rNear_at _ (Lib.hid (F8.out.sr.below (Abv.bel _))) V (by omega) (by omega) HNY)))))
                  refine wpQuiet_nil ?_
                  rintro w9 hw9
                  clear hS
                  have b9 := hw9
                  have F9 := Lib.hid (F8.out.step b9)
                  have Uq9 := Lib.hid (Uq8.out.below b9)
                  clear c0 c1 c2 z0 tq eq0 eq1
                  obtain ⟨z0, c0, c1, c2⟩ := F9.out.bx
                  obtain ⟨tq, eq0, eq1, _, _⟩ := Uq9.out
                  go_wp2_with fail
                  go_ret
                  exact ⟨rfl, F9.out.bel⟩

            · rw [if_neg hfar] at hc
              injection hc with c1' c2'
              subst c2'
              have dxy : decide (x ≥ y) = false := by simp; omega
              obtain ⟨⟨fi, ni⟩, hi⟩ : ∃ q, ins ⟨o, p, l⟩ (x, y) = q := ⟨_, rfl⟩
              have HI := Lib.hid hi
              rw [hi] at c1'
              dsimp only at c1'
              subst c1'
              have dfx : decide (x < -4398046511103) = false := by simp; omega
              have dfy : decide (y > 4398046511103) = false := by simp; omega
              clear sv hi
              rcases LAST.out with rfl | ⟨rfl, rfl, d, dd1, dd2, rfl, rfl⟩
              · go_enter Try.func4, Try.ntmps4
                go_wp2_with fail
                rw [HW0.out]
                go_at_call 10
                refine (awake_any _).mono ?_
                rintro e w1 ⟨rfl, b1⟩
                have F1 := Lib.hid (F0.out.step b1)
                clear c0 c1 c2 z0
                obtain ⟨z0, c0, c1, c2⟩ := F1.out.bx
                go_wp2_with fail
                go_at_call 11
                refine (long_at o p _ hl).mono ?_
                rintro e w2 ⟨rfl, b2⟩
                have F2 := Lib.hid (F1.out.step b2)
                clear c0 c1 c2 z0
                obtain ⟨z0, c0, c1, c2⟩ := F2.out.bx
                go_wp2_with fail
                obtain ⟨w3, hW⟩ : ∃ W, w2.alloc (.cells #[.int .i64 x, .int .i64 y] 35) = W := ⟨_, rfl⟩
                have b3 : Below w2.heap.size w2 w3 := hW ▸ bal _ _
                have Uq3 := Lib.hid (Sb.new w2 x y 35)
                rw [hW] at Uq3 ⊢
                clear hW
                have F3 := Lib.hid (F2.out.step b3)
                clear c0 c1 c2 z0
                obtain ⟨z0, c0, c1, c2⟩ := F3.out.bx
                obtain ⟨tq, eq0, eq1, _, _⟩ := Uq3.out
                go_at_call 17
                refine (Count_at _ (Fx.hsr F3) hv HC).mono ?_
                rintro e w4 ⟨rfl, b4⟩
                have F4 := Lib.hid (F3.out.step b4)
                have Uq4 := Lib.hid (Uq3.out.below b4)
                clear c0 c1 c2 z0 tq eq0 eq1
                obtain ⟨z0, c0, c1, c2⟩ := F4.out.bx
                obtain ⟨tq, eq0, eq1, _, _⟩ := Uq4.out
                go_wp2_with fail
                go_at_call 18
                refine (Between_at _ (Fx.hsr F4) hv HP).mono ?_
                rintro e w5 ⟨rfl, b5⟩
                have F5 := Lib.hid (F4.out.step b5)
                have Uq5 := Lib.hid (Uq4.out.below b5)
                clear c0 c1 c2 z0 tq eq0 eq1
                obtain ⟨z0, c0, c1, c2⟩ := F5.out.bx
                obtain ⟨tq, eq0, eq1, _, _⟩ := Uq5.out
                go_wp2_with fail
                go_at_call 18
                refine (Between_at _ (Fx.hsr F5) hv HQ).mono ?_
                rintro e w6 ⟨rfl, b6⟩
                have F6 := Lib.hid (F5.out.step b6)
                have Uq6 := Lib.hid (Uq5.out.below b6)
                clear c0 c1 c2 z0 tq eq0 eq1
                obtain ⟨z0, c0, c1, c2⟩ := F6.out.bx
                obtain ⟨tq, eq0, eq1, _, _⟩ := Uq6.out
                go_wp2_with fail
                go_at_call 18
                refine (Between_at _ (Fx.hsr F6) hv HR).mono ?_
                rintro e w7 ⟨rfl, b7⟩
                have F7 := Lib.hid (F6.out.step b7)
                have Uq7 := Lib.hid (Uq6.out.below b7)
                clear c0 c1 c2 z0 tq eq0 eq1
                obtain ⟨z0, c0, c1, c2⟩ := F7.out.bx
                obtain ⟨tq, eq0, eq1, _, _⟩ := Uq7.out
                go_wp2_with fail
                go_at_call 13
                refine (rValid_at _ (Fx.hsr F7) hv).mono ?_
                rintro e w8 ⟨rfl, b8⟩
                have F8 := Lib.hid (F7.out.step b8)
                have Uq8 := Lib.hid (Uq7.out.below b8)
                clear c0 c1 c2 z0 tq eq0 eq1
                obtain ⟨z0, c0, c1, c2⟩ := F8.out.bx
                obtain ⟨tq, eq0, eq1, _, _⟩ := Uq8.out
                go_wp2_with fail
                go_at_call 19
                refine (r17line_any x _).mono ?_
                rintro e w0 ⟨rfl, rfl⟩
                rw [Lx.out]
                go_wp2_with fail
                go_at_call 19
                refine (r17line_any y _).mono ?_
                rintro e w0 ⟨rfl, rfl⟩
                rw [Ly.out]
                go_wp2_with fail
                go_at_call 20
                refine (rInside_at _ (Fx.hsr F8) hv hxy (by omega) (by omega) HI).mono ?_
                rintro e w9 ⟨rfl, b9⟩
                have F9 := Lib.hid (F8.out.step b9)
                have Uq9 := Lib.hid (Uq8.out.below b9)
                clear c0 c1 c2 z0 tq eq0 eq1
                obtain ⟨z0, c0, c1, c2⟩ := F9.out.bx
                obtain ⟨tq, eq0, eq1, _, _⟩ := Uq9.out
                go_wp2_with fail
                go_at_call 19
                refine (r17line_any x _).mono ?_
                rintro e w0 ⟨rfl, rfl⟩
                rw [Lx.out]
                go_wp2_with fail
                go_at_call 19
                refine (r17line_any y _).mono ?_
                rintro e w0 ⟨rfl, rfl⟩
                rw [Ly.out]
                go_wp2_with fail
                have hS := Abv.cells w9
                refine wp_region_abv (by kernel_rfl) (by kernel_rfl) ?_
                repeat (go_big_quiet_step ((first | (go_at_call_of 21 (Value.int IntKind.i64 x); exact abv_call (rNear_at _ (Lib.hid (F9.out.sr.below (Abv.bel _))) V (by omega) (by omega) HNX)) | (go_at_call_of 21 (Value.int IntKind.i64 y); exact abv_call (rNear_at _ (Lib.hid (F9.out.sr.below (Abv.bel _))) V (by omega) (by omega) HNY)))))
                refine wpQuiet_nil ?_
                rintro w10 hw10
                clear hS
                have b10 := hw10
                have F10 := Lib.hid (F9.out.step b10)
                have Uq10 := Lib.hid (Uq9.out.below b10)
                clear c0 c1 c2 z0 tq eq0 eq1
                obtain ⟨z0, c0, c1, c2⟩ := F10.out.bx
                obtain ⟨tq, eq0, eq1, _, _⟩ := Uq10.out
                go_wp2_with fail
                go_ret
                exact ⟨rfl, F10.out.bel⟩
              · have ks : g - f + (d - g) = d - f := by omega
                go_enter Try.func4, Try.ntmps4
                go_wp2_with fail
                rw [HW0.out]
                go_at_call 10
                refine (awake_any _).mono ?_
                rintro e w1 ⟨rfl, b1⟩
                have F1 := Lib.hid (F0.out.step b1)
                clear c0 c1 c2 z0
                obtain ⟨z0, c0, c1, c2⟩ := F1.out.bx
                go_wp2_with fail
                go_at_call 11
                refine (long_at o p _ hl).mono ?_
                rintro e w2 ⟨rfl, b2⟩
                have F2 := Lib.hid (F1.out.step b2)
                clear c0 c1 c2 z0
                obtain ⟨z0, c0, c1, c2⟩ := F2.out.bx
                go_wp2_with fail
                obtain ⟨w3, hW⟩ : ∃ W, w2.alloc (.cells #[.int .i64 x, .int .i64 y] 35) = W := ⟨_, rfl⟩
                have b3 : Below w2.heap.size w2 w3 := hW ▸ bal _ _
                have Uq3 := Lib.hid (Sb.new w2 x y 35)
                rw [hW] at Uq3 ⊢
                clear hW
                have F3 := Lib.hid (F2.out.step b3)
                clear c0 c1 c2 z0
                obtain ⟨z0, c0, c1, c2⟩ := F3.out.bx
                obtain ⟨tq, eq0, eq1, _, _⟩ := Uq3.out
                go_at_call 17
                refine (Count_at _ (Fx.hsr F3) hv HC).mono ?_
                rintro e w4 ⟨rfl, b4⟩
                have F4 := Lib.hid (F3.out.step b4)
                have Uq4 := Lib.hid (Uq3.out.below b4)
                clear c0 c1 c2 z0 tq eq0 eq1
                obtain ⟨z0, c0, c1, c2⟩ := F4.out.bx
                obtain ⟨tq, eq0, eq1, _, _⟩ := Uq4.out
                go_wp2_with fail
                go_at_call 18
                refine (Between_at _ (Fx.hsr F4) hv HP).mono ?_
                rintro e w5 ⟨rfl, b5⟩
                have F5 := Lib.hid (F4.out.step b5)
                have Uq5 := Lib.hid (Uq4.out.below b5)
                clear c0 c1 c2 z0 tq eq0 eq1
                obtain ⟨z0, c0, c1, c2⟩ := F5.out.bx
                obtain ⟨tq, eq0, eq1, _, _⟩ := Uq5.out
                go_wp2_with fail
                go_at_call 18
                refine (Between_at _ (Fx.hsr F5) hv HQ).mono ?_
                rintro e w6 ⟨rfl, b6⟩
                have F6 := Lib.hid (F5.out.step b6)
                have Uq6 := Lib.hid (Uq5.out.below b6)
                clear c0 c1 c2 z0 tq eq0 eq1
                obtain ⟨z0, c0, c1, c2⟩ := F6.out.bx
                obtain ⟨tq, eq0, eq1, _, _⟩ := Uq6.out
                go_wp2_with fail
                go_at_call 18
                refine (Between_at _ (Fx.hsr F6) hv HR).mono ?_
                rintro e w7 ⟨rfl, b7⟩
                have F7 := Lib.hid (F6.out.step b7)
                have Uq7 := Lib.hid (Uq6.out.below b7)
                clear c0 c1 c2 z0 tq eq0 eq1
                obtain ⟨z0, c0, c1, c2⟩ := F7.out.bx
                obtain ⟨tq, eq0, eq1, _, _⟩ := Uq7.out
                go_wp2_with fail
                go_at_call 13
                refine (rValid_at _ (Fx.hsr F7) hv).mono ?_
                rintro e w8 ⟨rfl, b8⟩
                have F8 := Lib.hid (F7.out.step b8)
                have Uq8 := Lib.hid (Uq7.out.below b8)
                clear c0 c1 c2 z0 tq eq0 eq1
                obtain ⟨z0, c0, c1, c2⟩ := F8.out.bx
                obtain ⟨tq, eq0, eq1, _, _⟩ := Uq8.out
                go_wp2_with fail
                go_at_call 19
                refine (r17line_any x _).mono ?_
                rintro e w0 ⟨rfl, rfl⟩
                rw [Lx.out]
                go_wp2_with fail
                go_at_call 19
                refine (r17line_any y _).mono ?_
                rintro e w0 ⟨rfl, rfl⟩
                rw [Ly.out]
                go_wp2_with fail
                go_at_call 20
                refine (rInside_at _ (Fx.hsr F8) hv hxy (by omega) (by omega) HI).mono ?_
                rintro e w9 ⟨rfl, b9⟩
                have F9 := Lib.hid (F8.out.step b9)
                have Uq9 := Lib.hid (Uq8.out.below b9)
                clear c0 c1 c2 z0 tq eq0 eq1
                obtain ⟨z0, c0, c1, c2⟩ := F9.out.bx
                obtain ⟨tq, eq0, eq1, _, _⟩ := Uq9.out
                go_wp2_with fail
                go_at_call 19
                refine (r17line_any x _).mono ?_
                rintro e w0 ⟨rfl, rfl⟩
                rw [Lx.out]
                go_wp2_with fail
                go_at_call 19
                refine (r17line_any y _).mono ?_
                rintro e w0 ⟨rfl, rfl⟩
                rw [Ly.out]
                go_wp2_with fail
                have hS := Abv.cells w9
                refine wp_region_abv (by kernel_rfl) (by kernel_rfl) ?_
                repeat (go_big_quiet_step ((first | (go_at_call_of 21 (Value.int IntKind.i64 x); exact abv_call (rNear_at _ (Lib.hid (F9.out.sr.below (Abv.bel _))) V (by omega) (by omega) HNX)) | (go_at_call_of 21 (Value.int IntKind.i64 y); exact abv_call (rNear_at _ (Lib.hid (F9.out.sr.below (Abv.bel _))) V (by omega) (by omega) HNY)))))
                refine wpQuiet_nil ?_
                rintro w10 hw10
                clear hS
                have b10 := hw10
                have F10 := Lib.hid (F9.out.step b10)
                have Uq10 := Lib.hid (Uq9.out.below b10)
                clear c0 c1 c2 z0 tq eq0 eq1
                obtain ⟨z0, c0, c1, c2⟩ := F10.out.bx
                obtain ⟨tq, eq0, eq1, _, _⟩ := Uq10.out
                go_wp2_with fail
                go_ret
                exact ⟨rfl, F10.out.bel⟩

          · rw [show (true && true && decide (x < y)) = false by simp [hxy]] at sv
            rw [sv, if_neg (by simp)] at hc
            injection hc with c1' c2'
            subst c1' c2'
            have dxy : decide (x ≥ y) = true := by simp; omega
            clear sv
            rcases LAST.out with rfl | ⟨rfl, rfl, d, dd1, dd2, rfl, rfl⟩
            · go_enter Try.func4, Try.ntmps4
              go_wp2_with fail
              rw [HW0.out]
              go_at_call 10
              refine (awake_any _).mono ?_
              rintro e w1 ⟨rfl, b1⟩
              have F1 := Lib.hid (F0.out.step b1)
              clear c0 c1 c2 z0
              obtain ⟨z0, c0, c1, c2⟩ := F1.out.bx
              go_wp2_with fail
              go_at_call 11
              refine (long_at o p _ hl).mono ?_
              rintro e w2 ⟨rfl, b2⟩
              have F2 := Lib.hid (F1.out.step b2)
              clear c0 c1 c2 z0
              obtain ⟨z0, c0, c1, c2⟩ := F2.out.bx
              go_wp2_with fail
              obtain ⟨w3, hW⟩ : ∃ W, w2.alloc (.cells #[.int .i64 x, .int .i64 y] 35) = W := ⟨_, rfl⟩
              have b3 : Below w2.heap.size w2 w3 := hW ▸ bal _ _
              have Uq3 := Lib.hid (Sb.new w2 x y 35)
              rw [hW] at Uq3 ⊢
              clear hW
              have F3 := Lib.hid (F2.out.step b3)
              clear c0 c1 c2 z0
              obtain ⟨z0, c0, c1, c2⟩ := F3.out.bx
              obtain ⟨tq, eq0, eq1, _, _⟩ := Uq3.out
              go_at_call 17
              refine (Count_at _ (Fx.hsr F3) hv HC).mono ?_
              rintro e w4 ⟨rfl, b4⟩
              have F4 := Lib.hid (F3.out.step b4)
              have Uq4 := Lib.hid (Uq3.out.below b4)
              clear c0 c1 c2 z0 tq eq0 eq1
              obtain ⟨z0, c0, c1, c2⟩ := F4.out.bx
              obtain ⟨tq, eq0, eq1, _, _⟩ := Uq4.out
              go_wp2_with fail
              go_at_call 18
              refine (Between_at _ (Fx.hsr F4) hv HP).mono ?_
              rintro e w5 ⟨rfl, b5⟩
              have F5 := Lib.hid (F4.out.step b5)
              have Uq5 := Lib.hid (Uq4.out.below b5)
              clear c0 c1 c2 z0 tq eq0 eq1
              obtain ⟨z0, c0, c1, c2⟩ := F5.out.bx
              obtain ⟨tq, eq0, eq1, _, _⟩ := Uq5.out
              go_wp2_with fail
              go_at_call 18
              refine (Between_at _ (Fx.hsr F5) hv HQ).mono ?_
              rintro e w6 ⟨rfl, b6⟩
              have F6 := Lib.hid (F5.out.step b6)
              have Uq6 := Lib.hid (Uq5.out.below b6)
              clear c0 c1 c2 z0 tq eq0 eq1
              obtain ⟨z0, c0, c1, c2⟩ := F6.out.bx
              obtain ⟨tq, eq0, eq1, _, _⟩ := Uq6.out
              go_wp2_with fail
              go_at_call 18
              refine (Between_at _ (Fx.hsr F6) hv HR).mono ?_
              rintro e w7 ⟨rfl, b7⟩
              have F7 := Lib.hid (F6.out.step b7)
              have Uq7 := Lib.hid (Uq6.out.below b7)
              clear c0 c1 c2 z0 tq eq0 eq1
              obtain ⟨z0, c0, c1, c2⟩ := F7.out.bx
              obtain ⟨tq, eq0, eq1, _, _⟩ := Uq7.out
              go_wp2_with fail
              go_at_call 13
              refine (rValid_at _ (Fx.hsr F7) hv).mono ?_
              rintro e w8 ⟨rfl, b8⟩
              have F8 := Lib.hid (F7.out.step b8)
              have Uq8 := Lib.hid (Uq7.out.below b8)
              clear c0 c1 c2 z0 tq eq0 eq1
              obtain ⟨z0, c0, c1, c2⟩ := F8.out.bx
              obtain ⟨tq, eq0, eq1, _, _⟩ := Uq8.out
              go_wp2_with fail
              go_at_call 19
              refine (r17line_any x _).mono ?_
              rintro e w0 ⟨rfl, rfl⟩
              rw [Lx.out]
              go_wp2_with fail
              go_at_call 19
              refine (r17line_any y _).mono ?_
              rintro e w0 ⟨rfl, rfl⟩
              rw [Ly.out]
              go_wp2_with fail
              go_at_call 19
              refine (r17line_any x _).mono ?_
              rintro e w0 ⟨rfl, rfl⟩
              rw [Lx.out]
              go_wp2_with fail
              go_at_call 19
              refine (r17line_any y _).mono ?_
              rintro e w0 ⟨rfl, rfl⟩
              rw [Ly.out]
              go_wp2_with fail
              have hS := Abv.cells w8
              refine wp_region_abv (by kernel_rfl) (by kernel_rfl) ?_
              repeat (go_big_quiet_step ((first | (go_at_call_of 21 (Value.int IntKind.i64 x); exact abv_call (rNear_at _ (Lib.hid (F8.out.sr.below (Abv.bel _))) V (by omega) (by omega) HNX)) | (go_at_call_of 21 (Value.int IntKind.i64 y); exact abv_call (rNear_at _ (Lib.hid (F8.out.sr.below (Abv.bel _))) V (by omega) (by omega) HNY)))))
              refine wpQuiet_nil ?_
              rintro w9 hw9
              clear hS
              have b9 := hw9
              have F9 := Lib.hid (F8.out.step b9)
              have Uq9 := Lib.hid (Uq8.out.below b9)
              clear c0 c1 c2 z0 tq eq0 eq1
              obtain ⟨z0, c0, c1, c2⟩ := F9.out.bx
              obtain ⟨tq, eq0, eq1, _, _⟩ := Uq9.out
              go_wp2_with fail
              go_ret
              exact ⟨rfl, F9.out.bel⟩
            · have ks : g - f + (d - g) = d - f := by omega
              go_enter Try.func4, Try.ntmps4
              go_wp2_with fail
              rw [HW0.out]
              go_at_call 10
              refine (awake_any _).mono ?_
              rintro e w1 ⟨rfl, b1⟩
              have F1 := Lib.hid (F0.out.step b1)
              clear c0 c1 c2 z0
              obtain ⟨z0, c0, c1, c2⟩ := F1.out.bx
              go_wp2_with fail
              go_at_call 11
              refine (long_at o p _ hl).mono ?_
              rintro e w2 ⟨rfl, b2⟩
              have F2 := Lib.hid (F1.out.step b2)
              clear c0 c1 c2 z0
              obtain ⟨z0, c0, c1, c2⟩ := F2.out.bx
              go_wp2_with fail
              obtain ⟨w3, hW⟩ : ∃ W, w2.alloc (.cells #[.int .i64 x, .int .i64 y] 35) = W := ⟨_, rfl⟩
              have b3 : Below w2.heap.size w2 w3 := hW ▸ bal _ _
              have Uq3 := Lib.hid (Sb.new w2 x y 35)
              rw [hW] at Uq3 ⊢
              clear hW
              have F3 := Lib.hid (F2.out.step b3)
              clear c0 c1 c2 z0
              obtain ⟨z0, c0, c1, c2⟩ := F3.out.bx
              obtain ⟨tq, eq0, eq1, _, _⟩ := Uq3.out
              go_at_call 17
              refine (Count_at _ (Fx.hsr F3) hv HC).mono ?_
              rintro e w4 ⟨rfl, b4⟩
              have F4 := Lib.hid (F3.out.step b4)
              have Uq4 := Lib.hid (Uq3.out.below b4)
              clear c0 c1 c2 z0 tq eq0 eq1
              obtain ⟨z0, c0, c1, c2⟩ := F4.out.bx
              obtain ⟨tq, eq0, eq1, _, _⟩ := Uq4.out
              go_wp2_with fail
              go_at_call 18
              refine (Between_at _ (Fx.hsr F4) hv HP).mono ?_
              rintro e w5 ⟨rfl, b5⟩
              have F5 := Lib.hid (F4.out.step b5)
              have Uq5 := Lib.hid (Uq4.out.below b5)
              clear c0 c1 c2 z0 tq eq0 eq1
              obtain ⟨z0, c0, c1, c2⟩ := F5.out.bx
              obtain ⟨tq, eq0, eq1, _, _⟩ := Uq5.out
              go_wp2_with fail
              go_at_call 18
              refine (Between_at _ (Fx.hsr F5) hv HQ).mono ?_
              rintro e w6 ⟨rfl, b6⟩
              have F6 := Lib.hid (F5.out.step b6)
              have Uq6 := Lib.hid (Uq5.out.below b6)
              clear c0 c1 c2 z0 tq eq0 eq1
              obtain ⟨z0, c0, c1, c2⟩ := F6.out.bx
              obtain ⟨tq, eq0, eq1, _, _⟩ := Uq6.out
              go_wp2_with fail
              go_at_call 18
              refine (Between_at _ (Fx.hsr F6) hv HR).mono ?_
              rintro e w7 ⟨rfl, b7⟩
              have F7 := Lib.hid (F6.out.step b7)
              have Uq7 := Lib.hid (Uq6.out.below b7)
              clear c0 c1 c2 z0 tq eq0 eq1
              obtain ⟨z0, c0, c1, c2⟩ := F7.out.bx
              obtain ⟨tq, eq0, eq1, _, _⟩ := Uq7.out
              go_wp2_with fail
              go_at_call 13
              refine (rValid_at _ (Fx.hsr F7) hv).mono ?_
              rintro e w8 ⟨rfl, b8⟩
              have F8 := Lib.hid (F7.out.step b8)
              have Uq8 := Lib.hid (Uq7.out.below b8)
              clear c0 c1 c2 z0 tq eq0 eq1
              obtain ⟨z0, c0, c1, c2⟩ := F8.out.bx
              obtain ⟨tq, eq0, eq1, _, _⟩ := Uq8.out
              go_wp2_with fail
              go_at_call 19
              refine (r17line_any x _).mono ?_
              rintro e w0 ⟨rfl, rfl⟩
              rw [Lx.out]
              go_wp2_with fail
              go_at_call 19
              refine (r17line_any y _).mono ?_
              rintro e w0 ⟨rfl, rfl⟩
              rw [Ly.out]
              go_wp2_with fail
              go_at_call 19
              refine (r17line_any x _).mono ?_
              rintro e w0 ⟨rfl, rfl⟩
              rw [Lx.out]
              go_wp2_with fail
              go_at_call 19
              refine (r17line_any y _).mono ?_
              rintro e w0 ⟨rfl, rfl⟩
              rw [Ly.out]
              go_wp2_with fail
              have hS := Abv.cells w8
              refine wp_region_abv (by kernel_rfl) (by kernel_rfl) ?_
              repeat (go_big_quiet_step ((first | (go_at_call_of 21 (Value.int IntKind.i64 x); exact abv_call (rNear_at _ (Lib.hid (F8.out.sr.below (Abv.bel _))) V (by omega) (by omega) HNX)) | (go_at_call_of 21 (Value.int IntKind.i64 y); exact abv_call (rNear_at _ (Lib.hid (F8.out.sr.below (Abv.bel _))) V (by omega) (by omega) HNY)))))
              refine wpQuiet_nil ?_
              rintro w9 hw9
              clear hS
              have b9 := hw9
              have F9 := Lib.hid (F8.out.step b9)
              have Uq9 := Lib.hid (Uq8.out.below b9)
              clear c0 c1 c2 z0 tq eq0 eq1
              obtain ⟨z0, c0, c1, c2⟩ := F9.out.bx
              obtain ⟨tq, eq0, eq1, _, _⟩ := Uq9.out
              go_wp2_with fail
              go_ret
              exact ⟨rfl, F9.out.bel⟩

  · go_enter Try.func4, Try.ntmps4
    go_wp2_with fail
    rw [HW0.out]
    go_at_call 10
    refine (awake_any _).mono ?_
    rintro e w1 ⟨rfl, b1⟩
    have F1 := Lib.hid (F0.out.step b1)
    clear c0 c1 c2 z0
    obtain ⟨z0, c0, c1, c2⟩ := F1.out.bx
    go_wp2_with fail
    go_at_call 11
    refine (long_at o p _ hl).mono ?_
    rintro e w2 ⟨rfl, b2⟩
    have F2 := Lib.hid (F1.out.step b2)
    clear c0 c1 c2 z0
    obtain ⟨z0, c0, c1, c2⟩ := F2.out.bx
    go_wp2_with fail
    go_at_call 10
    refine (awake_any _).mono ?_
    rintro e w3 ⟨rfl, b3⟩
    have F3 := Lib.hid (F2.out.step b3)
    clear c0 c1 c2 z0
    obtain ⟨z0, c0, c1, c2⟩ := F3.out.bx
    go_wp2_with fail
    go_ret
    exact ⟨rfl, F3.out.bel⟩
end Go.Proofs.Ytainibnjpkbfpaa.Cv
