/- The laws: ConversionAdds, ConversionCounts. -/
import Derived.Test.YtainibnjpkbfpaaCalW18
import Derived.Test.YtainibnjpkbfpaaCalW23
namespace Go.Proofs.Ytainibnjpkbfpaa.Cv
set_option linter.unusedVariables false
set_option linter.unusedSimpArgs false
open Go.RowKit Wl

theorem rValid_at {A : Option Addr} {n cp : Nat} {o p : Int} {l : List (Int × Int)} {b : Bool} (w : World) (h : Hid (Sr w A n cp l)) (hv : Hid (vld ⟨o, p, l⟩ = b)) :
    Calls Try.prog 13 #[.agg #[.int .i64 o, .int .i64 p, .slice A n cp]] w fun e w' => e = .returned (.bool b) ∧ Below w.heap.size w w' := by
  have := rValid_any o p w h
  rw [hv.out] at this; exact this
theorem long_at (o p : Int) {A : Option Addr} {n cp : Nat} {b : Bool} (w : World) (h : Hid (lng n = b)) : Calls Try.prog 11 #[.agg #[.int .i64 o, .int .i64 p, .slice A n cp]] w fun e w' => e = .returned (.bool b) ∧ Below w.heap.size w w' := by
  have := long_any o p A n cp w
  rw [h.out] at this; exact this
theorem Add_at {A : Option Addr} {n cp : Nat} {o p : Int} {l : List (Int × Int)} {x y z e : Int} (w : World) (h : Hid (Sr w A n cp l)) (hv : Hid (vld ⟨o, p, l⟩ = true)) (ha : Hid (adp ⟨o, p, l⟩ x y = (z, e))) :
    Calls Try.prog 12 #[.agg #[.int .i64 o, .int .i64 p, .slice A n cp], .int .i64 x, .int .i64 y] w fun q w' => q = .returned (.tuple #[.int .i64 z, .int .i64 e]) ∧ Below w.heap.size w w' := by
  have := Add_any x y w h hv
  rw [ha.out] at this; exact this
theorem rAdd_at {A : Option Addr} {n cp : Nat} {o p : Int} {l : List (Int × Int)} {x y z e : Int} (w : World) (h : Hid (Sr w A n cp l)) (hv : Hid (vld ⟨o, p, l⟩ = true)) (ha : Hid (adp ⟨o, p, l⟩ x y = (z, e))) :
    Calls Try.prog 14 #[.agg #[.int .i64 o, .int .i64 p, .slice A n cp], .int .i64 x, .int .i64 y] w fun q w' => q = .returned (.tuple #[.int .i64 z, .int .i64 e]) ∧ Below w.heap.size w w' := by
  have := rAdd_any x y w h (hVc hv)
  rw [ha.out] at this; exact this
theorem add_cases {c : Cal} (h : Vc c) (x n : Int) : (∃ e, adp c x n = (0, e) ∧ e ≠ 0) ∨ ∃ y k u v, adp c x n = (y, 0) ∧ fnd c x = (k, true) ∧ fnd c y = (k + n, true) ∧ spn c (k + n) = ((u, v), 0) ∧ -4398046511104 ≤ n ∧ n ≤ 4398046511104 ∧ -1125899906842624 ≤ k ∧ k ≤ 1125899906842624 ∧ -4398046511104 ≤ v ∧ v ≤ 4398046511104 ∧
    (adp c y (-n) = (0, 2) ∨ adp c y (-n) = (x, 0) ∨ ∃ b, adp c y (-n) = (b, 0) ∧ b < x ∧ y = v - 1) := by
  by_cases hx : line x = true ∧ line n = true
  · obtain ⟨hx, hn⟩ := hx
    have hxp := line_p hx
    have hnp := line_p hn
    by_cases hf : x < (pl c (nr c x)).2
    · have hs : (pl c (nr c x)).1 ≤ x := (h.near x).1
      have kb := h.nr_bd (x := x) (by omega) (by omega)
      by_cases hr : rch c (nr c x + n) = true
      · right
        obtain ⟨k, hk⟩ : ∃ k, nr c x = k := ⟨_, rfl⟩
        rw [hk] at hf hs hr kb
        obtain ⟨y, hy⟩ : ∃ y, min ((pl c (k + n)).1 + x - (pl c k).1) ((pl c (k + n)).2 - 1) = y := ⟨_, rfl⟩
        have ha : adp c x n = (y, 0) := by unfold adp; rw [hk, if_pos ⟨hx, hn⟩, if_pos hf, if_pos hr, hy]
        have hl := h.pl_lt (k + n)
        have hp := rch_p hr
        have y1 : (pl c (k + n)).1 ≤ y := by omega
        have y2 : y < (pl c (k + n)).2 := by omega
        have yl : line y = true := line_i (by omega) (by omega)
        have f1 := h.fnd_at hx hs hf
        have f2 := h.fnd_at yl y1 y2
        have hky : nr c y = k + n := by have := fnd_t (c := c) (x := y) (by rw [f2]); rw [f2] at this; exact this.2.2.symm
        have hmn : line (-n) = true := line_i (by omega) (by omega)
        have hsp : spn c (k + n) = (((pl c (k + n)).1, (pl c (k + n)).2), 0) := spn_t (rch_onl hr)
        refine ⟨y, k, (pl c (k + n)).1, (pl c (k + n)).2, ha, f1, f2, hsp, hnp.1, hnp.2, kb.1, kb.2, by omega, by omega, ?_⟩
        by_cases hr2 : rch c k = true
        · have hb : adp c y (-n) = (min ((pl c k).1 + y - (pl c (k + n)).1) ((pl c k).2 - 1), 0) := by
            unfold adp
            rw [hky, if_pos ⟨yl, hmn⟩, if_pos y2, show k + n + -n = k by omega, if_pos hr2]
          by_cases he : y = (pl c (k + n)).1 + x - (pl c k).1
          · right; left
            have : min ((pl c k).1 + y - (pl c (k + n)).1) ((pl c k).2 - 1) = x := by omega
            rw [hb, this]
          · right; right
            exact ⟨_, hb, by omega, by omega⟩
        · left
          unfold adp
          rw [hky, if_pos ⟨yl, hmn⟩, if_pos y2, show k + n + -n = k by omega, if_neg hr2]
      · left; exact ⟨2, by unfold adp; rw [if_pos ⟨hx, hn⟩, if_pos hf, if_neg hr], by omega⟩
    · left; exact ⟨7, by unfold adp; rw [if_pos ⟨hx, hn⟩, if_neg hf], by omega⟩
  · left; exact ⟨2, by unfold adp; rw [if_neg hx], by omega⟩
set_option maxRecDepth 20000 in
set_option maxHeartbeats 6400000 in
theorem ConversionAdds_walk (o p : Int) (A : Option Addr) (n cp : Nat) (l : List (Int × Int)) (x m : Int) (w : World) (h : Hid (Sr w A n cp l)) (x1 : -9223372036854775808 ≤ x) (x2 : x ≤ 9223372036854775807) (m1 : -9223372036854775808 ≤ m) (m2 : m ≤ 9223372036854775807) :
    Calls Try.prog 3 #[.agg #[.int .i64 o, .int .i64 p, .slice A n cp], .int .i64 x, .int .i64 m] w fun e w' => e = .returned (.bool true) ∧ Below w.heap.size w w' := by
  obtain ⟨W0, hW0⟩ : ∃ W0, w.alloc (.cells #[.int .i64 o, .int .i64 p, .slice A n cp] 24) = W0 := ⟨_, rfl⟩
  have F0 : Hid (Fx w W0 w.heap.size o p A n cp l) := Lib.hid (by rw [← hW0]; exact Fx.new _ _ h.out)
  have HW0 := Lib.hid hW0
  clear hW0
  obtain ⟨z0, c0, c1, c2⟩ := F0.out.bx
  rcases hl : lng n with _ | _
  all_goals replace hl := Lib.hid hl
  · rcases hv : vld ⟨o, p, l⟩ with _ | _
    all_goals replace hv := Lib.hid hv
    · go_enter Try.func3, Try.ntmps3
      go_wp2_with fail
      rw [HW0.out]
      go_at_call 10
      refine (awake_any _).mono ?_
      rintro e w1 ⟨rfl, b1⟩
      have F1 := Lib.hid (F0.out.step b1)
      clear c0 c1 c2 z0
      obtain ⟨z0, c0, c1, c2⟩ := F1.out.bx
      go_wp2_with fail
      go_at_call 11
      refine (long_at o p _ hl).mono ?_
      rintro e w2 ⟨rfl, b2⟩
      have F2 := Lib.hid (F1.out.step b2)
      clear c0 c1 c2 z0
      obtain ⟨z0, c0, c1, c2⟩ := F2.out.bx
      go_wp2_with fail
      go_at_call 12
      refine (Add_bad x m _ (Fx.hsr F2) hv).mono ?_
      rintro e w3 ⟨rfl, b3⟩
      have F3 := Lib.hid (F2.out.step b3)
      clear c0 c1 c2 z0
      obtain ⟨z0, c0, c1, c2⟩ := F3.out.bx
      go_wp2_with fail
      go_at_call 13
      refine (rValid_at _ (Fx.hsr F3) hv).mono ?_
      rintro e w4 ⟨rfl, b4⟩
      have F4 := Lib.hid (F3.out.step b4)
      clear c0 c1 c2 z0
      obtain ⟨z0, c0, c1, c2⟩ := F4.out.bx
      go_wp2_with fail
      go_ret
      exact ⟨rfl, F4.out.bel⟩
    · have V := hVc hv
      rcases add_cases V.out x m with ⟨e, ha, he⟩ | ⟨y, k, u, v, ha, hf, hg, hs, n1, n2, k1, k2, v1, v2, hb⟩
      · have HA := Lib.hid ha
        have he' : (e != 0) = true := by simpa using he
        clear ha he
        go_enter Try.func3, Try.ntmps3
        go_wp2_with fail
        rw [HW0.out]
        go_at_call 10
        refine (awake_any _).mono ?_
        rintro e w1 ⟨rfl, b1⟩
        have F1 := Lib.hid (F0.out.step b1)
        clear c0 c1 c2 z0
        obtain ⟨z0, c0, c1, c2⟩ := F1.out.bx
        go_wp2_with fail
        go_at_call 11
        refine (long_at o p _ hl).mono ?_
        rintro e w2 ⟨rfl, b2⟩
        have F2 := Lib.hid (F1.out.step b2)
        clear c0 c1 c2 z0
        obtain ⟨z0, c0, c1, c2⟩ := F2.out.bx
        go_wp2_with fail
        go_at_call 12
        refine (Add_at _ (Fx.hsr F2) hv HA).mono ?_
        rintro e w3 ⟨rfl, b3⟩
        have F3 := Lib.hid (F2.out.step b3)
        clear c0 c1 c2 z0
        obtain ⟨z0, c0, c1, c2⟩ := F3.out.bx
        go_wp2_with fail
        go_at_call 13
        refine (rValid_at _ (Fx.hsr F3) hv).mono ?_
        rintro e w4 ⟨rfl, b4⟩
        have F4 := Lib.hid (F3.out.step b4)
        clear c0 c1 c2 z0
        obtain ⟨z0, c0, c1, c2⟩ := F4.out.bx
        go_wp2_with fail
        go_at_call 14
        refine (rAdd_at _ (Fx.hsr F4) hv HA).mono ?_
        rintro e w5 ⟨rfl, b5⟩
        have F5 := Lib.hid (F4.out.step b5)
        clear c0 c1 c2 z0
        obtain ⟨z0, c0, c1, c2⟩ := F5.out.bx
        go_wp2_with fail
        go_ret
        exact ⟨rfl, F5.out.bel⟩
      · have HA := Lib.hid ha
        have HF := Lib.hid hf
        have HG := Lib.hid hg
        have HS := Lib.hid hs
        clear ha hf hg hs
        rcases hb with hb | hb | ⟨b, hb, hbx, hyv⟩
        · have HB := Lib.hid hb
          clear hb
          go_enter Try.func3, Try.ntmps3
          go_wp2_with fail
          rw [HW0.out]
          go_at_call 10
          refine (awake_any _).mono ?_
          rintro e w1 ⟨rfl, b1⟩
          have F1 := Lib.hid (F0.out.step b1)
          clear c0 c1 c2 z0
          obtain ⟨z0, c0, c1, c2⟩ := F1.out.bx
          go_wp2_with fail
          go_at_call 11
          refine (long_at o p _ hl).mono ?_
          rintro e w2 ⟨rfl, b2⟩
          have F2 := Lib.hid (F1.out.step b2)
          clear c0 c1 c2 z0
          obtain ⟨z0, c0, c1, c2⟩ := F2.out.bx
          go_wp2_with fail
          go_at_call 12
          refine (Add_at _ (Fx.hsr F2) hv HA).mono ?_
          rintro e w3 ⟨rfl, b3⟩
          have F3 := Lib.hid (F2.out.step b3)
          clear c0 c1 c2 z0
          obtain ⟨z0, c0, c1, c2⟩ := F3.out.bx
          go_wp2_with fail
          go_at_call 13
          refine (rValid_at _ (Fx.hsr F3) hv).mono ?_
          rintro e w4 ⟨rfl, b4⟩
          have F4 := Lib.hid (F3.out.step b4)
          clear c0 c1 c2 z0
          obtain ⟨z0, c0, c1, c2⟩ := F4.out.bx
          go_wp2_with fail
          go_at_call 14
          refine (rAdd_at _ (Fx.hsr F4) hv HA).mono ?_
          rintro e w5 ⟨rfl, b5⟩
          have F5 := Lib.hid (F4.out.step b5)
          clear c0 c1 c2 z0
          obtain ⟨z0, c0, c1, c2⟩ := F5.out.bx
          go_wp2_with fail
          go_at_call 15
          refine (gFind_at _ (Fx.hsr F5) hv HF).mono ?_
          rintro e w6 ⟨rfl, b6⟩
          have F6 := Lib.hid (F5.out.step b6)
          clear c0 c1 c2 z0
          obtain ⟨z0, c0, c1, c2⟩ := F6.out.bx
          go_wp2_with fail
          go_at_call 15
          refine (gFind_at _ (Fx.hsr F6) hv HG).mono ?_
          rintro e w7 ⟨rfl, b7⟩
          have F7 := Lib.hid (F6.out.step b7)
          clear c0 c1 c2 z0
          obtain ⟨z0, c0, c1, c2⟩ := F7.out.bx
          go_wp2_with fail
          go_at_call 12
          refine (Add_at _ (Fx.hsr F7) hv HB).mono ?_
          rintro e w8 ⟨rfl, b8⟩
          have F8 := Lib.hid (F7.out.step b8)
          clear c0 c1 c2 z0
          obtain ⟨z0, c0, c1, c2⟩ := F8.out.bx
          go_wp2_with fail
          go_ret
          exact ⟨rfl, F8.out.bel⟩
        · have HB := Lib.hid hb
          clear hb
          go_enter Try.func3, Try.ntmps3
          go_wp2_with fail
          rw [HW0.out]
          go_at_call 10
          refine (awake_any _).mono ?_
          rintro e w1 ⟨rfl, b1⟩
          have F1 := Lib.hid (F0.out.step b1)
          clear c0 c1 c2 z0
          obtain ⟨z0, c0, c1, c2⟩ := F1.out.bx
          go_wp2_with fail
          go_at_call 11
          refine (long_at o p _ hl).mono ?_
          rintro e w2 ⟨rfl, b2⟩
          have F2 := Lib.hid (F1.out.step b2)
          clear c0 c1 c2 z0
          obtain ⟨z0, c0, c1, c2⟩ := F2.out.bx
          go_wp2_with fail
          go_at_call 12
          refine (Add_at _ (Fx.hsr F2) hv HA).mono ?_
          rintro e w3 ⟨rfl, b3⟩
          have F3 := Lib.hid (F2.out.step b3)
          clear c0 c1 c2 z0
          obtain ⟨z0, c0, c1, c2⟩ := F3.out.bx
          go_wp2_with fail
          go_at_call 13
          refine (rValid_at _ (Fx.hsr F3) hv).mono ?_
          rintro e w4 ⟨rfl, b4⟩
          have F4 := Lib.hid (F3.out.step b4)
          clear c0 c1 c2 z0
          obtain ⟨z0, c0, c1, c2⟩ := F4.out.bx
          go_wp2_with fail
          go_at_call 14
          refine (rAdd_at _ (Fx.hsr F4) hv HA).mono ?_
          rintro e w5 ⟨rfl, b5⟩
          have F5 := Lib.hid (F4.out.step b5)
          clear c0 c1 c2 z0
          obtain ⟨z0, c0, c1, c2⟩ := F5.out.bx
          go_wp2_with fail
          go_at_call 15
          refine (gFind_at _ (Fx.hsr F5) hv HF).mono ?_
          rintro e w6 ⟨rfl, b6⟩
          have F6 := Lib.hid (F5.out.step b6)
          clear c0 c1 c2 z0
          obtain ⟨z0, c0, c1, c2⟩ := F6.out.bx
          go_wp2_with fail
          go_at_call 15
          refine (gFind_at _ (Fx.hsr F6) hv HG).mono ?_
          rintro e w7 ⟨rfl, b7⟩
          have F7 := Lib.hid (F6.out.step b7)
          clear c0 c1 c2 z0
          obtain ⟨z0, c0, c1, c2⟩ := F7.out.bx
          go_wp2_with fail
          go_at_call 12
          refine (Add_at _ (Fx.hsr F7) hv HB).mono ?_
          rintro e w8 ⟨rfl, b8⟩
          have F8 := Lib.hid (F7.out.step b8)
          clear c0 c1 c2 z0
          obtain ⟨z0, c0, c1, c2⟩ := F8.out.bx
          go_wp2_with fail
          go_at_call 16
          refine (Span_at _ (Fx.hsr F8) hv (by omega) (by omega) HS).mono ?_
          rintro e w9 ⟨rfl, b9⟩
          have F9 := Lib.hid (F8.out.step b9)
          clear c0 c1 c2 z0
          obtain ⟨z0, c0, c1, c2⟩ := F9.out.bx
          go_wp2_with fail
          go_ret
          exact ⟨rfl, (F9.out.alloc (.cells #[.int .i64 u, .int .i64 v] 35)).bel⟩
        · have HB := Lib.hid hb
          have q1 : (b == x) = false := by simp; omega
          have q2 : decide (b < x) = true := by simpa using hbx
          subst hyv
          clear hb hbx
          go_enter Try.func3, Try.ntmps3
          go_wp2_with fail
          rw [HW0.out]
          go_at_call 10
          refine (awake_any _).mono ?_
          rintro e w1 ⟨rfl, b1⟩
          have F1 := Lib.hid (F0.out.step b1)
          clear c0 c1 c2 z0
          obtain ⟨z0, c0, c1, c2⟩ := F1.out.bx
          go_wp2_with fail
          go_at_call 11
          refine (long_at o p _ hl).mono ?_
          rintro e w2 ⟨rfl, b2⟩
          have F2 := Lib.hid (F1.out.step b2)
          clear c0 c1 c2 z0
          obtain ⟨z0, c0, c1, c2⟩ := F2.out.bx
          go_wp2_with fail
          go_at_call 12
          refine (Add_at _ (Fx.hsr F2) hv HA).mono ?_
          rintro e w3 ⟨rfl, b3⟩
          have F3 := Lib.hid (F2.out.step b3)
          clear c0 c1 c2 z0
          obtain ⟨z0, c0, c1, c2⟩ := F3.out.bx
          go_wp2_with fail
          go_at_call 13
          refine (rValid_at _ (Fx.hsr F3) hv).mono ?_
          rintro e w4 ⟨rfl, b4⟩
          have F4 := Lib.hid (F3.out.step b4)
          clear c0 c1 c2 z0
          obtain ⟨z0, c0, c1, c2⟩ := F4.out.bx
          go_wp2_with fail
          go_at_call 14
          refine (rAdd_at _ (Fx.hsr F4) hv HA).mono ?_
          rintro e w5 ⟨rfl, b5⟩
          have F5 := Lib.hid (F4.out.step b5)
          clear c0 c1 c2 z0
          obtain ⟨z0, c0, c1, c2⟩ := F5.out.bx
          go_wp2_with fail
          go_at_call 15
          refine (gFind_at _ (Fx.hsr F5) hv HF).mono ?_
          rintro e w6 ⟨rfl, b6⟩
          have F6 := Lib.hid (F5.out.step b6)
          clear c0 c1 c2 z0
          obtain ⟨z0, c0, c1, c2⟩ := F6.out.bx
          go_wp2_with fail
          go_at_call 15
          refine (gFind_at _ (Fx.hsr F6) hv HG).mono ?_
          rintro e w7 ⟨rfl, b7⟩
          have F7 := Lib.hid (F6.out.step b7)
          clear c0 c1 c2 z0
          obtain ⟨z0, c0, c1, c2⟩ := F7.out.bx
          go_wp2_with fail
          go_at_call 12
          refine (Add_at _ (Fx.hsr F7) hv HB).mono ?_
          rintro e w8 ⟨rfl, b8⟩
          have F8 := Lib.hid (F7.out.step b8)
          clear c0 c1 c2 z0
          obtain ⟨z0, c0, c1, c2⟩ := F8.out.bx
          go_wp2_with fail
          go_at_call 16
          refine (Span_at _ (Fx.hsr F8) hv (by omega) (by omega) HS).mono ?_
          rintro e w9 ⟨rfl, b9⟩
          have F9 := Lib.hid (F8.out.step b9)
          clear c0 c1 c2 z0
          obtain ⟨z0, c0, c1, c2⟩ := F9.out.bx
          go_wp2_with fail
          go_ret
          exact ⟨rfl, (F9.out.alloc (.cells #[.int .i64 u, .int .i64 v] 35)).bel⟩
  · go_enter Try.func3, Try.ntmps3
    go_wp2_with fail
    rw [HW0.out]
    go_at_call 10
    refine (awake_any _).mono ?_
    rintro e w1 ⟨rfl, b1⟩
    have F1 := Lib.hid (F0.out.step b1)
    clear c0 c1 c2 z0
    obtain ⟨z0, c0, c1, c2⟩ := F1.out.bx
    go_wp2_with fail
    go_at_call 11
    refine (long_at o p _ hl).mono ?_
    rintro e w2 ⟨rfl, b2⟩
    have F2 := Lib.hid (F1.out.step b2)
    clear c0 c1 c2 z0
    obtain ⟨z0, c0, c1, c2⟩ := F2.out.bx
    go_wp2_with fail
    go_at_call 10
    refine (awake_any _).mono ?_
    rintro e w3 ⟨rfl, b3⟩
    have F3 := Lib.hid (F2.out.step b3)
    clear c0 c1 c2 z0
    obtain ⟨z0, c0, c1, c2⟩ := F3.out.bx
    go_wp2_with fail
    go_ret
    exact ⟨rfl, F3.out.bel⟩
end Go.Proofs.Ytainibnjpkbfpaa.Cv
