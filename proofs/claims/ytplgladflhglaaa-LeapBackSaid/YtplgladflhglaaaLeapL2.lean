/- Walk of the law that each instant is that of its atomic time. -/
import Derived.Test.YtplgladflhglaaaLeapO
import Derived.Test.YtplgladflhglaaaLeapM2
namespace Go.Proofs.Ytplgladflhglaaa
set_option linter.unusedVariables false
set_option linter.unusedSimpArgs false
open Go.RowKit

set_option maxHeartbeats 4000000 in
theorem LeapBack_walk {sl : Option Addr} {n b o cap : Nat} {A T : Nat → Int} (x y : Int) (w : World) (h : Hid (Lp.Tab w sl n b o A T)) (h1 : -9223372036854775808 ≤ x) (h2 : x ≤ 9223372036854775807) (h3 : -9223372036854775808 ≤ y) (h4 : y ≤ 9223372036854775807) :
    Calls Try.prog 4 #[.agg #[.slice sl n cap], .int .i64 x, .int .i64 y] w fun e w' => e = .returned (.bool true) ∧ Below w.heap.size w w' := by
  have x0 := Lp.Bx.start cap h.out
  have X0 := Lib.hid x0
  clear x0
  by_cases hl : 300 < n
  · have L : Hid (decide (300 < n) = true) := Lib.hid (by simp [hl])
    clear hl
    go_enter Try.func4, Try.ntmps4
    go_wp2_with fail
    refine (Lp.awake_any _).mono ?_; rintro e w1 ⟨rfl, hb1⟩
    have Y1 := Lib.hid (X0.out.step hb1); have q1 := Y1.out.cell; have z1 := Y1.out.lt
    go_wp2_with fail
    refine (Lp.long_at _ (Lib.hid Y1.out.tab) L).mono ?_; rintro e w2 ⟨rfl, hb2⟩
    have Y2 := Lib.hid (Y1.out.step hb2); have q2 := Y2.out.cell; have z2 := Y2.out.lt
    go_wp2_with fail
    refine (Lp.awake_any _).mono ?_; rintro e w3 ⟨rfl, hb3⟩
    have Y3 := Lib.hid (Y2.out.step hb3); have q3 := Y3.out.cell; have z3 := Y3.out.lt
    go_wp2_with fail
    go_ret
    exact ⟨rfl, Y3.out.bel⟩
  · have L : Hid (decide (300 < n) = false) := Lib.hid (by simp; omega)
    clear hl
    rcases hv : M.okb n A T with _ | _
    · have V := Lib.hid hv
      clear hv
      go_enter Try.func4, Try.ntmps4
      go_wp2_with fail
      refine (Lp.awake_any _).mono ?_; rintro e w1 ⟨rfl, hb1⟩
      have Y1 := Lib.hid (X0.out.step hb1); have q1 := Y1.out.cell; have z1 := Y1.out.lt
      go_wp2_with fail
      refine (Lp.long_at _ (Lib.hid Y1.out.tab) L).mono ?_; rintro e w2 ⟨rfl, hb2⟩
      have Y2 := Lib.hid (Y1.out.step hb2); have q2 := Y2.out.cell; have z2 := Y2.out.lt
      go_wp2_with fail
      refine (Lp.Valid_at _ (Lib.hid Y2.out.tab) V).mono ?_; rintro e w3 ⟨rfl, hb3⟩
      have Y3 := Lib.hid (Y2.out.step hb3); have q3 := Y3.out.cell; have z3 := Y3.out.lt
      go_wp2_with fail
      refine (Lp.awake_any _).mono ?_; rintro e w4 ⟨rfl, hb4⟩
      have Y4 := Lib.hid (Y3.out.step hb4); have q4 := Y4.out.cell; have z4 := Y4.out.lt
      go_wp2_with fail
      go_ret
      exact ⟨rfl, Y4.out.bel⟩
    · have V := Lib.hid hv
      have K := Lib.hid (M.ok_of_b hv)
      have hn := K.out.n100
      -- the second half, in both cases of the first
      have HY : (Hid (Lp.M.cvl n A T y = ((0, false), 2))) ∨ ∃ (c a : Int) (i : Bool), Hid (Lp.M.cvl n A T y = ((c, i), 0)) ∧ Hid (Lp.M.atm n A T c = (a, 0)) ∧ -62135596800 ≤ c ∧ c < 253402300800 ∧ y ≤ 253402400800 ∧ -62135596800 ≤ y ∧ ((i = true ∧ a = y + 1) ∨ (i = false ∧ a = y)) := by
        by_cases hr : y < -62135596800 ∨ 253402300800 + (n : Int) ≤ y
        · left; exact Lib.hid ((Lp.M.cvl_0 hv).trans (M.civ_range hr))
        · right
          obtain ⟨c, i, c1, c2, c3, c4⟩ := M.back2 K.out hr
          exact ⟨c, _, i, Lib.hid ((Lp.M.cvl_0 hv).trans c1), Lib.hid (Lp.M.atm_0 hv c2 c3), c2, c3, by omega, by omega, c4⟩
      have HX : (Hid (Lp.M.atm n A T x = (0, 2))) ∨ ∃ a : Int, Hid (Lp.M.atm n A T x = (a, 0)) ∧ Hid (Lp.M.cvl n A T a = ((x, false), 0)) ∧ -9223372036854775808 ≤ a ∧ a ≤ 9223372036854775807 := by
        by_cases hx : x < -62135596800 ∨ 253402300800 ≤ x
        · left; exact Lib.hid (Lp.M.atm_2 hv hx)
        · right
          have tb := M.tot_bd A x n
          exact ⟨_, Lib.hid (Lp.M.atm_0 hv (by omega) (by omega)), Lib.hid ((Lp.M.cvl_0 hv).trans (M.back1 K.out (by omega) (by omega))), by omega, by omega⟩
      clear hv
      rcases HX with HX | ⟨a', HX1, HX2, g1, g2⟩
      · rcases HY with HY | ⟨c, a, i, HY1, HY2, c1, c2, y1, y2, ⟨rfl, rfl⟩ | ⟨rfl, rfl⟩⟩
        · skip
          go_enter Try.func4, Try.ntmps4
          go_wp2_with fail
          refine (Lp.awake_any _).mono ?_; rintro e w1 ⟨rfl, hb1⟩
          have Y1 := Lib.hid (X0.out.step hb1); have q1 := Y1.out.cell; have z1 := Y1.out.lt
          go_wp2_with fail
          refine (Lp.long_at _ (Lib.hid Y1.out.tab) L).mono ?_; rintro e w2 ⟨rfl, hb2⟩
          have Y2 := Lib.hid (Y1.out.step hb2); have q2 := Y2.out.cell; have z2 := Y2.out.lt
          go_wp2_with fail
          refine (Lp.Valid_at _ (Lib.hid Y2.out.tab) V).mono ?_; rintro e w3 ⟨rfl, hb3⟩
          have Y3 := Lib.hid (Y2.out.step hb3); have q3 := Y3.out.cell; have z3 := Y3.out.lt
          go_wp2_with fail
          refine (Lp.Atomic_at _ (Lib.hid Y3.out.tab) h1 h2 HX).mono ?_; rintro e w4 ⟨rfl, hb4⟩
          have Y4 := Lib.hid (Y3.out.step hb4); have q4 := Y4.out.cell; have z4 := Y4.out.lt
          go_wp2_with fail
          refine (Lp.Civil_at _ (Lib.hid Y4.out.tab) h3 h4 HY).mono ?_; rintro e w5 ⟨rfl, hb5⟩
          have Y5 := Lib.hid (Y4.out.step hb5); have q5 := Y5.out.cell; have z5 := Y5.out.lt
          go_wp2_with fail
          go_ret
          exact ⟨rfl, Y5.out.bel⟩
        · skip
          go_enter Try.func4, Try.ntmps4
          go_wp2_with fail
          refine (Lp.awake_any _).mono ?_; rintro e w1 ⟨rfl, hb1⟩
          have Y1 := Lib.hid (X0.out.step hb1); have q1 := Y1.out.cell; have z1 := Y1.out.lt
          go_wp2_with fail
          refine (Lp.long_at _ (Lib.hid Y1.out.tab) L).mono ?_; rintro e w2 ⟨rfl, hb2⟩
          have Y2 := Lib.hid (Y1.out.step hb2); have q2 := Y2.out.cell; have z2 := Y2.out.lt
          go_wp2_with fail
          refine (Lp.Valid_at _ (Lib.hid Y2.out.tab) V).mono ?_; rintro e w3 ⟨rfl, hb3⟩
          have Y3 := Lib.hid (Y2.out.step hb3); have q3 := Y3.out.cell; have z3 := Y3.out.lt
          go_wp2_with fail
          refine (Lp.Atomic_at _ (Lib.hid Y3.out.tab) h1 h2 HX).mono ?_; rintro e w4 ⟨rfl, hb4⟩
          have Y4 := Lib.hid (Y3.out.step hb4); have q4 := Y4.out.cell; have z4 := Y4.out.lt
          go_wp2_with fail
          refine (Lp.Civil_at _ (Lib.hid Y4.out.tab) h3 h4 HY1).mono ?_; rintro e w5 ⟨rfl, hb5⟩
          have Y5 := Lib.hid (Y4.out.step hb5); have q5 := Y5.out.cell; have z5 := Y5.out.lt
          go_wp2_with fail
          refine (Lp.Atomic_at _ (Lib.hid Y5.out.tab) (by omega) (by omega) HY2).mono ?_; rintro e w6 ⟨rfl, hb6⟩
          have Y6 := Lib.hid (Y5.out.step hb6); have q6 := Y6.out.cell; have z6 := Y6.out.lt
          go_wp2_with fail
          go_ret
          exact ⟨rfl, Y6.out.bel⟩
        · skip
          go_enter Try.func4, Try.ntmps4
          go_wp2_with fail
          refine (Lp.awake_any _).mono ?_; rintro e w1 ⟨rfl, hb1⟩
          have Y1 := Lib.hid (X0.out.step hb1); have q1 := Y1.out.cell; have z1 := Y1.out.lt
          go_wp2_with fail
          refine (Lp.long_at _ (Lib.hid Y1.out.tab) L).mono ?_; rintro e w2 ⟨rfl, hb2⟩
          have Y2 := Lib.hid (Y1.out.step hb2); have q2 := Y2.out.cell; have z2 := Y2.out.lt
          go_wp2_with fail
          refine (Lp.Valid_at _ (Lib.hid Y2.out.tab) V).mono ?_; rintro e w3 ⟨rfl, hb3⟩
          have Y3 := Lib.hid (Y2.out.step hb3); have q3 := Y3.out.cell; have z3 := Y3.out.lt
          go_wp2_with fail
          refine (Lp.Atomic_at _ (Lib.hid Y3.out.tab) h1 h2 HX).mono ?_; rintro e w4 ⟨rfl, hb4⟩
          have Y4 := Lib.hid (Y3.out.step hb4); have q4 := Y4.out.cell; have z4 := Y4.out.lt
          go_wp2_with fail
          refine (Lp.Civil_at _ (Lib.hid Y4.out.tab) h3 h4 HY1).mono ?_; rintro e w5 ⟨rfl, hb5⟩
          have Y5 := Lib.hid (Y4.out.step hb5); have q5 := Y5.out.cell; have z5 := Y5.out.lt
          go_wp2_with fail
          refine (Lp.Atomic_at _ (Lib.hid Y5.out.tab) (by omega) (by omega) HY2).mono ?_; rintro e w6 ⟨rfl, hb6⟩
          have Y6 := Lib.hid (Y5.out.step hb6); have q6 := Y6.out.cell; have z6 := Y6.out.lt
          go_wp2_with fail
          go_ret
          exact ⟨rfl, Y6.out.bel⟩
      · rcases HY with HY | ⟨c, a, i, HY1, HY2, c1, c2, y1, y2, ⟨rfl, rfl⟩ | ⟨rfl, rfl⟩⟩
        · skip
          go_enter Try.func4, Try.ntmps4
          go_wp2_with fail
          refine (Lp.awake_any _).mono ?_; rintro e w1 ⟨rfl, hb1⟩
          have Y1 := Lib.hid (X0.out.step hb1); have q1 := Y1.out.cell; have z1 := Y1.out.lt
          go_wp2_with fail
          refine (Lp.long_at _ (Lib.hid Y1.out.tab) L).mono ?_; rintro e w2 ⟨rfl, hb2⟩
          have Y2 := Lib.hid (Y1.out.step hb2); have q2 := Y2.out.cell; have z2 := Y2.out.lt
          go_wp2_with fail
          refine (Lp.Valid_at _ (Lib.hid Y2.out.tab) V).mono ?_; rintro e w3 ⟨rfl, hb3⟩
          have Y3 := Lib.hid (Y2.out.step hb3); have q3 := Y3.out.cell; have z3 := Y3.out.lt
          go_wp2_with fail
          refine (Lp.Atomic_at _ (Lib.hid Y3.out.tab) h1 h2 HX1).mono ?_; rintro e w4 ⟨rfl, hb4⟩
          have Y4 := Lib.hid (Y3.out.step hb4); have q4 := Y4.out.cell; have z4 := Y4.out.lt
          go_wp2_with fail
          refine (Lp.Civil_at _ (Lib.hid Y4.out.tab) g1 g2 HX2).mono ?_; rintro e w5 ⟨rfl, hb5⟩
          have Y5 := Lib.hid (Y4.out.step hb5); have q5 := Y5.out.cell; have z5 := Y5.out.lt
          go_wp2_with fail
          refine (Lp.Civil_at _ (Lib.hid Y5.out.tab) h3 h4 HY).mono ?_; rintro e w6 ⟨rfl, hb6⟩
          have Y6 := Lib.hid (Y5.out.step hb6); have q6 := Y6.out.cell; have z6 := Y6.out.lt
          go_wp2_with fail
          go_ret
          exact ⟨rfl, Y6.out.bel⟩
        · skip
          go_enter Try.func4, Try.ntmps4
          go_wp2_with fail
          refine (Lp.awake_any _).mono ?_; rintro e w1 ⟨rfl, hb1⟩
          have Y1 := Lib.hid (X0.out.step hb1); have q1 := Y1.out.cell; have z1 := Y1.out.lt
          go_wp2_with fail
          refine (Lp.long_at _ (Lib.hid Y1.out.tab) L).mono ?_; rintro e w2 ⟨rfl, hb2⟩
          have Y2 := Lib.hid (Y1.out.step hb2); have q2 := Y2.out.cell; have z2 := Y2.out.lt
          go_wp2_with fail
          refine (Lp.Valid_at _ (Lib.hid Y2.out.tab) V).mono ?_; rintro e w3 ⟨rfl, hb3⟩
          have Y3 := Lib.hid (Y2.out.step hb3); have q3 := Y3.out.cell; have z3 := Y3.out.lt
          go_wp2_with fail
          refine (Lp.Atomic_at _ (Lib.hid Y3.out.tab) h1 h2 HX1).mono ?_; rintro e w4 ⟨rfl, hb4⟩
          have Y4 := Lib.hid (Y3.out.step hb4); have q4 := Y4.out.cell; have z4 := Y4.out.lt
          go_wp2_with fail
          refine (Lp.Civil_at _ (Lib.hid Y4.out.tab) g1 g2 HX2).mono ?_; rintro e w5 ⟨rfl, hb5⟩
          have Y5 := Lib.hid (Y4.out.step hb5); have q5 := Y5.out.cell; have z5 := Y5.out.lt
          go_wp2_with fail
          refine (Lp.Civil_at _ (Lib.hid Y5.out.tab) h3 h4 HY1).mono ?_; rintro e w6 ⟨rfl, hb6⟩
          have Y6 := Lib.hid (Y5.out.step hb6); have q6 := Y6.out.cell; have z6 := Y6.out.lt
          go_wp2_with fail
          refine (Lp.Atomic_at _ (Lib.hid Y6.out.tab) (by omega) (by omega) HY2).mono ?_; rintro e w7 ⟨rfl, hb7⟩
          have Y7 := Lib.hid (Y6.out.step hb7); have q7 := Y7.out.cell; have z7 := Y7.out.lt
          go_wp2_with fail
          go_ret
          exact ⟨rfl, Y7.out.bel⟩
        · skip
          go_enter Try.func4, Try.ntmps4
          go_wp2_with fail
          refine (Lp.awake_any _).mono ?_; rintro e w1 ⟨rfl, hb1⟩
          have Y1 := Lib.hid (X0.out.step hb1); have q1 := Y1.out.cell; have z1 := Y1.out.lt
          go_wp2_with fail
          refine (Lp.long_at _ (Lib.hid Y1.out.tab) L).mono ?_; rintro e w2 ⟨rfl, hb2⟩
          have Y2 := Lib.hid (Y1.out.step hb2); have q2 := Y2.out.cell; have z2 := Y2.out.lt
          go_wp2_with fail
          refine (Lp.Valid_at _ (Lib.hid Y2.out.tab) V).mono ?_; rintro e w3 ⟨rfl, hb3⟩
          have Y3 := Lib.hid (Y2.out.step hb3); have q3 := Y3.out.cell; have z3 := Y3.out.lt
          go_wp2_with fail
          refine (Lp.Atomic_at _ (Lib.hid Y3.out.tab) h1 h2 HX1).mono ?_; rintro e w4 ⟨rfl, hb4⟩
          have Y4 := Lib.hid (Y3.out.step hb4); have q4 := Y4.out.cell; have z4 := Y4.out.lt
          go_wp2_with fail
          refine (Lp.Civil_at _ (Lib.hid Y4.out.tab) g1 g2 HX2).mono ?_; rintro e w5 ⟨rfl, hb5⟩
          have Y5 := Lib.hid (Y4.out.step hb5); have q5 := Y5.out.cell; have z5 := Y5.out.lt
          go_wp2_with fail
          refine (Lp.Civil_at _ (Lib.hid Y5.out.tab) h3 h4 HY1).mono ?_; rintro e w6 ⟨rfl, hb6⟩
          have Y6 := Lib.hid (Y5.out.step hb6); have q6 := Y6.out.cell; have z6 := Y6.out.lt
          go_wp2_with fail
          refine (Lp.Atomic_at _ (Lib.hid Y6.out.tab) (by omega) (by omega) HY2).mono ?_; rintro e w7 ⟨rfl, hb7⟩
          have Y7 := Lib.hid (Y6.out.step hb7); have q7 := Y7.out.cell; have z7 := Y7.out.lt
          go_wp2_with fail
          go_ret
          exact ⟨rfl, Y7.out.bel⟩

end Go.Proofs.Ytplgladflhglaaa
