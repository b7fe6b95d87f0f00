/- Walk of the law of conversions between instants and atomic times. -/
import Derived.Test.YtplgladflhglaaaLeapO
namespace Go.Proofs.Ytplgladflhglaaa
set_option linter.unusedVariables false
set_option linter.unusedSimpArgs false
open Go.RowKit

set_option maxHeartbeats 2000000 in
theorem LeapConverts_walk {sl : Option Addr} {n b o cap : Nat} {A T : Nat → Int} (x y : Int) (w : World) (h : Hid (Lp.Tab w sl n b o A T)) (h1 : -9223372036854775808 ≤ x) (h2 : x ≤ 9223372036854775807) (h3 : -9223372036854775808 ≤ y) (h4 : y ≤ 9223372036854775807) :
    Calls Try.prog 3 #[.agg #[.slice sl n cap], .int .i64 x, .int .i64 y] w fun e w' => e = .returned (.bool true) ∧ Below w.heap.size w w' := by
  have x0 := Lp.Bx.start cap h.out
  have X0 := Lib.hid x0
  clear x0
  by_cases hl : 300 < n
  · have L : Hid (decide (300 < n) = true) := Lib.hid (by simp [hl])
    clear hl
    go_enter Try.func3, Try.ntmps3
    go_wp2_with fail
    refine (Lp.awake_any _).mono ?_; rintro e w1 ⟨rfl, hb1⟩
    have X1 := Lib.hid (X0.out.step hb1); have q1 := X1.out.cell
    go_wp2_with fail
    refine (Lp.long_at _ (Lib.hid X1.out.tab) L).mono ?_; rintro e w2 ⟨rfl, hb2⟩
    have X2 := Lib.hid (X1.out.step hb2)
    go_wp2_with fail
    refine (Lp.awake_any _).mono ?_; rintro e w3 ⟨rfl, hb3⟩
    go_wp2_with fail
    go_ret
    exact ⟨rfl, (X2.out.step hb3).bel⟩
  · have L : Hid (decide (300 < n) = false) := Lib.hid (by simp; omega)
    clear hl
    rcases hv : M.okb n A T with _ | _
    · have V := Lib.hid hv
      have R1 := Lib.hid (Lp.M.atm_1 (x := x) hv)
      have R2 := Lib.hid (Lp.M.cvl_1 (x := y) hv)
      clear hv
      go_enter Try.func3, Try.ntmps3
      go_wp2_with fail
      refine (Lp.awake_any _).mono ?_; rintro e w1 ⟨rfl, hb1⟩
      have X1 := Lib.hid (X0.out.step hb1); have q1 := X1.out.cell
      go_wp2_with fail
      refine (Lp.long_at _ (Lib.hid X1.out.tab) L).mono ?_; rintro e w2 ⟨rfl, hb2⟩
      have X2 := Lib.hid (X1.out.step hb2); have q2 := X2.out.cell
      go_wp2_with fail
      refine (Lp.Atomic_at _ (Lib.hid X2.out.tab) h1 h2 R1).mono ?_; rintro e w3 ⟨rfl, hb3⟩
      have X3 := Lib.hid (X2.out.step hb3); have q3 := X3.out.cell
      go_wp2_with fail
      refine (Lp.Civil_at _ (Lib.hid X3.out.tab) h3 h4 R2).mono ?_; rintro e w4 ⟨rfl, hb4⟩
      have X4 := Lib.hid (X3.out.step hb4); have q4 := X4.out.cell
      go_wp2_with fail
      refine (Lp.rValid_at _ (Lib.hid X4.out.tab) V).mono ?_; rintro e w5 ⟨rfl, hb5⟩
      have X5 := Lib.hid (X4.out.step hb5)
      go_wp2_with fail
      go_ret
      exact ⟨rfl, X5.out.bel⟩
    · have V := Lib.hid hv
      have K := Lib.hid (M.ok_of_b hv)
      obtain ⟨⟨⟨c, i⟩, f⟩, hc⟩ : ∃ z, M.civ n A y = z := ⟨_, rfl⟩
      have R2 := Lib.hid ((Lp.M.cvl_0 hv).trans hc)
      have R3 := Lib.hid hc
      clear hc
      by_cases hx : x < -62135596800 ∨ 253402300800 ≤ x
      · have I := Lib.hid (Lp.inst_f hx)
        have R1 := Lib.hid (Lp.M.atm_2 hv hx)
        clear hx hv
        cases i
        all_goals
          go_enter Try.func3, Try.ntmps3
          go_wp2_with fail
          refine (Lp.awake_any _).mono ?_; rintro e w1 ⟨rfl, hb1⟩
          have X1 := Lib.hid (X0.out.step hb1); have q1 := X1.out.cell
          go_wp2_with fail
          refine (Lp.long_at _ (Lib.hid X1.out.tab) L).mono ?_; rintro e w2 ⟨rfl, hb2⟩
          have X2 := Lib.hid (X1.out.step hb2); have q2 := X2.out.cell
          go_wp2_with fail
          refine (Lp.Atomic_at _ (Lib.hid X2.out.tab) h1 h2 R1).mono ?_; rintro e w3 ⟨rfl, hb3⟩
          have X3 := Lib.hid (X2.out.step hb3); have q3 := X3.out.cell
          go_wp2_with fail
          refine (Lp.Civil_at _ (Lib.hid X3.out.tab) h3 h4 R2).mono ?_; rintro e w4 ⟨rfl, hb4⟩
          have X4 := Lib.hid (X3.out.step hb4); have q4 := X4.out.cell
          go_wp2_with fail
          refine (Lp.rValid_at _ (Lib.hid X4.out.tab) V).mono ?_; rintro e w5 ⟨rfl, hb5⟩
          have X5 := Lib.hid (X4.out.step hb5); have q5 := X5.out.cell
          go_wp2_with fail
          refine (Lp.rCivil_at _ (Lib.hid X5.out.tab) K h3 h4 R3).mono ?_; rintro e w6 ⟨rfl, hb6⟩
          have X6 := Lib.hid (X5.out.step hb6); have q6 := X6.out.cell
          go_wp2_with fail
          refine (Lp.rInstant_at _ I).mono ?_; rintro e w7 ⟨rfl, rfl⟩
          go_wp2_with fail
          go_ret
          exact ⟨rfl, X6.out.bel⟩
      · have hx1 : -62135596800 ≤ x := by omega
        have hx2 : x < 253402300800 := by omega
        have I := Lib.hid (Lp.inst_t hx1 hx2)
        have R1 := Lib.hid (Lp.M.atm_0 hv hx1 hx2)
        have hn := K.out.n100
        have RA : Hid (∀ (w : World), Lp.Tab w sl n b o A T → Calls Try.prog 18 #[.agg #[.slice sl n cap], .int .i64 x] w fun e w' => e = .returned (.int .i64 (x + M.tot A x n)) ∧ Below w.heap.size w w') := Lib.hid fun w ht => Lp.rAtomic_any x w (Lib.hid ht) hx1 hx2 (by omega)
        obtain ⟨a, ha⟩ : ∃ a, x + M.tot A x n = a := ⟨_, rfl⟩
        rw [ha] at R1 RA
        clear hx hv ha
        cases i
        all_goals
          go_enter Try.func3, Try.ntmps3
          go_wp2_with fail
          refine (Lp.awake_any _).mono ?_; rintro e w1 ⟨rfl, hb1⟩
          have X1 := Lib.hid (X0.out.step hb1); have q1 := X1.out.cell
          go_wp2_with fail
          refine (Lp.long_at _ (Lib.hid X1.out.tab) L).mono ?_; rintro e w2 ⟨rfl, hb2⟩
          have X2 := Lib.hid (X1.out.step hb2); have q2 := X2.out.cell
          go_wp2_with fail
          refine (Lp.Atomic_at _ (Lib.hid X2.out.tab) h1 h2 R1).mono ?_; rintro e w3 ⟨rfl, hb3⟩
          have X3 := Lib.hid (X2.out.step hb3); have q3 := X3.out.cell
          go_wp2_with fail
          refine (Lp.Civil_at _ (Lib.hid X3.out.tab) h3 h4 R2).mono ?_; rintro e w4 ⟨rfl, hb4⟩
          have X4 := Lib.hid (X3.out.step hb4); have q4 := X4.out.cell
          go_wp2_with fail
          refine (Lp.rValid_at _ (Lib.hid X4.out.tab) V).mono ?_; rintro e w5 ⟨rfl, hb5⟩
          have X5 := Lib.hid (X4.out.step hb5); have q5 := X5.out.cell
          go_wp2_with fail
          refine (Lp.rCivil_at _ (Lib.hid X5.out.tab) K h3 h4 R3).mono ?_; rintro e w6 ⟨rfl, hb6⟩
          have X6 := Lib.hid (X5.out.step hb6); have q6 := X6.out.cell
          go_wp2_with fail
          refine (Lp.rInstant_at _ I).mono ?_; rintro e w7 ⟨rfl, rfl⟩
          go_wp2_with fail
          refine (RA.out _ X6.out.tab).mono ?_; rintro e w8 ⟨rfl, hb8⟩
          go_wp2_with fail
          go_ret
          exact ⟨rfl, (X6.out.step hb8).bel⟩

end Go.Proofs.Ytplgladflhglaaa
