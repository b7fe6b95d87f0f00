/- Walk of the law LeapDistances. -/
import Derived.Test.YtplgladflhglaaaLeapC3
namespace Go.Proofs.Ytplgladflhglaaa
set_option linter.unusedVariables false
set_option linter.unusedSimpArgs false
open Go.RowKit

set_option maxHeartbeats 4000000 in
theorem LeapDistances_walk {sl : Option Addr} {n bb o cap : Nat} {A T : Nat → Int} (a b c : Int) (w : World) (h : Hid (Lp.Tab w sl n bb o A T)) (a1 : -9223372036854775808 ≤ a) (a2 : a ≤ 9223372036854775807) (b1 : -9223372036854775808 ≤ b) (b2 : b ≤ 9223372036854775807) (c1 : -9223372036854775808 ≤ c) (c2 : c ≤ 9223372036854775807) :
    Calls Try.prog 6 #[.agg #[.slice sl n cap], .int .i64 a, .int .i64 b, .int .i64 c] w fun e w' => e = .returned (.bool true) ∧ Below w.heap.size w w' := by
  have x0 := Lp.Bx.start cap h.out
  have X0 := Lib.hid x0
  clear x0
  by_cases hl : 300 < n
  · have L : Hid (decide (300 < n) = true) := Lib.hid (by simp [hl])
    clear hl
    go_enter Try.func6, Try.ntmps6
    go_wp2_with fail
    refine (Lp.awake_any _).mono ?_; rintro e w1 ⟨rfl, hb1⟩
    have Y1 := Lib.hid (X0.out.step hb1); have q1 := Y1.out.cell; have z1 := Y1.out.lt
    go_wp2_with fail
    refine (Lp.long_at _ (Lib.hid Y1.out.tab) L).mono ?_; rintro e w2 ⟨rfl, hb2⟩
    have Y2 := Lib.hid (Y1.out.step hb2); have q2 := Y2.out.cell; have z2 := Y2.out.lt
    go_wp2_with fail
    refine (Lp.awake_any _).mono ?_; rintro e w3 ⟨rfl, hb3⟩
    have Y3 := Lib.hid (Y2.out.step hb3); have q3 := Y3.out.cell; have z3 := Y3.out.lt
    go_wp2_with fail
    go_ret
    exact ⟨rfl, Y3.out.bel⟩
  · have L : Hid (decide (300 < n) = false) := Lib.hid (by simp; omega)
    have n300 : n ≤ 300 := by omega
    clear hl
    rcases hv : M.okb n A T with _ | _
    · have V := Lib.hid hv
      clear hv
      go_enter Try.func6, Try.ntmps6
      go_wp2_with fail
      refine (Lp.awake_any _).mono ?_; rintro e w1 ⟨rfl, hb1⟩
      have Y1 := Lib.hid (X0.out.step hb1); have q1 := Y1.out.cell; have z1 := Y1.out.lt
      go_wp2_with fail
      refine (Lp.long_at _ (Lib.hid Y1.out.tab) L).mono ?_; rintro e w2 ⟨rfl, hb2⟩
      have Y2 := Lib.hid (Y1.out.step hb2); have q2 := Y2.out.cell; have z2 := Y2.out.lt
      go_wp2_with fail
      refine (Lp.Valid_at _ (Lib.hid Y2.out.tab) V).mono ?_; rintro e w3 ⟨rfl, hb3⟩
      have Y3 := Lib.hid (Y2.out.step hb3); have q3 := Y3.out.cell; have z3 := Y3.out.lt
      go_wp2_with fail
      refine (Lp.awake_any _).mono ?_; rintro e w4 ⟨rfl, hb4⟩
      have Y4 := Lib.hid (Y3.out.step hb4); have q4 := Y4.out.cell; have z4 := Y4.out.lt
      go_wp2_with fail
      go_ret
      exact ⟨rfl, Y4.out.bel⟩
    · have V := Lib.hid hv
      have hn := (M.ok_of_b hv).n100
      by_cases ha : a < -62135596800 ∨ 253402300800 ≤ a
      · have IA := Lib.hid (Lp.inst_f ha)
        have D1 := Lib.hid (Lp.M.dst_1 (b := b) (Lp.M.atm_2 hv ha) (by omega))
        have D3 := Lib.hid (Lp.M.dst_1 (b := c) (Lp.M.atm_2 hv ha) (by omega))
        obtain ⟨⟨y, f⟩, hy⟩ : ∃ z, Lp.M.dst n A T b c = z := ⟨_, rfl⟩
        have D2 := Lib.hid hy
        clear ha hv hy
        go_enter Try.func6, Try.ntmps6
        go_wp2_with fail
        refine (Lp.awake_any _).mono ?_; rintro e w1 ⟨rfl, hb1⟩
        have Y1 := Lib.hid (X0.out.step hb1); have q1 := Y1.out.cell; have z1 := Y1.out.lt
        go_wp2_with fail
        refine (Lp.long_at _ (Lib.hid Y1.out.tab) L).mono ?_; rintro e w2 ⟨rfl, hb2⟩
        have Y2 := Lib.hid (Y1.out.step hb2); have q2 := Y2.out.cell; have z2 := Y2.out.lt
        go_wp2_with fail
        refine (Lp.Valid_at _ (Lib.hid Y2.out.tab) V).mono ?_; rintro e w3 ⟨rfl, hb3⟩
        have Y3 := Lib.hid (Y2.out.step hb3); have q3 := Y3.out.cell; have z3 := Y3.out.lt
        go_wp2_with fail
        refine (Lp.Distance_at _ (Lib.hid Y3.out.tab) a1 a2 b1 b2 D1).mono ?_; rintro e w4 ⟨rfl, hb4⟩
        have Y4 := Lib.hid (Y3.out.step hb4); have q4 := Y4.out.cell; have z4 := Y4.out.lt
        go_wp2_with fail
        refine (Lp.Distance_at _ (Lib.hid Y4.out.tab) b1 b2 c1 c2 D2).mono ?_; rintro e w5 ⟨rfl, hb5⟩
        have Y5 := Lib.hid (Y4.out.step hb5); have q5 := Y5.out.cell; have z5 := Y5.out.lt
        go_wp2_with fail
        refine (Lp.Distance_at _ (Lib.hid Y5.out.tab) a1 a2 c1 c2 D3).mono ?_; rintro e w6 ⟨rfl, hb6⟩
        have Y6 := Lib.hid (Y5.out.step hb6); have q6 := Y6.out.cell; have z6 := Y6.out.lt
        go_wp2_with fail
        refine (Lp.rInstant_at _ IA).mono ?_; rintro e w7 ⟨rfl, rfl⟩
        go_wp2_with fail
        go_ret
        exact ⟨rfl, Y6.out.bel⟩
      · have ia1 : -62135596800 ≤ a := by omega
        have ia2 : a < 253402300800 := by omega
        have IA := Lib.hid (Lp.inst_t ia1 ia2)
        obtain ⟨u1, u2⟩ := M.tot_bd A a n
        by_cases hb : b < -62135596800 ∨ 253402300800 ≤ b
        · have IB := Lib.hid (Lp.inst_f hb)
          have D1 := Lib.hid (Lp.M.dst_2 (Lp.M.atm_0 hv ia1 ia2) (Lp.M.atm_2 hv hb) (by omega))
          have D2 := Lib.hid (Lp.M.dst_1 (b := c) (Lp.M.atm_2 hv hb) (by omega))
          obtain ⟨⟨y, f⟩, hy⟩ : ∃ z, Lp.M.dst n A T a c = z := ⟨_, rfl⟩
          have D3 := Lib.hid hy
          clear ha hb hv hy
          go_enter Try.func6, Try.ntmps6
          go_wp2_with fail
          refine (Lp.awake_any _).mono ?_; rintro e w1 ⟨rfl, hb1⟩
          have Y1 := Lib.hid (X0.out.step hb1); have q1 := Y1.out.cell; have z1 := Y1.out.lt
          go_wp2_with fail
          refine (Lp.long_at _ (Lib.hid Y1.out.tab) L).mono ?_; rintro e w2 ⟨rfl, hb2⟩
          have Y2 := Lib.hid (Y1.out.step hb2); have q2 := Y2.out.cell; have z2 := Y2.out.lt
          go_wp2_with fail
          refine (Lp.Valid_at _ (Lib.hid Y2.out.tab) V).mono ?_; rintro e w3 ⟨rfl, hb3⟩
          have Y3 := Lib.hid (Y2.out.step hb3); have q3 := Y3.out.cell; have z3 := Y3.out.lt
          go_wp2_with fail
          refine (Lp.Distance_at _ (Lib.hid Y3.out.tab) a1 a2 b1 b2 D1).mono ?_; rintro e w4 ⟨rfl, hb4⟩
          have Y4 := Lib.hid (Y3.out.step hb4); have q4 := Y4.out.cell; have z4 := Y4.out.lt
          go_wp2_with fail
          refine (Lp.Distance_at _ (Lib.hid Y4.out.tab) b1 b2 c1 c2 D2).mono ?_; rintro e w5 ⟨rfl, hb5⟩
          have Y5 := Lib.hid (Y4.out.step hb5); have q5 := Y5.out.cell; have z5 := Y5.out.lt
          go_wp2_with fail
          refine (Lp.Distance_at _ (Lib.hid Y5.out.tab) a1 a2 c1 c2 D3).mono ?_; rintro e w6 ⟨rfl, hb6⟩
          have Y6 := Lib.hid (Y5.out.step hb6); have q6 := Y6.out.cell; have z6 := Y6.out.lt
          go_wp2_with fail
          refine (Lp.rInstant_at _ IA).mono ?_; rintro e w7 ⟨rfl, rfl⟩
          go_wp2_with fail
          refine (Lp.rInstant_at _ IB).mono ?_; rintro e w8 ⟨rfl, rfl⟩
          go_wp2_with fail
          go_ret
          exact ⟨rfl, Y6.out.bel⟩
        · have ib1 : -62135596800 ≤ b := by omega
          have ib2 : b < 253402300800 := by omega
          have IB := Lib.hid (Lp.inst_t ib1 ib2)
          obtain ⟨v1, v2⟩ := M.tot_bd A b n
          have mono : a ≤ b → M.tot A a n ≤ M.tot A b n := fun h => M.tot_mono h n
          have RA := Lp.M.atm_0 hv ia1 ia2
          have RB := Lp.M.atm_0 hv ib1 ib2
          obtain ⟨ta, hta⟩ : ∃ ta, a + M.tot A a n = ta := ⟨_, rfl⟩
          obtain ⟨tb, htb⟩ : ∃ tb, b + M.tot A b n = tb := ⟨_, rfl⟩
          rw [hta] at RA
          rw [htb] at RB
          have F : (decide (a ≤ b) = false) ∨ (decide (a ≤ b) = true ∧ decide (tb - ta < b - a) = false ∧ decide (b - a + (n : Int) < tb - ta) = false) := by
            by_cases hab : a ≤ b
            · right
              have := mono hab
              exact ⟨by simp [hab], by simp; omega, by simp; omega⟩
            · left; simp; omega
          have A1 := Lib.hid RA
          have A2 := Lib.hid RB
          have D1 := Lib.hid (Lp.M.dst_0 RA RB)
          have ta1 : -62135596800 ≤ ta := by omega
          have ta2 : ta ≤ 253402300900 := by omega
          have tb1 : -62135596800 ≤ tb := by omega
          have tb2 : tb ≤ 253402300900 := by omega
          by_cases hc : c < -62135596800 ∨ 253402300800 ≤ c
          · have IC := Lib.hid (Lp.inst_f hc)
            have D2 := Lib.hid (Lp.M.dst_2 RB (Lp.M.atm_2 hv hc) (by omega))
            have D3 := Lib.hid (Lp.M.dst_2 RA (Lp.M.atm_2 hv hc) (by omega))
            clear ha hb hc hv mono hta htb RA RB u1 u2 v1 v2
            rcases F with F | ⟨F, F2, F3⟩
            all_goals
              go_enter Try.func6, Try.ntmps6
              go_wp2_with fail
              refine (Lp.awake_any _).mono ?_; rintro e w1 ⟨rfl, hb1⟩
              have Y1 := Lib.hid (X0.out.step hb1); have q1 := Y1.out.cell; have z1 := Y1.out.lt
              go_wp2_with fail
              refine (Lp.long_at _ (Lib.hid Y1.out.tab) L).mono ?_; rintro e w2 ⟨rfl, hb2⟩
              have Y2 := Lib.hid (Y1.out.step hb2); have q2 := Y2.out.cell; have z2 := Y2.out.lt
              go_wp2_with fail
              refine (Lp.Valid_at _ (Lib.hid Y2.out.tab) V).mono ?_; rintro e w3 ⟨rfl, hb3⟩
              have Y3 := Lib.hid (Y2.out.step hb3); have q3 := Y3.out.cell; have z3 := Y3.out.lt
              go_wp2_with fail
              refine (Lp.Distance_at _ (Lib.hid Y3.out.tab) a1 a2 b1 b2 D1).mono ?_; rintro e w4 ⟨rfl, hb4⟩
              have Y4 := Lib.hid (Y3.out.step hb4); have q4 := Y4.out.cell; have z4 := Y4.out.lt
              go_wp2_with fail
              refine (Lp.Distance_at _ (Lib.hid Y4.out.tab) b1 b2 c1 c2 D2).mono ?_; rintro e w5 ⟨rfl, hb5⟩
              have Y5 := Lib.hid (Y4.out.step hb5); have q5 := Y5.out.cell; have z5 := Y5.out.lt
              go_wp2_with fail
              refine (Lp.Distance_at _ (Lib.hid Y5.out.tab) a1 a2 c1 c2 D3).mono ?_; rintro e w6 ⟨rfl, hb6⟩
              have Y6 := Lib.hid (Y5.out.step hb6); have q6 := Y6.out.cell; have z6 := Y6.out.lt
              go_wp2_with fail
              refine (Lp.rInstant_at _ IA).mono ?_; rintro e w7 ⟨rfl, rfl⟩
              go_wp2_with fail
              refine (Lp.rInstant_at _ IB).mono ?_; rintro e w8 ⟨rfl, rfl⟩
              go_wp2_with fail
              refine (Lp.rInstant_at _ IC).mono ?_; rintro e w9 ⟨rfl, rfl⟩
              go_wp2_with fail
              go_ret
              exact ⟨rfl, Y6.out.bel⟩
          · have ic1 : -62135596800 ≤ c := by omega
            have ic2 : c < 253402300800 := by omega
            have IC := Lib.hid (Lp.inst_t ic1 ic2)
            obtain ⟨w1, w2⟩ := M.tot_bd A c n
            have RC := Lp.M.atm_0 hv ic1 ic2
            obtain ⟨tc, htc⟩ : ∃ tc, c + M.tot A c n = tc := ⟨_, rfl⟩
            rw [htc] at RC
            have D2 := Lib.hid (Lp.M.dst_0 RB RC)
            have D3 := Lib.hid (Lp.M.dst_0 RA RC)
            have tc1 : -62135596800 ≤ tc := by omega
            have tc2 : tc ≤ 253402300900 := by omega
            have E1 : (tb - ta + (tc - tb) == tc - ta) = true := by simp; omega
            clear ha hb hc hv mono hta htb htc RA RB RC u1 u2 v1 v2 w1 w2
            rcases F with F | ⟨F, F2, F3⟩
            all_goals
              go_enter Try.func6, Try.ntmps6
              go_wp2_with fail
              refine (Lp.awake_any _).mono ?_; rintro e w1 ⟨rfl, hb1⟩
              have Y1 := Lib.hid (X0.out.step hb1); have q1 := Y1.out.cell; have z1 := Y1.out.lt
              go_wp2_with fail
              refine (Lp.long_at _ (Lib.hid Y1.out.tab) L).mono ?_; rintro e w2 ⟨rfl, hb2⟩
              have Y2 := Lib.hid (Y1.out.step hb2); have q2 := Y2.out.cell; have z2 := Y2.out.lt
              go_wp2_with fail
              refine (Lp.Valid_at _ (Lib.hid Y2.out.tab) V).mono ?_; rintro e w3 ⟨rfl, hb3⟩
              have Y3 := Lib.hid (Y2.out.step hb3); have q3 := Y3.out.cell; have z3 := Y3.out.lt
              go_wp2_with fail
              refine (Lp.Distance_at _ (Lib.hid Y3.out.tab) a1 a2 b1 b2 D1).mono ?_; rintro e w4 ⟨rfl, hb4⟩
              have Y4 := Lib.hid (Y3.out.step hb4); have q4 := Y4.out.cell; have z4 := Y4.out.lt
              go_wp2_with fail
              refine (Lp.Distance_at _ (Lib.hid Y4.out.tab) b1 b2 c1 c2 D2).mono ?_; rintro e w5 ⟨rfl, hb5⟩
              have Y5 := Lib.hid (Y4.out.step hb5); have q5 := Y5.out.cell; have z5 := Y5.out.lt
              go_wp2_with fail
              refine (Lp.Distance_at _ (Lib.hid Y5.out.tab) a1 a2 c1 c2 D3).mono ?_; rintro e w6 ⟨rfl, hb6⟩
              have Y6 := Lib.hid (Y5.out.step hb6); have q6 := Y6.out.cell; have z6 := Y6.out.lt
              go_wp2_with fail
              refine (Lp.rInstant_at _ IA).mono ?_; rintro e w7 ⟨rfl, rfl⟩
              go_wp2_with fail
              refine (Lp.rInstant_at _ IB).mono ?_; rintro e w8 ⟨rfl, rfl⟩
              go_wp2_with fail
              refine (Lp.rInstant_at _ IC).mono ?_; rintro e w9 ⟨rfl, rfl⟩
              go_wp2_with fail
              refine (Lp.Atomic_at _ (Lib.hid Y6.out.tab) a1 a2 A1).mono ?_; rintro e w10 ⟨rfl, hb10⟩
              have Y10 := Lib.hid (Y6.out.step hb10); have q10 := Y10.out.cell; have z10 := Y10.out.lt
              go_wp2_with fail
              refine (Lp.Atomic_at _ (Lib.hid Y10.out.tab) b1 b2 A2).mono ?_; rintro e w11 ⟨rfl, hb11⟩
              have Y11 := Lib.hid (Y10.out.step hb11); have q11 := Y11.out.cell; have z11 := Y11.out.lt
              go_wp2_with fail
              go_ret
              exact ⟨rfl, Y11.out.bel⟩

end Go.Proofs.Ytplgladflhglaaa
