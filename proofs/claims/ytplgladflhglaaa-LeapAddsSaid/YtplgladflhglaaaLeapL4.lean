/- Walk of the law LeapAdds. -/
import Derived.Test.YtplgladflhglaaaLeapC3
namespace Go.Proofs.Ytplgladflhglaaa
set_option linter.unusedVariables false
set_option linter.unusedSimpArgs false
open Go.RowKit

set_option maxHeartbeats 4000000 in
theorem LeapAdds_walk {sl : Option Addr} {n bb o cap : Nat} {A T : Nat → Int} (x d : Int) (w : World) (h : Hid (Lp.Tab w sl n bb o A T)) (x1 : -9223372036854775808 ≤ x) (x2 : x ≤ 9223372036854775807) (d1 : -9223372036854775808 ≤ d) (d2 : d ≤ 9223372036854775807) :
    Calls Try.prog 9 #[.agg #[.slice sl n cap], .int .i64 x, .int .i64 d] w fun e w' => e = .returned (.bool true) ∧ Below w.heap.size w w' := by
  have x0 := Lp.Bx.start cap h.out
  have X0 := Lib.hid x0
  clear x0
  by_cases hl : 300 < n
  · have L : Hid (decide (300 < n) = true) := Lib.hid (by simp [hl])
    clear hl
    go_enter Try.func9, Try.ntmps9
    go_wp2_with fail
    refine (Lp.awake_any _).mono ?_; rintro e w1 ⟨rfl, hb1⟩
    have Y1 := Lib.hid (X0.out.step hb1); have q1 := Y1.out.cell; have z1 := Y1.out.lt
    go_wp2_with fail
    refine (Lp.long_at _ (Lib.hid Y1.out.tab) L).mono ?_; rintro e w2 ⟨rfl, hb2⟩
    have Y2 := Lib.hid (Y1.out.step hb2); have q2 := Y2.out.cell; have z2 := Y2.out.lt
    go_wp2_with fail
    refine (Lp.awake_any _).mono ?_; rintro e w3 ⟨rfl, hb3⟩
    have Y3 := Lib.hid (Y2.out.step hb3); have q3 := Y3.out.cell; have z3 := Y3.out.lt
    go_wp2_with fail
    go_ret
    exact ⟨rfl, Y3.out.bel⟩
  · have L : Hid (decide (300 < n) = false) := Lib.hid (by simp; omega)
    have n300 : n ≤ 300 := by omega
    clear hl
    rcases hv : M.okb n A T with _ | _
    · have V := Lib.hid hv
      have RA := Lib.hid (Lp.M.adl_1 (d := d) (Lp.M.atm_1 (x := x) hv) (by omega))
      clear hv
      go_enter Try.func9, Try.ntmps9
      go_wp2_with fail
      refine (Lp.awake_any _).mono ?_; rintro e w1 ⟨rfl, hb1⟩
      have Y1 := Lib.hid (X0.out.step hb1); have q1 := Y1.out.cell; have z1 := Y1.out.lt
      go_wp2_with fail
      refine (Lp.long_at _ (Lib.hid Y1.out.tab) L).mono ?_; rintro e w2 ⟨rfl, hb2⟩
      have Y2 := Lib.hid (Y1.out.step hb2); have q2 := Y2.out.cell; have z2 := Y2.out.lt
      go_wp2_with fail
      refine (Lp.Add_at _ (Lib.hid Y2.out.tab) x1 x2 d1 d2 RA).mono ?_; rintro e w3 ⟨rfl, hb3⟩
      have Y3 := Lib.hid (Y2.out.step hb3); have q3 := Y3.out.cell; have z3 := Y3.out.lt
      go_wp2_with fail
      refine (Lp.rValid_at _ (Lib.hid Y3.out.tab) V).mono ?_; rintro e w4 ⟨rfl, hb4⟩
      have Y4 := Lib.hid (Y3.out.step hb4); have q4 := Y4.out.cell; have z4 := Y4.out.lt
      go_wp2_with fail
      go_ret
      exact ⟨rfl, Y4.out.bel⟩
    · have V := Lib.hid hv
      have K := Lib.hid (M.ok_of_b hv)
      have hn := K.out.n100
      by_cases hx : x < -62135596800 ∨ 253402300800 ≤ x
      · have I := Lib.hid (Lp.inst_f hx)
        have RA := Lib.hid (Lp.M.adl_1 (d := d) (Lp.M.atm_2 hv hx) (by omega))
        clear hv hx
        go_enter Try.func9, Try.ntmps9
        go_wp2_with fail
        refine (Lp.awake_any _).mono ?_; rintro e w1 ⟨rfl, hb1⟩
        have Y1 := Lib.hid (X0.out.step hb1); have q1 := Y1.out.cell; have z1 := Y1.out.lt
        go_wp2_with fail
        refine (Lp.long_at _ (Lib.hid Y1.out.tab) L).mono ?_; rintro e w2 ⟨rfl, hb2⟩
        have Y2 := Lib.hid (Y1.out.step hb2); have q2 := Y2.out.cell; have z2 := Y2.out.lt
        go_wp2_with fail
        refine (Lp.Add_at _ (Lib.hid Y2.out.tab) x1 x2 d1 d2 RA).mono ?_; rintro e w3 ⟨rfl, hb3⟩
        have Y3 := Lib.hid (Y2.out.step hb3); have q3 := Y3.out.cell; have z3 := Y3.out.lt
        go_wp2_with fail
        refine (Lp.rValid_at _ (Lib.hid Y3.out.tab) V).mono ?_; rintro e w4 ⟨rfl, hb4⟩
        have Y4 := Lib.hid (Y3.out.step hb4); have q4 := Y4.out.cell; have z4 := Y4.out.lt
        go_wp2_with fail
        refine (Lp.rInstant_at _ I).mono ?_; rintro e w5 ⟨rfl, rfl⟩
        go_wp2_with fail
        go_ret
        exact ⟨rfl, Y4.out.bel⟩
      · have ix1 : -62135596800 ≤ x := by omega
        have ix2 : x < 253402300800 := by omega
        have I := Lib.hid (Lp.inst_t ix1 ix2)
        have AX := Lp.M.atm_0 hv ix1 ix2
        by_cases hd : 1152921504606846976 < d ∨ d < -1152921504606846976
        · have RA := Lib.hid (Lp.M.adl_2 AX (d := d) (by omega))
          have hd' : 1152921504606846976 < d ∨ (d ≤ 1152921504606846976 ∧ d < -1152921504606846976) := by omega
          clear hv hx hd AX
          rcases hd' with hd | ⟨hd, hd'⟩
          all_goals
            go_enter Try.func9, Try.ntmps9
            go_wp2_with fail
            refine (Lp.awake_any _).mono ?_; rintro e w1 ⟨rfl, hb1⟩
            have Y1 := Lib.hid (X0.out.step hb1); have q1 := Y1.out.cell; have z1 := Y1.out.lt
            go_wp2_with fail
            refine (Lp.long_at _ (Lib.hid Y1.out.tab) L).mono ?_; rintro e w2 ⟨rfl, hb2⟩
            have Y2 := Lib.hid (Y1.out.step hb2); have q2 := Y2.out.cell; have z2 := Y2.out.lt
            go_wp2_with fail
            refine (Lp.Add_at _ (Lib.hid Y2.out.tab) x1 x2 d1 d2 RA).mono ?_; rintro e w3 ⟨rfl, hb3⟩
            have Y3 := Lib.hid (Y2.out.step hb3); have q3 := Y3.out.cell; have z3 := Y3.out.lt
            go_wp2_with fail
            refine (Lp.rValid_at _ (Lib.hid Y3.out.tab) V).mono ?_; rintro e w4 ⟨rfl, hb4⟩
            have Y4 := Lib.hid (Y3.out.step hb4); have q4 := Y4.out.cell; have z4 := Y4.out.lt
            go_wp2_with fail
            refine (Lp.rInstant_at _ I).mono ?_; rintro e w5 ⟨rfl, rfl⟩
            go_wp2_with fail
            go_ret
            exact ⟨rfl, Y4.out.bel⟩
        · have hd1 : d ≤ 1152921504606846976 := by omega
          have hd2 : -1152921504606846976 ≤ d := by omega
          have tb := M.tot_bd A x n
          have RT : Hid (∀ (w : World), Lp.Tab w sl n bb o A T → Calls Try.prog 18 #[.agg #[.slice sl n cap], .int .i64 x] w fun e w' => e = .returned (.int .i64 (x + M.tot A x n)) ∧ Below w.heap.size w w') := Lib.hid fun w ht => Lp.rAtomic_any x w (Lib.hid ht) ix1 ix2 (by omega)
          obtain ⟨ta, hta⟩ : ∃ ta, x + M.tot A x n = ta := ⟨_, rfl⟩
          rw [hta] at AX RT
          have ta1 : -62135596800 ≤ ta := by omega
          have ta2 : ta ≤ 253402300900 := by omega
          -- what the reference says, and what Add says
          have KC : (Hid (M.civ n A (ta + d) = ((0, false), 2)) ∧ Hid (Lp.M.adl n A T x d = (0, 2))) ∨
              (∃ c, Hid (M.civ n A (ta + d) = ((c, true), 0)) ∧ Hid (Lp.M.adl n A T x d = (0, 11))) ∨
              (∃ c, Hid (M.civ n A (ta + d) = ((c, false), 0)) ∧ Hid (Lp.M.adl n A T x d = (c, 0)) ∧ -62135596800 ≤ c ∧ c < 253402300800 ∧ Hid (Lp.M.dst n A T x c = (d, 0))) := by
            by_cases hr : ta + d < -62135596800 ∨ 253402300800 + (n : Int) ≤ ta + d
            · left
              have hc := M.civ_range (A := A) hr
              refine ⟨Lib.hid hc, Lib.hid ?_⟩
              by_cases h4 : 1013609203200 < d ∨ d < -1013609203200
              · exact Lp.M.adl_2 AX h4
              · exact Lp.M.adl_3 AX h4 ((Lp.M.cvl_0 hv).trans hc) (by omega)
            · right
              have h4 : ¬ (1013609203200 < d ∨ d < -1013609203200) := by omega
              obtain ⟨c, i, k1, k2, k3, k4⟩ := M.back2 K.out hr
              rcases k4 with ⟨rfl, k4⟩ | ⟨rfl, k4⟩
              · left; exact ⟨c, Lib.hid k1, Lib.hid (Lp.M.adl_4 AX h4 ((Lp.M.cvl_0 hv).trans k1))⟩
              · right
                refine ⟨c, Lib.hid k1, Lib.hid (Lp.M.adl_0 AX h4 ((Lp.M.cvl_0 hv).trans k1)), k2, k3, Lib.hid ?_⟩
                have := Lp.M.dst_0 AX (Lp.M.atm_0 hv k2 k3)
                rw [this, k4]; congr 1; omega
          clear hv hx hd hta AX tb
          rcases KC with ⟨RC, RA⟩ | ⟨c, RC, RA⟩ | ⟨c, RC, RA, k2, k3, RD⟩
          · skip
            go_enter Try.func9, Try.ntmps9
            go_wp2_with fail
            refine (Lp.awake_any _).mono ?_; rintro e w1 ⟨rfl, hb1⟩
            have Y1 := Lib.hid (X0.out.step hb1); have q1 := Y1.out.cell; have z1 := Y1.out.lt
            go_wp2_with fail
            refine (Lp.long_at _ (Lib.hid Y1.out.tab) L).mono ?_; rintro e w2 ⟨rfl, hb2⟩
            have Y2 := Lib.hid (Y1.out.step hb2); have q2 := Y2.out.cell; have z2 := Y2.out.lt
            go_wp2_with fail
            refine (Lp.Add_at _ (Lib.hid Y2.out.tab) x1 x2 d1 d2 RA).mono ?_; rintro e w3 ⟨rfl, hb3⟩
            have Y3 := Lib.hid (Y2.out.step hb3); have q3 := Y3.out.cell; have z3 := Y3.out.lt
            go_wp2_with fail
            refine (Lp.rValid_at _ (Lib.hid Y3.out.tab) V).mono ?_; rintro e w4 ⟨rfl, hb4⟩
            have Y4 := Lib.hid (Y3.out.step hb4); have q4 := Y4.out.cell; have z4 := Y4.out.lt
            go_wp2_with fail
            refine (Lp.rInstant_at _ I).mono ?_; rintro e w5 ⟨rfl, rfl⟩
            go_wp2_with fail
            have hS6 := Abv.cells w4
            refine wp_region_abv (by kernel_rfl) (by kernel_rfl) ?_
            repeat (go_big_quiet_step (first | (go_at_call 18; exact abv_call (RT.out _ (Y4.out.tab.below (Abv.bel _)))) | (go_at_call 16; exact abv_call (Lp.rCivil_at _ (Lib.hid (Y4.out.tab.below (Abv.bel _))) K (by omega) (by omega) RC))))
            refine wpQuiet_nil ?_
            rintro w6 hb6
            have Y6 := Lib.hid (Y4.out.step hb6); have q6 := Y6.out.cell; have z6 := Y6.out.lt
            go_wp2_with fail
            go_ret
            exact ⟨rfl, Y6.out.bel⟩
          · skip
            go_enter Try.func9, Try.ntmps9
            go_wp2_with fail
            refine (Lp.awake_any _).mono ?_; rintro e w1 ⟨rfl, hb1⟩
            have Y1 := Lib.hid (X0.out.step hb1); have q1 := Y1.out.cell; have z1 := Y1.out.lt
            go_wp2_with fail
            refine (Lp.long_at _ (Lib.hid Y1.out.tab) L).mono ?_; rintro e w2 ⟨rfl, hb2⟩
            have Y2 := Lib.hid (Y1.out.step hb2); have q2 := Y2.out.cell; have z2 := Y2.out.lt
            go_wp2_with fail
            refine (Lp.Add_at _ (Lib.hid Y2.out.tab) x1 x2 d1 d2 RA).mono ?_; rintro e w3 ⟨rfl, hb3⟩
            have Y3 := Lib.hid (Y2.out.step hb3); have q3 := Y3.out.cell; have z3 := Y3.out.lt
            go_wp2_with fail
            refine (Lp.rValid_at _ (Lib.hid Y3.out.tab) V).mono ?_; rintro e w4 ⟨rfl, hb4⟩
            have Y4 := Lib.hid (Y3.out.step hb4); have q4 := Y4.out.cell; have z4 := Y4.out.lt
            go_wp2_with fail
            refine (Lp.rInstant_at _ I).mono ?_; rintro e w5 ⟨rfl, rfl⟩
            go_wp2_with fail
            have hS6 := Abv.cells w4
            refine wp_region_abv (by kernel_rfl) (by kernel_rfl) ?_
            repeat (go_big_quiet_step (first | (go_at_call 18; exact abv_call (RT.out _ (Y4.out.tab.below (Abv.bel _)))) | (go_at_call 16; exact abv_call (Lp.rCivil_at _ (Lib.hid (Y4.out.tab.below (Abv.bel _))) K (by omega) (by omega) RC))))
            refine wpQuiet_nil ?_
            rintro w6 hb6
            have Y6 := Lib.hid (Y4.out.step hb6); have q6 := Y6.out.cell; have z6 := Y6.out.lt
            go_wp2_with fail
            go_ret
            exact ⟨rfl, Y6.out.bel⟩
          · skip
            go_enter Try.func9, Try.ntmps9
            go_wp2_with fail
            refine (Lp.awake_any _).mono ?_; rintro e w1 ⟨rfl, hb1⟩
            have Y1 := Lib.hid (X0.out.step hb1); have q1 := Y1.out.cell; have z1 := Y1.out.lt
            go_wp2_with fail
            refine (Lp.long_at _ (Lib.hid Y1.out.tab) L).mono ?_; rintro e w2 ⟨rfl, hb2⟩
            have Y2 := Lib.hid (Y1.out.step hb2); have q2 := Y2.out.cell; have z2 := Y2.out.lt
            go_wp2_with fail
            refine (Lp.Add_at _ (Lib.hid Y2.out.tab) x1 x2 d1 d2 RA).mono ?_; rintro e w3 ⟨rfl, hb3⟩
            have Y3 := Lib.hid (Y2.out.step hb3); have q3 := Y3.out.cell; have z3 := Y3.out.lt
            go_wp2_with fail
            refine (Lp.rValid_at _ (Lib.hid Y3.out.tab) V).mono ?_; rintro e w4 ⟨rfl, hb4⟩
            have Y4 := Lib.hid (Y3.out.step hb4); have q4 := Y4.out.cell; have z4 := Y4.out.lt
            go_wp2_with fail
            refine (Lp.rInstant_at _ I).mono ?_; rintro e w5 ⟨rfl, rfl⟩
            go_wp2_with fail
            have hS6 := Abv.cells w4
            refine wp_region_abv (by kernel_rfl) (by kernel_rfl) ?_
            repeat (go_big_quiet_step (first | (go_at_call 18; exact abv_call (RT.out _ (Y4.out.tab.below (Abv.bel _)))) | (go_at_call 16; exact abv_call (Lp.rCivil_at _ (Lib.hid (Y4.out.tab.below (Abv.bel _))) K (by omega) (by omega) RC))))
            refine wpQuiet_nil ?_
            rintro w6 hb6
            have Y6 := Lib.hid (Y4.out.step hb6); have q6 := Y6.out.cell; have z6 := Y6.out.lt
            go_wp2_with fail
            refine (Lp.Distance_at _ (Lib.hid Y6.out.tab) x1 x2 (by omega) (by omega) RD).mono ?_; rintro e w7 ⟨rfl, hb7⟩
            have Y7 := Lib.hid (Y6.out.step hb7); have q7 := Y7.out.cell; have z7 := Y7.out.lt
            go_wp2_with fail
            go_ret
            exact ⟨rfl, Y7.out.bel⟩

end Go.Proofs.Ytplgladflhglaaa
