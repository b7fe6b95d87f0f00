/- The law: ConversionDivides. -/
import Derived.Test.YtainibnjpkbfpaaCalL5
namespace Go.Proofs.Ytainibnjpkbfpaa.Cv
set_option linter.unusedVariables false
set_option linter.unusedSimpArgs false
open Go.RowKit Wl

theorem dvr_t {a b : Cal} {e : Int} (hb : (vld a && vld b) = true) (h : dvr a b = (true, e)) (k : Int) : fil a (pl b k).1 (pl b k).2 = true := by
  obtain ⟨hv, kv⟩ := both hb
  have V := vc hv.out
  have V2 := vc kv.out
  unfold dvr at h
  rw [if_pos hb] at h
  by_cases he : (prr a b).2 = 0
  · rw [if_pos he] at h
    injection h with h _
    obtain ⟨z, hz⟩ : ∃ z, prr a b = (z, 0) := ⟨(prr a b).1, by rw [← he]⟩
    obtain ⟨qa, qb, K, K2, cp, e1, e2, _, _, _, t2⟩ := cp_get V V2 hz
    rw [hz] at h
    dsimp only at h
    rw [cp.db] at h
    exact div_all V V2 cp h k
  · rw [if_neg he] at h; injection h with h _; cases h
set_option maxRecDepth 20000 in
set_option maxHeartbeats 12800000 in
theorem ConversionDivides_walk (o p : Int) (A : Option Addr) (n cp : Nat) (l : List (Int × Int)) (r s : Int) (B : Option Addr) (m cq : Nat) (g : List (Int × Int)) (x : Int) (w : World) (h : Hid (Sr w A n cp l)) (k : Hid (Sr w B m cq g)) (x1 : -9223372036854775808 ≤ x) (x2 : x ≤ 9223372036854775807) :
    Calls Try.prog 7 #[.agg #[.int .i64 o, .int .i64 p, .slice A n cp], .agg #[.int .i64 r, .int .i64 s, .slice B m cq], .int .i64 x] w fun e w' => e = .returned (.bool true) ∧ Below w.heap.size w w' := by
  obtain ⟨W0, hW0⟩ : ∃ W0, (w.alloc (.cells #[.int .i64 o, .int .i64 p, .slice A n cp] 24)).alloc (.cells #[.int .i64 r, .int .i64 s, .slice B m cq] 24) = W0 := ⟨_, rfl⟩
  have F0 : Hid (Fx w W0 w.heap.size o p A n cp l) := Lib.hid (by rw [← hW0]; exact (Fx.new _ _ h.out).alloc _)
  have G0 : Hid (Fx w W0 (w.heap.size + 1) r s B m cq g) := Lib.hid (by rw [← hW0]; exact Fx.new2 _ _ _ k.out)
  have HW0 := Lib.hid hW0
  clear hW0
  obtain ⟨z0, c0, c1, c2⟩ := F0.out.bx
  obtain ⟨y0, d0, d1, d2⟩ := G0.out.bx
  rcases hl : lng n with _ | _
  all_goals replace hl := Lib.hid hl
  · rcases hm : lng m with _ | _
    all_goals replace hm := Lib.hid hm
    · by_cases hx1 : x < -1000
      · have q1 : decide (x < -1000) = true := by simpa using hx1
        go_enter Try.func7, Try.ntmps7
        go_wp2_with fail
        rw [HW0.out]
        go_at_call 10
        refine (awake_any _).mono ?_
        rintro e w1 ⟨rfl, b1⟩
        have F1 := Lib.hid (F0.out.step b1)
        have G1 := Lib.hid (G0.out.step b1)
        clear c0 c1 c2 z0 d0 d1 d2 y0
        obtain ⟨z0, c0, c1, c2⟩ := F1.out.bx
        obtain ⟨y0, d0, d1, d2⟩ := G1.out.bx
        go_wp2_with fail
        go_at_call 11
        refine (long_at o p _ hl).mono ?_
        rintro e w2 ⟨rfl, b2⟩
        have F2 := Lib.hid (F1.out.step b2)
        have G2 := Lib.hid (G1.out.step b2)
        clear c0 c1 c2 z0 d0 d1 d2 y0
        obtain ⟨z0, c0, c1, c2⟩ := F2.out.bx
        obtain ⟨y0, d0, d1, d2⟩ := G2.out.bx
        go_wp2_with fail
        go_at_call 11
        refine (long_at r s _ hm).mono ?_
        rintro e w3 ⟨rfl, b3⟩
        have F3 := Lib.hid (F2.out.step b3)
        have G3 := Lib.hid (G2.out.step b3)
        clear c0 c1 c2 z0 d0 d1 d2 y0
        obtain ⟨z0, c0, c1, c2⟩ := F3.out.bx
        obtain ⟨y0, d0, d1, d2⟩ := G3.out.bx
        go_wp2_with fail
        go_at_call 10
        refine (awake_any _).mono ?_
        rintro e w4 ⟨rfl, b4⟩
        have F4 := Lib.hid (F3.out.step b4)
        have G4 := Lib.hid (G3.out.step b4)
        clear c0 c1 c2 z0 d0 d1 d2 y0
        obtain ⟨z0, c0, c1, c2⟩ := F4.out.bx
        obtain ⟨y0, d0, d1, d2⟩ := G4.out.bx
        go_wp2_with fail
        go_ret
        exact ⟨rfl, F4.out.bel⟩
      · have q1 : decide (x < -1000) = false := by simpa using hx1
        by_cases hx2 : x > 1000
        · have q2 : decide (x > 1000) = true := by simpa using hx2
          go_enter Try.func7, Try.ntmps7
          go_wp2_with fail
          rw [HW0.out]
          go_at_call 10
          refine (awake_any _).mono ?_
          rintro e w1 ⟨rfl, b1⟩
          have F1 := Lib.hid (F0.out.step b1)
          have G1 := Lib.hid (G0.out.step b1)
          clear c0 c1 c2 z0 d0 d1 d2 y0
          obtain ⟨z0, c0, c1, c2⟩ := F1.out.bx
          obtain ⟨y0, d0, d1, d2⟩ := G1.out.bx
          go_wp2_with fail
          go_at_call 11
          refine (long_at o p _ hl).mono ?_
          rintro e w2 ⟨rfl, b2⟩
          have F2 := Lib.hid (F1.out.step b2)
          have G2 := Lib.hid (G1.out.step b2)
          clear c0 c1 c2 z0 d0 d1 d2 y0
          obtain ⟨z0, c0, c1, c2⟩ := F2.out.bx
          obtain ⟨y0, d0, d1, d2⟩ := G2.out.bx
          go_wp2_with fail
          go_at_call 11
          refine (long_at r s _ hm).mono ?_
          rintro e w3 ⟨rfl, b3⟩
          have F3 := Lib.hid (F2.out.step b3)
          have G3 := Lib.hid (G2.out.step b3)
          clear c0 c1 c2 z0 d0 d1 d2 y0
          obtain ⟨z0, c0, c1, c2⟩ := F3.out.bx
          obtain ⟨y0, d0, d1, d2⟩ := G3.out.bx
          go_wp2_with fail
          go_at_call 10
          refine (awake_any _).mono ?_
          rintro e w4 ⟨rfl, b4⟩
          have F4 := Lib.hid (F3.out.step b4)
          have G4 := Lib.hid (G3.out.step b4)
          clear c0 c1 c2 z0 d0 d1 d2 y0
          obtain ⟨z0, c0, c1, c2⟩ := F4.out.bx
          obtain ⟨y0, d0, d1, d2⟩ := G4.out.bx
          go_wp2_with fail
          go_ret
          exact ⟨rfl, F4.out.bel⟩
        · have q2 : decide (x > 1000) = false := by simpa using hx2
          obtain ⟨⟨bf, ef⟩, hf⟩ : ∃ q, dvr ⟨o, p, l⟩ ⟨r, s, g⟩ = q := ⟨_, rfl⟩
          have HF := Lib.hid hf
          rcases hb : (vld ⟨o, p, l⟩ && vld ⟨r, s, g⟩) with _ | _
          · rw [dvr_bad hb] at hf
            injection hf with e1 e2
            subst e1 e2
            replace hb := Lib.hid hb
            go_enter Try.func7, Try.ntmps7
            go_wp2_with fail
            rw [HW0.out]
            go_at_call 10
            refine (awake_any _).mono ?_
            rintro e w1 ⟨rfl, b1⟩
            have F1 := Lib.hid (F0.out.step b1)
            have G1 := Lib.hid (G0.out.step b1)
            clear c0 c1 c2 z0 d0 d1 d2 y0
            obtain ⟨z0, c0, c1, c2⟩ := F1.out.bx
            obtain ⟨y0, d0, d1, d2⟩ := G1.out.bx
            go_wp2_with fail
            go_at_call 11
            refine (long_at o p _ hl).mono ?_
            rintro e w2 ⟨rfl, b2⟩
            have F2 := Lib.hid (F1.out.step b2)
            have G2 := Lib.hid (G1.out.step b2)
            clear c0 c1 c2 z0 d0 d1 d2 y0
            obtain ⟨z0, c0, c1, c2⟩ := F2.out.bx
            obtain ⟨y0, d0, d1, d2⟩ := G2.out.bx
            go_wp2_with fail
            go_at_call 11
            refine (long_at r s _ hm).mono ?_
            rintro e w3 ⟨rfl, b3⟩
            have F3 := Lib.hid (F2.out.step b3)
            have G3 := Lib.hid (G2.out.step b3)
            clear c0 c1 c2 z0 d0 d1 d2 y0
            obtain ⟨z0, c0, c1, c2⟩ := F3.out.bx
            obtain ⟨y0, d0, d1, d2⟩ := G3.out.bx
            go_wp2_with fail
            go_at_call 38
            refine (Divides_at _ (Fx.hsr F3) (Fx.hsr G3) HF).mono ?_
            rintro e w4 ⟨rfl, b4⟩
            have F4 := Lib.hid (F3.out.step b4)
            have G4 := Lib.hid (G3.out.step b4)
            clear c0 c1 c2 z0 d0 d1 d2 y0
            obtain ⟨z0, c0, c1, c2⟩ := F4.out.bx
            obtain ⟨y0, d0, d1, d2⟩ := G4.out.bx
            go_wp2_with fail
            go_at_call 23
            refine (Down_bad x _ (Fx.hsr F4) (Fx.hsr G4) hb).mono ?_
            rintro e w5 ⟨rfl, b5⟩
            have F5 := Lib.hid (F4.out.step b5)
            have G5 := Lib.hid (G4.out.step b5)
            clear c0 c1 c2 z0 d0 d1 d2 y0
            obtain ⟨z0, c0, c1, c2⟩ := F5.out.bx
            obtain ⟨y0, d0, d1, d2⟩ := G5.out.bx
            go_wp2_with fail
            go_ret
            exact ⟨rfl, F5.out.bel⟩
          · obtain ⟨hv, kv⟩ := both hb
            have V := hVc hv
            have V2 := hVc kv
            rcases hr : rch ⟨r, s, g⟩ x with _ | _
            all_goals have HR := Lib.hid hr
            · by_cases hne : ef = 0
              · subst hne
                rcases bf with _ | _
                · go_enter Try.func7, Try.ntmps7
                  go_wp2_with fail
                  rw [HW0.out]
                  go_at_call 10
                  refine (awake_any _).mono ?_
                  rintro e w1 ⟨rfl, b1⟩
                  have F1 := Lib.hid (F0.out.step b1)
                  have G1 := Lib.hid (G0.out.step b1)
                  clear c0 c1 c2 z0 d0 d1 d2 y0
                  obtain ⟨z0, c0, c1, c2⟩ := F1.out.bx
                  obtain ⟨y0, d0, d1, d2⟩ := G1.out.bx
                  go_wp2_with fail
                  go_at_call 11
                  refine (long_at o p _ hl).mono ?_
                  rintro e w2 ⟨rfl, b2⟩
                  have F2 := Lib.hid (F1.out.step b2)
                  have G2 := Lib.hid (G1.out.step b2)
                  clear c0 c1 c2 z0 d0 d1 d2 y0
                  obtain ⟨z0, c0, c1, c2⟩ := F2.out.bx
                  obtain ⟨y0, d0, d1, d2⟩ := G2.out.bx
                  go_wp2_with fail
                  go_at_call 11
                  refine (long_at r s _ hm).mono ?_
                  rintro e w3 ⟨rfl, b3⟩
                  have F3 := Lib.hid (F2.out.step b3)
                  have G3 := Lib.hid (G2.out.step b3)
                  clear c0 c1 c2 z0 d0 d1 d2 y0
                  obtain ⟨z0, c0, c1, c2⟩ := F3.out.bx
                  obtain ⟨y0, d0, d1, d2⟩ := G3.out.bx
                  go_wp2_with fail
                  go_at_call 38
                  refine (Divides_at _ (Fx.hsr F3) (Fx.hsr G3) HF).mono ?_
                  rintro e w4 ⟨rfl, b4⟩
                  have F4 := Lib.hid (F3.out.step b4)
                  have G4 := Lib.hid (G3.out.step b4)
                  clear c0 c1 c2 z0 d0 d1 d2 y0
                  obtain ⟨z0, c0, c1, c2⟩ := F4.out.bx
                  obtain ⟨y0, d0, d1, d2⟩ := G4.out.bx
                  go_wp2_with fail
                  go_at_call 23
                  refine (Down_no x _ (Fx.hsr F4) (Fx.hsr G4) hv kv (by omega) (by omega) HR).mono ?_
                  rintro e w5 ⟨rfl, b5⟩
                  have F5 := Lib.hid (F4.out.step b5)
                  have G5 := Lib.hid (G4.out.step b5)
                  clear c0 c1 c2 z0 d0 d1 d2 y0
                  obtain ⟨z0, c0, c1, c2⟩ := F5.out.bx
                  obtain ⟨y0, d0, d1, d2⟩ := G5.out.bx
                  go_wp2_with fail
                  go_ret
                  exact ⟨rfl, F5.out.bel⟩
                · go_enter Try.func7, Try.ntmps7
                  go_wp2_with fail
                  rw [HW0.out]
                  go_at_call 10
                  refine (awake_any _).mono ?_
                  rintro e w1 ⟨rfl, b1⟩
                  have F1 := Lib.hid (F0.out.step b1)
                  have G1 := Lib.hid (G0.out.step b1)
                  clear c0 c1 c2 z0 d0 d1 d2 y0
                  obtain ⟨z0, c0, c1, c2⟩ := F1.out.bx
                  obtain ⟨y0, d0, d1, d2⟩ := G1.out.bx
                  go_wp2_with fail
                  go_at_call 11
                  refine (long_at o p _ hl).mono ?_
                  rintro e w2 ⟨rfl, b2⟩
                  have F2 := Lib.hid (F1.out.step b2)
                  have G2 := Lib.hid (G1.out.step b2)
                  clear c0 c1 c2 z0 d0 d1 d2 y0
                  obtain ⟨z0, c0, c1, c2⟩ := F2.out.bx
                  obtain ⟨y0, d0, d1, d2⟩ := G2.out.bx
                  go_wp2_with fail
                  go_at_call 11
                  refine (long_at r s _ hm).mono ?_
                  rintro e w3 ⟨rfl, b3⟩
                  have F3 := Lib.hid (F2.out.step b3)
                  have G3 := Lib.hid (G2.out.step b3)
                  clear c0 c1 c2 z0 d0 d1 d2 y0
                  obtain ⟨z0, c0, c1, c2⟩ := F3.out.bx
                  obtain ⟨y0, d0, d1, d2⟩ := G3.out.bx
                  go_wp2_with fail
                  go_at_call 38
                  refine (Divides_at _ (Fx.hsr F3) (Fx.hsr G3) HF).mono ?_
                  rintro e w4 ⟨rfl, b4⟩
                  have F4 := Lib.hid (F3.out.step b4)
                  have G4 := Lib.hid (G3.out.step b4)
                  clear c0 c1 c2 z0 d0 d1 d2 y0
                  obtain ⟨z0, c0, c1, c2⟩ := F4.out.bx
                  obtain ⟨y0, d0, d1, d2⟩ := G4.out.bx
                  go_wp2_with fail
                  go_at_call 23
                  refine (Down_no x _ (Fx.hsr F4) (Fx.hsr G4) hv kv (by omega) (by omega) HR).mono ?_
                  rintro e w5 ⟨rfl, b5⟩
                  have F5 := Lib.hid (F4.out.step b5)
                  have G5 := Lib.hid (G4.out.step b5)
                  clear c0 c1 c2 z0 d0 d1 d2 y0
                  obtain ⟨z0, c0, c1, c2⟩ := F5.out.bx
                  obtain ⟨y0, d0, d1, d2⟩ := G5.out.bx
                  go_wp2_with fail
                  go_ret
                  exact ⟨rfl, F5.out.bel⟩
              · have hne' : (ef != 0) = true := by simpa using hne
                go_enter Try.func7, Try.ntmps7
                go_wp2_with fail
                rw [HW0.out]
                go_at_call 10
                refine (awake_any _).mono ?_
                rintro e w1 ⟨rfl, b1⟩
                have F1 := Lib.hid (F0.out.step b1)
                have G1 := Lib.hid (G0.out.step b1)
                clear c0 c1 c2 z0 d0 d1 d2 y0
                obtain ⟨z0, c0, c1, c2⟩ := F1.out.bx
                obtain ⟨y0, d0, d1, d2⟩ := G1.out.bx
                go_wp2_with fail
                go_at_call 11
                refine (long_at o p _ hl).mono ?_
                rintro e w2 ⟨rfl, b2⟩
                have F2 := Lib.hid (F1.out.step b2)
                have G2 := Lib.hid (G1.out.step b2)
                clear c0 c1 c2 z0 d0 d1 d2 y0
                obtain ⟨z0, c0, c1, c2⟩ := F2.out.bx
                obtain ⟨y0, d0, d1, d2⟩ := G2.out.bx
                go_wp2_with fail
                go_at_call 11
                refine (long_at r s _ hm).mono ?_
                rintro e w3 ⟨rfl, b3⟩
                have F3 := Lib.hid (F2.out.step b3)
                have G3 := Lib.hid (G2.out.step b3)
                clear c0 c1 c2 z0 d0 d1 d2 y0
                obtain ⟨z0, c0, c1, c2⟩ := F3.out.bx
                obtain ⟨y0, d0, d1, d2⟩ := G3.out.bx
                go_wp2_with fail
                go_at_call 38
                refine (Divides_at _ (Fx.hsr F3) (Fx.hsr G3) HF).mono ?_
                rintro e w4 ⟨rfl, b4⟩
                have F4 := Lib.hid (F3.out.step b4)
                have G4 := Lib.hid (G3.out.step b4)
                clear c0 c1 c2 z0 d0 d1 d2 y0
                obtain ⟨z0, c0, c1, c2⟩ := F4.out.bx
                obtain ⟨y0, d0, d1, d2⟩ := G4.out.bx
                go_wp2_with fail
                go_at_call 23
                refine (Down_no x _ (Fx.hsr F4) (Fx.hsr G4) hv kv (by omega) (by omega) HR).mono ?_
                rintro e w5 ⟨rfl, b5⟩
                have F5 := Lib.hid (F4.out.step b5)
                have G5 := Lib.hid (G4.out.step b5)
                clear c0 c1 c2 z0 d0 d1 d2 y0
                obtain ⟨z0, c0, c1, c2⟩ := F5.out.bx
                obtain ⟨y0, d0, d1, d2⟩ := G5.out.bx
                go_wp2_with fail
                go_ret
                exact ⟨rfl, F5.out.bel⟩
            · obtain ⟨⟨u, v⟩, hp⟩ : ∃ q, pl ⟨r, s, g⟩ x = q := ⟨_, rfl⟩
              obtain ⟨⟨fd, nd⟩, hd⟩ : ∃ q, ins ⟨o, p, l⟩ (pl ⟨r, s, g⟩ x) = q := ⟨_, rfl⟩
              have HD := Lib.hid hd
              have HT : Hid (spn ⟨r, s, g⟩ x = ((u, v), 0)) := Lib.hid (by rw [spn_t (rch_onl hr), hp])
              by_cases hne : ef = 0
              · subst hne
                rcases bf with _ | _
                · go_enter Try.func7, Try.ntmps7
                  go_wp2_with fail
                  rw [HW0.out]
                  go_at_call 10
                  refine (awake_any _).mono ?_
                  rintro e w1 ⟨rfl, b1⟩
                  have F1 := Lib.hid (F0.out.step b1)
                  have G1 := Lib.hid (G0.out.step b1)
                  clear c0 c1 c2 z0 d0 d1 d2 y0
                  obtain ⟨z0, c0, c1, c2⟩ := F1.out.bx
                  obtain ⟨y0, d0, d1, d2⟩ := G1.out.bx
                  go_wp2_with fail
                  go_at_call 11
                  refine (long_at o p _ hl).mono ?_
                  rintro e w2 ⟨rfl, b2⟩
                  have F2 := Lib.hid (F1.out.step b2)
                  have G2 := Lib.hid (G1.out.step b2)
                  clear c0 c1 c2 z0 d0 d1 d2 y0
                  obtain ⟨z0, c0, c1, c2⟩ := F2.out.bx
                  obtain ⟨y0, d0, d1, d2⟩ := G2.out.bx
                  go_wp2_with fail
                  go_at_call 11
                  refine (long_at r s _ hm).mono ?_
                  rintro e w3 ⟨rfl, b3⟩
                  have F3 := Lib.hid (F2.out.step b3)
                  have G3 := Lib.hid (G2.out.step b3)
                  clear c0 c1 c2 z0 d0 d1 d2 y0
                  obtain ⟨z0, c0, c1, c2⟩ := F3.out.bx
                  obtain ⟨y0, d0, d1, d2⟩ := G3.out.bx
                  go_wp2_with fail
                  go_at_call 38
                  refine (Divides_at _ (Fx.hsr F3) (Fx.hsr G3) HF).mono ?_
                  rintro e w4 ⟨rfl, b4⟩
                  have F4 := Lib.hid (F3.out.step b4)
                  have G4 := Lib.hid (G3.out.step b4)
                  clear c0 c1 c2 z0 d0 d1 d2 y0
                  obtain ⟨z0, c0, c1, c2⟩ := F4.out.bx
                  obtain ⟨y0, d0, d1, d2⟩ := G4.out.bx
                  go_wp2_with fail
                  go_at_call 23
                  refine (Down_at _ (Fx.hsr F4) (Fx.hsr G4) hv kv (by omega) (by omega) HR HD).mono ?_
                  rintro e w5 ⟨rfl, b5⟩
                  have F5 := Lib.hid (F4.out.step b5)
                  have G5 := Lib.hid (G4.out.step b5)
                  clear c0 c1 c2 z0 d0 d1 d2 y0
                  obtain ⟨z0, c0, c1, c2⟩ := F5.out.bx
                  obtain ⟨y0, d0, d1, d2⟩ := G5.out.bx
                  go_wp2_with fail
                  go_ret
                  exact ⟨rfl, F5.out.bel⟩
                · have hf2 := dvr_t hb hf x
                  rw [hp] at hf2 hd
                  obtain ⟨j, n0, j1, n1', n2', hi, hc, hsp, he⟩ := dv_facts V.out V2.out hp hr hf2
                  rw [hi] at hd
                  injection hd with e1 e2
                  subst e1 e2
                  have HC : Hid (cvr ⟨o, p, l⟩ (pl ⟨r, s, g⟩ x) = (n0, (j : Int))) := Lib.hid (by rw [hp]; exact hc)
                  have HSP := Lib.hid hsp
                  have HE := Lib.hid he
                  clear hf2 hi hc hsp he hp hf hr hb
                  by_cases h100 : (j : Int) > 100
                  · have q3 : decide ((j : Int) > 100) = true := by simp; omega
                    go_enter Try.func7, Try.ntmps7
                    go_wp2_with fail
                    rw [HW0.out]
                    go_at_call 10
                    refine (awake_any _).mono ?_
                    rintro e w1 ⟨rfl, b1⟩
                    have F1 := Lib.hid (F0.out.step b1)
                    have G1 := Lib.hid (G0.out.step b1)
                    clear c0 c1 c2 z0 d0 d1 d2 y0
                    obtain ⟨z0, c0, c1, c2⟩ := F1.out.bx
                    obtain ⟨y0, d0, d1, d2⟩ := G1.out.bx
                    go_wp2_with fail
                    go_at_call 11
                    refine (long_at o p _ hl).mono ?_
                    rintro e w2 ⟨rfl, b2⟩
                    have F2 := Lib.hid (F1.out.step b2)
                    have G2 := Lib.hid (G1.out.step b2)
                    clear c0 c1 c2 z0 d0 d1 d2 y0
                    obtain ⟨z0, c0, c1, c2⟩ := F2.out.bx
                    obtain ⟨y0, d0, d1, d2⟩ := G2.out.bx
                    go_wp2_with fail
                    go_at_call 11
                    refine (long_at r s _ hm).mono ?_
                    rintro e w3 ⟨rfl, b3⟩
                    have F3 := Lib.hid (F2.out.step b3)
                    have G3 := Lib.hid (G2.out.step b3)
                    clear c0 c1 c2 z0 d0 d1 d2 y0
                    obtain ⟨z0, c0, c1, c2⟩ := F3.out.bx
                    obtain ⟨y0, d0, d1, d2⟩ := G3.out.bx
                    go_wp2_with fail
                    go_at_call 38
                    refine (Divides_at _ (Fx.hsr F3) (Fx.hsr G3) HF).mono ?_
                    rintro e w4 ⟨rfl, b4⟩
                    have F4 := Lib.hid (F3.out.step b4)
                    have G4 := Lib.hid (G3.out.step b4)
                    clear c0 c1 c2 z0 d0 d1 d2 y0
                    obtain ⟨z0, c0, c1, c2⟩ := F4.out.bx
                    obtain ⟨y0, d0, d1, d2⟩ := G4.out.bx
                    go_wp2_with fail
                    go_at_call 23
                    refine (Down_at _ (Fx.hsr F4) (Fx.hsr G4) hv kv (by omega) (by omega) HR HD).mono ?_
                    rintro e w5 ⟨rfl, b5⟩
                    have F5 := Lib.hid (F4.out.step b5)
                    have G5 := Lib.hid (G4.out.step b5)
                    clear c0 c1 c2 z0 d0 d1 d2 y0
                    obtain ⟨z0, c0, c1, c2⟩ := F5.out.bx
                    obtain ⟨y0, d0, d1, d2⟩ := G5.out.bx
                    go_wp2_with fail
                    go_ret
                    exact ⟨rfl, F5.out.bel⟩
                  · have q3 : decide ((j : Int) > 100) = false := by simp; omega
                    have q4 : decide ((j : Int) < 1) = false := by simp; omega
                    go_enter Try.func7, Try.ntmps7
                    go_wp2_with fail
                    rw [HW0.out]
                    go_at_call 10
                    refine (awake_any _).mono ?_
                    rintro e w1 ⟨rfl, b1⟩
                    have F1 := Lib.hid (F0.out.step b1)
                    have G1 := Lib.hid (G0.out.step b1)
                    clear c0 c1 c2 z0 d0 d1 d2 y0
                    obtain ⟨z0, c0, c1, c2⟩ := F1.out.bx
                    obtain ⟨y0, d0, d1, d2⟩ := G1.out.bx
                    go_wp2_with fail
                    go_at_call 11
                    refine (long_at o p _ hl).mono ?_
                    rintro e w2 ⟨rfl, b2⟩
                    have F2 := Lib.hid (F1.out.step b2)
                    have G2 := Lib.hid (G1.out.step b2)
                    clear c0 c1 c2 z0 d0 d1 d2 y0
                    obtain ⟨z0, c0, c1, c2⟩ := F2.out.bx
                    obtain ⟨y0, d0, d1, d2⟩ := G2.out.bx
                    go_wp2_with fail
                    go_at_call 11
                    refine (long_at r s _ hm).mono ?_
                    rintro e w3 ⟨rfl, b3⟩
                    have F3 := Lib.hid (F2.out.step b3)
                    have G3 := Lib.hid (G2.out.step b3)
                    clear c0 c1 c2 z0 d0 d1 d2 y0
                    obtain ⟨z0, c0, c1, c2⟩ := F3.out.bx
                    obtain ⟨y0, d0, d1, d2⟩ := G3.out.bx
                    go_wp2_with fail
                    go_at_call 38
                    refine (Divides_at _ (Fx.hsr F3) (Fx.hsr G3) HF).mono ?_
                    rintro e w4 ⟨rfl, b4⟩
                    have F4 := Lib.hid (F3.out.step b4)
                    have G4 := Lib.hid (G3.out.step b4)
                    clear c0 c1 c2 z0 d0 d1 d2 y0
                    obtain ⟨z0, c0, c1, c2⟩ := F4.out.bx
                    obtain ⟨y0, d0, d1, d2⟩ := G4.out.bx
                    go_wp2_with fail
                    go_at_call 23
                    refine (Down_at _ (Fx.hsr F4) (Fx.hsr G4) hv kv (by omega) (by omega) HR HD).mono ?_
                    rintro e w5 ⟨rfl, b5⟩
                    have F5 := Lib.hid (F4.out.step b5)
                    have G5 := Lib.hid (G4.out.step b5)
                    clear c0 c1 c2 z0 d0 d1 d2 y0
                    obtain ⟨z0, c0, c1, c2⟩ := F5.out.bx
                    obtain ⟨y0, d0, d1, d2⟩ := G5.out.bx
                    go_wp2_with fail
                    go_at_call 16
                    refine (Span_at _ (Fx.hsr G5) kv (by omega) (by omega) HT).mono ?_
                    rintro e w6 ⟨rfl, b6⟩
                    have F6 := Lib.hid (F5.out.step b6)
                    have G6 := Lib.hid (G5.out.step b6)
                    clear c0 c1 c2 z0 d0 d1 d2 y0
                    obtain ⟨z0, c0, c1, c2⟩ := F6.out.bx
                    obtain ⟨y0, d0, d1, d2⟩ := G6.out.bx
                    go_wp2_with fail
                    obtain ⟨w7, hW⟩ : ∃ W, w6.alloc (.cells #[.int .i64 u, .int .i64 v] 35) = W := ⟨_, rfl⟩
                    have b7 : Below w6.heap.size w6 w7 := hW ▸ bal _ _
                    have Uq7 := Lib.hid (Sb.new w6 u v 35)
                    rw [hW] at Uq7 ⊢
                    clear hW
                    have F7 := Lib.hid (F6.out.step b7)
                    have G7 := Lib.hid (G6.out.step b7)
                    clear c0 c1 c2 z0 d0 d1 d2 y0
                    obtain ⟨z0, c0, c1, c2⟩ := F7.out.bx
                    obtain ⟨y0, d0, d1, d2⟩ := G7.out.bx
                    obtain ⟨tq, eq0, eq1, _, _⟩ := Uq7.out
                    go_at_call 24
                    refine (Covering_at _ (Fx.hsr F7) (Fx.hsr G7) hv kv (by omega) (by omega) HR HC).mono ?_
                    rintro e w8 ⟨rfl, b8⟩
                    have F8 := Lib.hid (F7.out.step b8)
                    have G8 := Lib.hid (G7.out.step b8)
                    have Uq8 := Lib.hid (Uq7.out.below b8)
                    clear c0 c1 c2 z0 d0 d1 d2 y0 tq eq0 eq1
                    obtain ⟨z0, c0, c1, c2⟩ := F8.out.bx
                    obtain ⟨y0, d0, d1, d2⟩ := G8.out.bx
                    obtain ⟨tq, eq0, eq1, _, _⟩ := Uq8.out
                    go_wp2_with fail
                    go_loopw [17, 105] (fun av iv wr => ∃ i : Nat, i ≤ j ∧ iv = .int .i64 i ∧ av = .int .i64 (atj ⟨o, p, l⟩ u n0 i) ∧ Hid (Below w8.heap.size w8 wr)) (fun _ i _ => (j - intOf i).toNat)
                    case atStart => exact ⟨0, by omega, rfl, rfl, Lib.hid (Below.refl _ _)⟩
                    case round =>
                      obtain ⟨i, hi, rfl, rfl, bw⟩ := hrel
                      have FR := Lib.hid (F8.out.step bw.out)
                      have UR := Lib.hid (Uq8.out.below bw.out)
                      clear c0 c1 c2 z0 d0 d1 d2 y0 tq eq0 eq1
                      obtain ⟨z0, c0, c1, c2⟩ := FR.out.bx
                      obtain ⟨tq, eq0, eq1, _, _⟩ := UR.out
                      by_cases hlt : i < j
                      · obtain ⟨a', ha'⟩ : ∃ a', atj ⟨o, p, l⟩ u n0 i = a' := ⟨_, rfl⟩
                        obtain ⟨b', hb'⟩ : ∃ a', atj ⟨o, p, l⟩ u n0 (i + 1) = a' := ⟨_, rfl⟩
                        have HS : Hid (spn ⟨o, p, l⟩ (n0 + (i : Int)) = ((a', b'), 0)) := Lib.hid (by rw [HSP.out i hlt, ha', hb'])
                        have HB := Lib.hid hb'
                        rw [ha']
                        clear ha' hb'
                        go_wp2_with fail
                        go_at_call 16
                        refine (Span_at _ (Fx.hsr FR) hv (by omega) (by omega) HS).mono ?_
                        rintro e w50 ⟨rfl, b50⟩
                        have b51 : Below w50.heap.size w50 (w50.alloc (.cells #[.int .i64 a', .int .i64 b'] 35)) := bal _ _
                        have bw2 := Lib.hid (bel_step (bel_step bw.out b50 (Nat.le_refl _)) b51 (Nat.le_refl _))
                        go_wp2_with fail
                        go_roundw
                        case rel => exact ⟨i + 1, by omega, by go_num, by rw [HB.out], bw2⟩
                        case measure => simp [intOf]; omega
                      · obtain rfl : i = j := by omega
                        rw [HE.out]
                        go_wp2_with fail
                        go_ret
                        exact ⟨rfl, FR.out.bel⟩
              · have hne' : (ef != 0) = true := by simpa using hne
                go_enter Try.func7, Try.ntmps7
                go_wp2_with fail
                rw [HW0.out]
                go_at_call 10
                refine (awake_any _).mono ?_
                rintro e w1 ⟨rfl, b1⟩
                have F1 := Lib.hid (F0.out.step b1)
                have G1 := Lib.hid (G0.out.step b1)
                clear c0 c1 c2 z0 d0 d1 d2 y0
                obtain ⟨z0, c0, c1, c2⟩ := F1.out.bx
                obtain ⟨y0, d0, d1, d2⟩ := G1.out.bx
                go_wp2_with fail
                go_at_call 11
                refine (long_at o p _ hl).mono ?_
                rintro e w2 ⟨rfl, b2⟩
                have F2 := Lib.hid (F1.out.step b2)
                have G2 := Lib.hid (G1.out.step b2)
                clear c0 c1 c2 z0 d0 d1 d2 y0
                obtain ⟨z0, c0, c1, c2⟩ := F2.out.bx
                obtain ⟨y0, d0, d1, d2⟩ := G2.out.bx
                go_wp2_with fail
                go_at_call 11
                refine (long_at r s _ hm).mono ?_
                rintro e w3 ⟨rfl, b3⟩
                have F3 := Lib.hid (F2.out.step b3)
                have G3 := Lib.hid (G2.out.step b3)
                clear c0 c1 c2 z0 d0 d1 d2 y0
                obtain ⟨z0, c0, c1, c2⟩ := F3.out.bx
                obtain ⟨y0, d0, d1, d2⟩ := G3.out.bx
                go_wp2_with fail
                go_at_call 38
                refine (Divides_at _ (Fx.hsr F3) (Fx.hsr G3) HF).mono ?_
                rintro e w4 ⟨rfl, b4⟩
                have F4 := Lib.hid (F3.out.step b4)
                have G4 := Lib.hid (G3.out.step b4)
                clear c0 c1 c2 z0 d0 d1 d2 y0
                obtain ⟨z0, c0, c1, c2⟩ := F4.out.bx
                obtain ⟨y0, d0, d1, d2⟩ := G4.out.bx
                go_wp2_with fail
                go_at_call 23
                refine (Down_at _ (Fx.hsr F4) (Fx.hsr G4) hv kv (by omega) (by omega) HR HD).mono ?_
                rintro e w5 ⟨rfl, b5⟩
                have F5 := Lib.hid (F4.out.step b5)
                have G5 := Lib.hid (G4.out.step b5)
                clear c0 c1 c2 z0 d0 d1 d2 y0
                obtain ⟨z0, c0, c1, c2⟩ := F5.out.bx
                obtain ⟨y0, d0, d1, d2⟩ := G5.out.bx
                go_wp2_with fail
                go_ret
                exact ⟨rfl, F5.out.bel⟩
    · go_enter Try.func7, Try.ntmps7
      go_wp2_with fail
      rw [HW0.out]
      go_at_call 10
      refine (awake_any _).mono ?_
      rintro e w1 ⟨rfl, b1⟩
      have F1 := Lib.hid (F0.out.step b1)
      have G1 := Lib.hid (G0.out.step b1)
      clear c0 c1 c2 z0 d0 d1 d2 y0
      obtain ⟨z0, c0, c1, c2⟩ := F1.out.bx
      obtain ⟨y0, d0, d1, d2⟩ := G1.out.bx
      go_wp2_with fail
      go_at_call 11
      refine (long_at o p _ hl).mono ?_
      rintro e w2 ⟨rfl, b2⟩
      have F2 := Lib.hid (F1.out.step b2)
      have G2 := Lib.hid (G1.out.step b2)
      clear c0 c1 c2 z0 d0 d1 d2 y0
      obtain ⟨z0, c0, c1, c2⟩ := F2.out.bx
      obtain ⟨y0, d0, d1, d2⟩ := G2.out.bx
      go_wp2_with fail
      go_at_call 11
      refine (long_at r s _ hm).mono ?_
      rintro e w3 ⟨rfl, b3⟩
      have F3 := Lib.hid (F2.out.step b3)
      have G3 := Lib.hid (G2.out.step b3)
      clear c0 c1 c2 z0 d0 d1 d2 y0
      obtain ⟨z0, c0, c1, c2⟩ := F3.out.bx
      obtain ⟨y0, d0, d1, d2⟩ := G3.out.bx
      go_wp2_with fail
      go_at_call 10
      refine (awake_any _).mono ?_
      rintro e w4 ⟨rfl, b4⟩
      have F4 := Lib.hid (F3.out.step b4)
      have G4 := Lib.hid (G3.out.step b4)
      clear c0 c1 c2 z0 d0 d1 d2 y0
      obtain ⟨z0, c0, c1, c2⟩ := F4.out.bx
      obtain ⟨y0, d0, d1, d2⟩ := G4.out.bx
      go_wp2_with fail
      go_ret
      exact ⟨rfl, F4.out.bel⟩
  · go_enter Try.func7, Try.ntmps7
    go_wp2_with fail
    rw [HW0.out]
    go_at_call 10
    refine (awake_any _).mono ?_
    rintro e w1 ⟨rfl, b1⟩
    have F1 := Lib.hid (F0.out.step b1)
    have G1 := Lib.hid (G0.out.step b1)
    clear c0 c1 c2 z0 d0 d1 d2 y0
    obtain ⟨z0, c0, c1, c2⟩ := F1.out.bx
    obtain ⟨y0, d0, d1, d2⟩ := G1.out.bx
    go_wp2_with fail
    go_at_call 11
    refine (long_at o p _ hl).mono ?_
    rintro e w2 ⟨rfl, b2⟩
    have F2 := Lib.hid (F1.out.step b2)
    have G2 := Lib.hid (G1.out.step b2)
    clear c0 c1 c2 z0 d0 d1 d2 y0
    obtain ⟨z0, c0, c1, c2⟩ := F2.out.bx
    obtain ⟨y0, d0, d1, d2⟩ := G2.out.bx
    go_wp2_with fail
    go_at_call 10
    refine (awake_any _).mono ?_
    rintro e w3 ⟨rfl, b3⟩
    have F3 := Lib.hid (F2.out.step b3)
    have G3 := Lib.hid (G2.out.step b3)
    clear c0 c1 c2 z0 d0 d1 d2 y0
    obtain ⟨z0, c0, c1, c2⟩ := F3.out.bx
    obtain ⟨y0, d0, d1, d2⟩ := G3.out.bx
    go_wp2_with fail
    go_ret
    exact ⟨rfl, F3.out.bel⟩
end Go.Proofs.Ytainibnjpkbfpaa.Cv
