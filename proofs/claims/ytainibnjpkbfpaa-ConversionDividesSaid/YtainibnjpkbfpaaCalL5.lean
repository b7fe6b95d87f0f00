/- The law: ConversionFiner. -/
import Derived.Test.YtainibnjpkbfpaaCalL4
namespace Go.Proofs.Ytainibnjpkbfpaa.Cv
set_option linter.unusedVariables false
set_option linter.unusedSimpArgs false
open Go.RowKit Wl

theorem valid_at {A : Option Addr} {n cp : Nat} {o p : Int} {l : List (Int × Int)} {b : Bool} (w : World) (h : Hid (Sr w A n cp l)) (hv : Hid (vld ⟨o, p, l⟩ = b)) :
    Calls Try.prog 43 #[.agg #[.int .i64 o, .int .i64 p, .slice A n cp]] w fun e w' => e = .returned (.bool b) ∧ Below w.heap.size w w' := by
  have := Valid_any o p w h
  rw [hv.out] at this; exact this
/-- What the law asks of a granule that lies in one of the other calendar. -/
theorem finer_facts {a b : Cal} (ha : Vc a) (hb : Vc b) {k i : Int} (hu : upv a b k = (i, true)) : ∃ u v u0 v0 f n, pl b i = (u, v) ∧ spn a k = ((u0, v0), 0) ∧ ins a (pl b i) = (f, n) ∧ plc a b k = (i, k - f + 1, true) ∧ 1 ≤ k - f + 1 ∧ k - f + 1 ≤ n ∧ u ≤ u0 ∧ v0 ≤ v ∧
    -1125899906842624 ≤ f ∧ f ≤ 1125899906842625 ∧ -1125899906842624 ≤ i ∧ i ≤ 1125899906842624 := by
  obtain ⟨u, v, f, n, hp, _, _, _, _, hi, hpl, k1, k2, f1, f2, _, _, i1, i2⟩ := place_facts ha hb hu
  obtain ⟨h1, h2, h3⟩ := upv_t hu
  have nh := (hb.near (pl a k).1).1
  rw [h3, hp] at nh
  rw [hp] at h2
  exact ⟨u, v, (pl a k).1, (pl a k).2, f, n, hp, spn_t (rch_onl h1), by rw [hp]; exact hi, hpl, k1, k2, nh, h2, f1, f2, i1, i2⟩
set_option maxRecDepth 20000 in
set_option maxHeartbeats 12800000 in
theorem ConversionFiner_walk (o p : Int) (A : Option Addr) (n cp : Nat) (l : List (Int × Int)) (r s : Int) (B : Option Addr) (m cq : Nat) (g : List (Int × Int)) (x : Int) (w : World) (h : Hid (Sr w A n cp l)) (k : Hid (Sr w B m cq g)) (x1 : -9223372036854775808 ≤ x) (x2 : x ≤ 9223372036854775807) :
    Calls Try.prog 9 #[.agg #[.int .i64 o, .int .i64 p, .slice A n cp], .agg #[.int .i64 r, .int .i64 s, .slice B m cq], .int .i64 x] w fun e w' => e = .returned (.bool true) ∧ Below w.heap.size w w' := by
  obtain ⟨W0, hW0⟩ : ∃ W0, (w.alloc (.cells #[.int .i64 o, .int .i64 p, .slice A n cp] 24)).alloc (.cells #[.int .i64 r, .int .i64 s, .slice B m cq] 24) = W0 := ⟨_, rfl⟩
  have F0 : Hid (Fx w W0 w.heap.size o p A n cp l) := Lib.hid (by rw [← hW0]; exact (Fx.new _ _ h.out).alloc _)
  have G0 : Hid (Fx w W0 (w.heap.size + 1) r s B m cq g) := Lib.hid (by rw [← hW0]; exact Fx.new2 _ _ _ k.out)
  have HW0 := Lib.hid hW0
  clear hW0
  obtain ⟨z0, c0, c1, c2⟩ := F0.out.bx
  obtain ⟨y0, d0, d1, d2⟩ := G0.out.bx
  rcases hl : lng n with _ | _
  all_goals replace hl := Lib.hid hl
  · rcases hm : lng m with _ | _
    all_goals replace hm := Lib.hid hm
    · by_cases hx1 : x < -1000
      · have q1 : decide (x < -1000) = true := by simpa using hx1
        go_enter Try.func9, Try.ntmps9
        go_wp2_with fail
        rw [HW0.out]
        go_at_call 10
        refine (awake_any _).mono ?_
        rintro e w1 ⟨rfl, b1⟩
        have F1 := Lib.hid (F0.out.step b1)
        have G1 := Lib.hid (G0.out.step b1)
        clear c0 c1 c2 z0 d0 d1 d2 y0
        obtain ⟨z0, c0, c1, c2⟩ := F1.out.bx
        obtain ⟨y0, d0, d1, d2⟩ := G1.out.bx
        go_wp2_with fail
        go_at_call 11
        refine (long_at o p _ hl).mono ?_
        rintro e w2 ⟨rfl, b2⟩
        have F2 := Lib.hid (F1.out.step b2)
        have G2 := Lib.hid (G1.out.step b2)
        clear c0 c1 c2 z0 d0 d1 d2 y0
        obtain ⟨z0, c0, c1, c2⟩ := F2.out.bx
        obtain ⟨y0, d0, d1, d2⟩ := G2.out.bx
        go_wp2_with fail
        go_at_call 11
        refine (long_at r s _ hm).mono ?_
        rintro e w3 ⟨rfl, b3⟩
        have F3 := Lib.hid (F2.out.step b3)
        have G3 := Lib.hid (G2.out.step b3)
        clear c0 c1 c2 z0 d0 d1 d2 y0
        obtain ⟨z0, c0, c1, c2⟩ := F3.out.bx
        obtain ⟨y0, d0, d1, d2⟩ := G3.out.bx
        go_wp2_with fail
        go_at_call 10
        refine (awake_any _).mono ?_
        rintro e w4 ⟨rfl, b4⟩
        have F4 := Lib.hid (F3.out.step b4)
        have G4 := Lib.hid (G3.out.step b4)
        clear c0 c1 c2 z0 d0 d1 d2 y0
        obtain ⟨z0, c0, c1, c2⟩ := F4.out.bx
        obtain ⟨y0, d0, d1, d2⟩ := G4.out.bx
        go_wp2_with fail
        go_ret
        exact ⟨rfl, F4.out.bel⟩
      · have q1 : decide (x < -1000) = false := by simpa using hx1
        by_cases hx2 : x > 1000
        · have q2 : decide (x > 1000) = true := by simpa using hx2
          go_enter Try.func9, Try.ntmps9
          go_wp2_with fail
          rw [HW0.out]
          go_at_call 10
          refine (awake_any _).mono ?_
          rintro e w1 ⟨rfl, b1⟩
          have F1 := Lib.hid (F0.out.step b1)
          have G1 := Lib.hid (G0.out.step b1)
          clear c0 c1 c2 z0 d0 d1 d2 y0
          obtain ⟨z0, c0, c1, c2⟩ := F1.out.bx
          obtain ⟨y0, d0, d1, d2⟩ := G1.out.bx
          go_wp2_with fail
          go_at_call 11
          refine (long_at o p _ hl).mono ?_
          rintro e w2 ⟨rfl, b2⟩
          have F2 := Lib.hid (F1.out.step b2)
          have G2 := Lib.hid (G1.out.step b2)
          clear c0 c1 c2 z0 d0 d1 d2 y0
          obtain ⟨z0, c0, c1, c2⟩ := F2.out.bx
          obtain ⟨y0, d0, d1, d2⟩ := G2.out.bx
          go_wp2_with fail
          go_at_call 11
          refine (long_at r s _ hm).mono ?_
          rintro e w3 ⟨rfl, b3⟩
          have F3 := Lib.hid (F2.out.step b3)
          have G3 := Lib.hid (G2.out.step b3)
          clear c0 c1 c2 z0 d0 d1 d2 y0
          obtain ⟨z0, c0, c1, c2⟩ := F3.out.bx
          obtain ⟨y0, d0, d1, d2⟩ := G3.out.bx
          go_wp2_with fail
          go_at_call 10
          refine (awake_any _).mono ?_
          rintro e w4 ⟨rfl, b4⟩
          have F4 := Lib.hid (F3.out.step b4)
          have G4 := Lib.hid (G3.out.step b4)
          clear c0 c1 c2 z0 d0 d1 d2 y0
          obtain ⟨z0, c0, c1, c2⟩ := F4.out.bx
          obtain ⟨y0, d0, d1, d2⟩ := G4.out.bx
          go_wp2_with fail
          go_ret
          exact ⟨rfl, F4.out.bel⟩
        · have q2 : decide (x > 1000) = false := by simpa using hx2
          rcases hb : (vld ⟨o, p, l⟩ && vld ⟨r, s, g⟩) with _ | _
          · have HF := Lib.hid (fnr_bad hb)
            have hA : ∃ b e, fnr ⟨o, p, l⟩ ⟨o, p, l⟩ = (b, e) ∧ ((vld ⟨o, p, l⟩ = true ∧ b = true ∧ e = 0) ∨ vld ⟨o, p, l⟩ = false) := by
              rcases hv : vld ⟨o, p, l⟩ with _ | _
              · exact ⟨_, _, rfl, .inr rfl⟩
              · exact ⟨_, _, fnr_self hv, .inl ⟨rfl, rfl, rfl⟩⟩
            have hB : ∃ b e, dvr ⟨r, s, g⟩ ⟨r, s, g⟩ = (b, e) ∧ ((vld ⟨r, s, g⟩ = true ∧ b = true ∧ e = 0) ∨ vld ⟨r, s, g⟩ = false) := by
              rcases hv : vld ⟨r, s, g⟩ with _ | _
              · exact ⟨_, _, rfl, .inr rfl⟩
              · exact ⟨_, _, dvr_self hv, .inl ⟨rfl, rfl, rfl⟩⟩
            obtain ⟨ba, ea, hA, hv⟩ := hA
            obtain ⟨bb, eb, hB, kv⟩ := hB
            have HA := Lib.hid hA
            have HB := Lib.hid hB
            clear hA hB hb
            rcases hv with ⟨hv, rfl, rfl⟩ | hv
            all_goals
              replace hv := Lib.hid hv
              rcases kv with ⟨kv, rfl, rfl⟩ | kv
              all_goals
                replace kv := Lib.hid kv
                go_enter Try.func9, Try.ntmps9
                go_wp2_with fail
                rw [HW0.out]
                go_at_call 10
                refine (awake_any _).mono ?_
                rintro e w1 ⟨rfl, b1⟩
                have F1 := Lib.hid (F0.out.step b1)
                have G1 := Lib.hid (G0.out.step b1)
                clear c0 c1 c2 z0 d0 d1 d2 y0
                obtain ⟨z0, c0, c1, c2⟩ := F1.out.bx
                obtain ⟨y0, d0, d1, d2⟩ := G1.out.bx
                go_wp2_with fail
                go_at_call 11
                refine (long_at o p _ hl).mono ?_
                rintro e w2 ⟨rfl, b2⟩
                have F2 := Lib.hid (F1.out.step b2)
                have G2 := Lib.hid (G1.out.step b2)
                clear c0 c1 c2 z0 d0 d1 d2 y0
                obtain ⟨z0, c0, c1, c2⟩ := F2.out.bx
                obtain ⟨y0, d0, d1, d2⟩ := G2.out.bx
                go_wp2_with fail
                go_at_call 11
                refine (long_at r s _ hm).mono ?_
                rintro e w3 ⟨rfl, b3⟩
                have F3 := Lib.hid (F2.out.step b3)
                have G3 := Lib.hid (G2.out.step b3)
                clear c0 c1 c2 z0 d0 d1 d2 y0
                obtain ⟨z0, c0, c1, c2⟩ := F3.out.bx
                obtain ⟨y0, d0, d1, d2⟩ := G3.out.bx
                go_wp2_with fail
                go_at_call 39
                refine (Finer_at _ (Fx.hsr F3) (Fx.hsr F3) HA).mono ?_
                rintro e w4 ⟨rfl, b4⟩
                have F4 := Lib.hid (F3.out.step b4)
                have G4 := Lib.hid (G3.out.step b4)
                clear c0 c1 c2 z0 d0 d1 d2 y0
                obtain ⟨z0, c0, c1, c2⟩ := F4.out.bx
                obtain ⟨y0, d0, d1, d2⟩ := G4.out.bx
                go_wp2_with fail
                go_at_call 38
                refine (Divides_at _ (Fx.hsr G4) (Fx.hsr G4) HB).mono ?_
                rintro e w5 ⟨rfl, b5⟩
                have F5 := Lib.hid (F4.out.step b5)
                have G5 := Lib.hid (G4.out.step b5)
                clear c0 c1 c2 z0 d0 d1 d2 y0
                obtain ⟨z0, c0, c1, c2⟩ := F5.out.bx
                obtain ⟨y0, d0, d1, d2⟩ := G5.out.bx
                go_wp2_with fail
                go_at_call 43
                refine (valid_at _ (Fx.hsr F5) hv).mono ?_
                rintro e w6 ⟨rfl, b6⟩
                have F6 := Lib.hid (F5.out.step b6)
                have G6 := Lib.hid (G5.out.step b6)
                clear c0 c1 c2 z0 d0 d1 d2 y0
                obtain ⟨z0, c0, c1, c2⟩ := F6.out.bx
                obtain ⟨y0, d0, d1, d2⟩ := G6.out.bx
                go_wp2_with fail
                go_at_call 43
                refine (valid_at _ (Fx.hsr G6) kv).mono ?_
                rintro e w7 ⟨rfl, b7⟩
                have F7 := Lib.hid (F6.out.step b7)
                have G7 := Lib.hid (G6.out.step b7)
                clear c0 c1 c2 z0 d0 d1 d2 y0
                obtain ⟨z0, c0, c1, c2⟩ := F7.out.bx
                obtain ⟨y0, d0, d1, d2⟩ := G7.out.bx
                go_wp2_with fail
                go_at_call 39
                refine (Finer_at _ (Fx.hsr F7) (Fx.hsr G7) HF).mono ?_
                rintro e w8 ⟨rfl, b8⟩
                have F8 := Lib.hid (F7.out.step b8)
                have G8 := Lib.hid (G7.out.step b8)
                clear c0 c1 c2 z0 d0 d1 d2 y0
                obtain ⟨z0, c0, c1, c2⟩ := F8.out.bx
                obtain ⟨y0, d0, d1, d2⟩ := G8.out.bx
                go_wp2_with fail
                go_ret
                exact ⟨rfl, F8.out.bel⟩
          · obtain ⟨hv, kv⟩ := both hb
            have V := hVc hv
            have V2 := hVc kv
            have HA := Lib.hid (fnr_self hv.out)
            have HB := Lib.hid (dvr_self kv.out)
            obtain ⟨⟨bf, ef⟩, hf⟩ : ∃ q, fnr ⟨o, p, l⟩ ⟨r, s, g⟩ = q := ⟨_, rfl⟩
            have HF := Lib.hid hf
            clear hf hb
            by_cases hne : ef = 0
            · subst hne
              rcases bf with _ | _
              · go_enter Try.func9, Try.ntmps9
                go_wp2_with fail
                rw [HW0.out]
                go_at_call 10
                refine (awake_any _).mono ?_
                rintro e w1 ⟨rfl, b1⟩
                have F1 := Lib.hid (F0.out.step b1)
                have G1 := Lib.hid (G0.out.step b1)
                clear c0 c1 c2 z0 d0 d1 d2 y0
                obtain ⟨z0, c0, c1, c2⟩ := F1.out.bx
                obtain ⟨y0, d0, d1, d2⟩ := G1.out.bx
                go_wp2_with fail
                go_at_call 11
                refine (long_at o p _ hl).mono ?_
                rintro e w2 ⟨rfl, b2⟩
                have F2 := Lib.hid (F1.out.step b2)
                have G2 := Lib.hid (G1.out.step b2)
                clear c0 c1 c2 z0 d0 d1 d2 y0
                obtain ⟨z0, c0, c1, c2⟩ := F2.out.bx
                obtain ⟨y0, d0, d1, d2⟩ := G2.out.bx
                go_wp2_with fail
                go_at_call 11
                refine (long_at r s _ hm).mono ?_
                rintro e w3 ⟨rfl, b3⟩
                have F3 := Lib.hid (F2.out.step b3)
                have G3 := Lib.hid (G2.out.step b3)
                clear c0 c1 c2 z0 d0 d1 d2 y0
                obtain ⟨z0, c0, c1, c2⟩ := F3.out.bx
                obtain ⟨y0, d0, d1, d2⟩ := G3.out.bx
                go_wp2_with fail
                go_at_call 39
                refine (Finer_at _ (Fx.hsr F3) (Fx.hsr F3) HA).mono ?_
                rintro e w4 ⟨rfl, b4⟩
                have F4 := Lib.hid (F3.out.step b4)
                have G4 := Lib.hid (G3.out.step b4)
                clear c0 c1 c2 z0 d0 d1 d2 y0
                obtain ⟨z0, c0, c1, c2⟩ := F4.out.bx
                obtain ⟨y0, d0, d1, d2⟩ := G4.out.bx
                go_wp2_with fail
                go_at_call 38
                refine (Divides_at _ (Fx.hsr G4) (Fx.hsr G4) HB).mono ?_
                rintro e w5 ⟨rfl, b5⟩
                have F5 := Lib.hid (F4.out.step b5)
                have G5 := Lib.hid (G4.out.step b5)
                clear c0 c1 c2 z0 d0 d1 d2 y0
                obtain ⟨z0, c0, c1, c2⟩ := F5.out.bx
                obtain ⟨y0, d0, d1, d2⟩ := G5.out.bx
                go_wp2_with fail
                go_at_call 43
                refine (valid_at _ (Fx.hsr F5) hv).mono ?_
                rintro e w6 ⟨rfl, b6⟩
                have F6 := Lib.hid (F5.out.step b6)
                have G6 := Lib.hid (G5.out.step b6)
                clear c0 c1 c2 z0 d0 d1 d2 y0
                obtain ⟨z0, c0, c1, c2⟩ := F6.out.bx
                obtain ⟨y0, d0, d1, d2⟩ := G6.out.bx
                go_wp2_with fail
                go_at_call 43
                refine (valid_at _ (Fx.hsr G6) kv).mono ?_
                rintro e w7 ⟨rfl, b7⟩
                have F7 := Lib.hid (F6.out.step b7)
                have G7 := Lib.hid (G6.out.step b7)
                clear c0 c1 c2 z0 d0 d1 d2 y0
                obtain ⟨z0, c0, c1, c2⟩ := F7.out.bx
                obtain ⟨y0, d0, d1, d2⟩ := G7.out.bx
                go_wp2_with fail
                go_at_call 39
                refine (Finer_at _ (Fx.hsr F7) (Fx.hsr G7) HF).mono ?_
                rintro e w8 ⟨rfl, b8⟩
                have F8 := Lib.hid (F7.out.step b8)
                have G8 := Lib.hid (G7.out.step b8)
                clear c0 c1 c2 z0 d0 d1 d2 y0
                obtain ⟨z0, c0, c1, c2⟩ := F8.out.bx
                obtain ⟨y0, d0, d1, d2⟩ := G8.out.bx
                go_wp2_with fail
                go_ret
                exact ⟨rfl, F8.out.bel⟩
              · obtain ⟨⟨i, b⟩, hu⟩ : ∃ q, upv ⟨o, p, l⟩ ⟨r, s, g⟩ x = q := ⟨_, rfl⟩
                have HU := Lib.hid hu
                rcases b with _ | _
                · obtain rfl := upv_f hu
                  have HPL : Hid (plc ⟨o, p, l⟩ ⟨r, s, g⟩ x = (0, 0, false)) := Lib.hid (by unfold plc; rw [hu]; rfl)
                  obtain ⟨⟨⟨u0, v0⟩, es⟩, hs⟩ : ∃ q, spn ⟨o, p, l⟩ x = q := ⟨_, rfl⟩
                  have HS := Lib.hid hs
                  clear hu hs
                  by_cases hes : es = 0
                  · subst hes
                    go_enter Try.func9, Try.ntmps9
                    go_wp2_with fail
                    rw [HW0.out]
                    go_at_call 10
                    refine (awake_any _).mono ?_
                    rintro e w1 ⟨rfl, b1⟩
                    have F1 := Lib.hid (F0.out.step b1)
                    have G1 := Lib.hid (G0.out.step b1)
                    clear c0 c1 c2 z0 d0 d1 d2 y0
                    obtain ⟨z0, c0, c1, c2⟩ := F1.out.bx
                    obtain ⟨y0, d0, d1, d2⟩ := G1.out.bx
                    go_wp2_with fail
                    go_at_call 11
                    refine (long_at o p _ hl).mono ?_
                    rintro e w2 ⟨rfl, b2⟩
                    have F2 := Lib.hid (F1.out.step b2)
                    have G2 := Lib.hid (G1.out.step b2)
                    clear c0 c1 c2 z0 d0 d1 d2 y0
                    obtain ⟨z0, c0, c1, c2⟩ := F2.out.bx
                    obtain ⟨y0, d0, d1, d2⟩ := G2.out.bx
                    go_wp2_with fail
                    go_at_call 11
                    refine (long_at r s _ hm).mono ?_
                    rintro e w3 ⟨rfl, b3⟩
                    have F3 := Lib.hid (F2.out.step b3)
                    have G3 := Lib.hid (G2.out.step b3)
                    clear c0 c1 c2 z0 d0 d1 d2 y0
                    obtain ⟨z0, c0, c1, c2⟩ := F3.out.bx
                    obtain ⟨y0, d0, d1, d2⟩ := G3.out.bx
                    go_wp2_with fail
                    go_at_call 39
                    refine (Finer_at _ (Fx.hsr F3) (Fx.hsr F3) HA).mono ?_
                    rintro e w4 ⟨rfl, b4⟩
                    have F4 := Lib.hid (F3.out.step b4)
                    have G4 := Lib.hid (G3.out.step b4)
                    clear c0 c1 c2 z0 d0 d1 d2 y0
                    obtain ⟨z0, c0, c1, c2⟩ := F4.out.bx
                    obtain ⟨y0, d0, d1, d2⟩ := G4.out.bx
                    go_wp2_with fail
                    go_at_call 38
                    refine (Divides_at _ (Fx.hsr G4) (Fx.hsr G4) HB).mono ?_
                    rintro e w5 ⟨rfl, b5⟩
                    have F5 := Lib.hid (F4.out.step b5)
                    have G5 := Lib.hid (G4.out.step b5)
                    clear c0 c1 c2 z0 d0 d1 d2 y0
                    obtain ⟨z0, c0, c1, c2⟩ := F5.out.bx
                    obtain ⟨y0, d0, d1, d2⟩ := G5.out.bx
                    go_wp2_with fail
                    go_at_call 43
                    refine (valid_at _ (Fx.hsr F5) hv).mono ?_
                    rintro e w6 ⟨rfl, b6⟩
                    have F6 := Lib.hid (F5.out.step b6)
                    have G6 := Lib.hid (G5.out.step b6)
                    clear c0 c1 c2 z0 d0 d1 d2 y0
                    obtain ⟨z0, c0, c1, c2⟩ := F6.out.bx
                    obtain ⟨y0, d0, d1, d2⟩ := G6.out.bx
                    go_wp2_with fail
                    go_at_call 43
                    refine (valid_at _ (Fx.hsr G6) kv).mono ?_
                    rintro e w7 ⟨rfl, b7⟩
                    have F7 := Lib.hid (F6.out.step b7)
                    have G7 := Lib.hid (G6.out.step b7)
                    clear c0 c1 c2 z0 d0 d1 d2 y0
                    obtain ⟨z0, c0, c1, c2⟩ := F7.out.bx
                    obtain ⟨y0, d0, d1, d2⟩ := G7.out.bx
                    go_wp2_with fail
                    go_at_call 39
                    refine (Finer_at _ (Fx.hsr F7) (Fx.hsr G7) HF).mono ?_
                    rintro e w8 ⟨rfl, b8⟩
                    have F8 := Lib.hid (F7.out.step b8)
                    have G8 := Lib.hid (G7.out.step b8)
                    clear c0 c1 c2 z0 d0 d1 d2 y0
                    obtain ⟨z0, c0, c1, c2⟩ := F8.out.bx
                    obtain ⟨y0, d0, d1, d2⟩ := G8.out.bx
                    go_wp2_with fail
                    go_at_call 22
                    refine (Up_at _ (Fx.hsr F8) (Fx.hsr G8) hv kv (by omega) (by omega) HU).mono ?_
                    rintro e w9 ⟨rfl, b9⟩
                    have F9 := Lib.hid (F8.out.step b9)
                    have G9 := Lib.hid (G8.out.step b9)
                    clear c0 c1 c2 z0 d0 d1 d2 y0
                    obtain ⟨z0, c0, c1, c2⟩ := F9.out.bx
                    obtain ⟨y0, d0, d1, d2⟩ := G9.out.bx
                    go_wp2_with fail
                    go_at_call 25
                    refine (Place_at _ (Fx.hsr F9) (Fx.hsr G9) hv kv (by omega) (by omega) HPL).mono ?_
                    rintro e w10 ⟨rfl, b10⟩
                    have F10 := Lib.hid (F9.out.step b10)
                    have G10 := Lib.hid (G9.out.step b10)
                    clear c0 c1 c2 z0 d0 d1 d2 y0
                    obtain ⟨z0, c0, c1, c2⟩ := F10.out.bx
                    obtain ⟨y0, d0, d1, d2⟩ := G10.out.bx
                    go_wp2_with fail
                    go_at_call 16
                    refine (Span_at _ (Fx.hsr F10) hv (by omega) (by omega) HS).mono ?_
                    rintro e w11 ⟨rfl, b11⟩
                    have F11 := Lib.hid (F10.out.step b11)
                    have G11 := Lib.hid (G10.out.step b11)
                    clear c0 c1 c2 z0 d0 d1 d2 y0
                    obtain ⟨z0, c0, c1, c2⟩ := F11.out.bx
                    obtain ⟨y0, d0, d1, d2⟩ := G11.out.bx
                    go_wp2_with fail
                    go_ret
                    exact ⟨rfl, (F11.out.alloc (.cells #[.int .i64 u0, .int .i64 v0] 35)).bel⟩
                  · have hes' : (es != 0) = true := by simpa using hes
                    clear hes
                    go_enter Try.func9, Try.ntmps9
                    go_wp2_with fail
                    rw [HW0.out]
                    go_at_call 10
                    refine (awake_any _).mono ?_
                    rintro e w1 ⟨rfl, b1⟩
                    have F1 := Lib.hid (F0.out.step b1)
                    have G1 := Lib.hid (G0.out.step b1)
                    clear c0 c1 c2 z0 d0 d1 d2 y0
                    obtain ⟨z0, c0, c1, c2⟩ := F1.out.bx
                    obtain ⟨y0, d0, d1, d2⟩ := G1.out.bx
                    go_wp2_with fail
                    go_at_call 11
                    refine (long_at o p _ hl).mono ?_
                    rintro e w2 ⟨rfl, b2⟩
                    have F2 := Lib.hid (F1.out.step b2)
                    have G2 := Lib.hid (G1.out.step b2)
                    clear c0 c1 c2 z0 d0 d1 d2 y0
                    obtain ⟨z0, c0, c1, c2⟩ := F2.out.bx
                    obtain ⟨y0, d0, d1, d2⟩ := G2.out.bx
                    go_wp2_with fail
                    go_at_call 11
                    refine (long_at r s _ hm).mono ?_
                    rintro e w3 ⟨rfl, b3⟩
                    have F3 := Lib.hid (F2.out.step b3)
                    have G3 := Lib.hid (G2.out.step b3)
                    clear c0 c1 c2 z0 d0 d1 d2 y0
                    obtain ⟨z0, c0, c1, c2⟩ := F3.out.bx
                    obtain ⟨y0, d0, d1, d2⟩ := G3.out.bx
                    go_wp2_with fail
                    go_at_call 39
                    refine (Finer_at _ (Fx.hsr F3) (Fx.hsr F3) HA).mono ?_
                    rintro e w4 ⟨rfl, b4⟩
                    have F4 := Lib.hid (F3.out.step b4)
                    have G4 := Lib.hid (G3.out.step b4)
                    clear c0 c1 c2 z0 d0 d1 d2 y0
                    obtain ⟨z0, c0, c1, c2⟩ := F4.out.bx
                    obtain ⟨y0, d0, d1, d2⟩ := G4.out.bx
                    go_wp2_with fail
                    go_at_call 38
                    refine (Divides_at _ (Fx.hsr G4) (Fx.hsr G4) HB).mono ?_
                    rintro e w5 ⟨rfl, b5⟩
                    have F5 := Lib.hid (F4.out.step b5)
                    have G5 := Lib.hid (G4.out.step b5)
                    clear c0 c1 c2 z0 d0 d1 d2 y0
                    obtain ⟨z0, c0, c1, c2⟩ := F5.out.bx
                    obtain ⟨y0, d0, d1, d2⟩ := G5.out.bx
                    go_wp2_with fail
                    go_at_call 43
                    refine (valid_at _ (Fx.hsr F5) hv).mono ?_
                    rintro e w6 ⟨rfl, b6⟩
                    have F6 := Lib.hid (F5.out.step b6)
                    have G6 := Lib.hid (G5.out.step b6)
                    clear c0 c1 c2 z0 d0 d1 d2 y0
                    obtain ⟨z0, c0, c1, c2⟩ := F6.out.bx
                    obtain ⟨y0, d0, d1, d2⟩ := G6.out.bx
                    go_wp2_with fail
                    go_at_call 43
                    refine (valid_at _ (Fx.hsr G6) kv).mono ?_
                    rintro e w7 ⟨rfl, b7⟩
                    have F7 := Lib.hid (F6.out.step b7)
                    have G7 := Lib.hid (G6.out.step b7)
                    clear c0 c1 c2 z0 d0 d1 d2 y0
                    obtain ⟨z0, c0, c1, c2⟩ := F7.out.bx
                    obtain ⟨y0, d0, d1, d2⟩ := G7.out.bx
                    go_wp2_with fail
                    go_at_call 39
                    refine (Finer_at _ (Fx.hsr F7) (Fx.hsr G7) HF).mono ?_
                    rintro e w8 ⟨rfl, b8⟩
                    have F8 := Lib.hid (F7.out.step b8)
                    have G8 := Lib.hid (G7.out.step b8)
                    clear c0 c1 c2 z0 d0 d1 d2 y0
                    obtain ⟨z0, c0, c1, c2⟩ := F8.out.bx
                    obtain ⟨y0, d0, d1, d2⟩ := G8.out.bx
                    go_wp2_with fail
                    go_at_call 22
                    refine (Up_at _ (Fx.hsr F8) (Fx.hsr G8) hv kv (by omega) (by omega) HU).mono ?_
                    rintro e w9 ⟨rfl, b9⟩
                    have F9 := Lib.hid (F8.out.step b9)
                    have G9 := Lib.hid (G8.out.step b9)
                    clear c0 c1 c2 z0 d0 d1 d2 y0
                    obtain ⟨z0, c0, c1, c2⟩ := F9.out.bx
                    obtain ⟨y0, d0, d1, d2⟩ := G9.out.bx
                    go_wp2_with fail
                    go_at_call 25
                    refine (Place_at _ (Fx.hsr F9) (Fx.hsr G9) hv kv (by omega) (by omega) HPL).mono ?_
                    rintro e w10 ⟨rfl, b10⟩
                    have F10 := Lib.hid (F9.out.step b10)
                    have G10 := Lib.hid (G9.out.step b10)
                    clear c0 c1 c2 z0 d0 d1 d2 y0
                    obtain ⟨z0, c0, c1, c2⟩ := F10.out.bx
                    obtain ⟨y0, d0, d1, d2⟩ := G10.out.bx
                    go_wp2_with fail
                    go_at_call 16
                    refine (Span_at _ (Fx.hsr F10) hv (by omega) (by omega) HS).mono ?_
                    rintro e w11 ⟨rfl, b11⟩
                    have F11 := Lib.hid (F10.out.step b11)
                    have G11 := Lib.hid (G10.out.step b11)
                    clear c0 c1 c2 z0 d0 d1 d2 y0
                    obtain ⟨z0, c0, c1, c2⟩ := F11.out.bx
                    obtain ⟨y0, d0, d1, d2⟩ := G11.out.bx
                    go_wp2_with fail
                    go_ret
                    exact ⟨rfl, (F11.out.alloc (.cells #[.int .i64 u0, .int .i64 v0] 35)).bel⟩
                · obtain ⟨u, v, u0, v0, f, ni, hp, hs, hi, hpl, k1', k2', uu, vv, f1', f2', ia, ib⟩ := finer_facts V.out V2.out hu
                  have HS := Lib.hid hs
                  have HD := Lib.hid hi
                  have HPL := Lib.hid hpl
                  have g2 : decide (x - f + 1 ≥ 1) = true := by simp; omega
                  have g3 : decide (x - f + 1 ≤ ni) = true := by simp; omega
                  have g4 : f + (x - f + 1) - 1 = x := by omega
                  have g5 : decide (u ≤ u0) = true := by simp; omega
                  have g6 : decide (v0 ≤ v) = true := by simp; omega
                  rcases hr : rch ⟨r, s, g⟩ i with _ | _
                  all_goals have HR := Lib.hid hr
                  · clear hu hs hi hpl hp hr
                    go_enter Try.func9, Try.ntmps9
                    go_wp2_with fail
                    rw [HW0.out]
                    go_at_call 10
                    refine (awake_any _).mono ?_
                    rintro e w1 ⟨rfl, b1⟩
                    have F1 := Lib.hid (F0.out.step b1)
                    have G1 := Lib.hid (G0.out.step b1)
                    clear c0 c1 c2 z0 d0 d1 d2 y0
                    obtain ⟨z0, c0, c1, c2⟩ := F1.out.bx
                    obtain ⟨y0, d0, d1, d2⟩ := G1.out.bx
                    go_wp2_with fail
                    go_at_call 11
                    refine (long_at o p _ hl).mono ?_
                    rintro e w2 ⟨rfl, b2⟩
                    have F2 := Lib.hid (F1.out.step b2)
                    have G2 := Lib.hid (G1.out.step b2)
                    clear c0 c1 c2 z0 d0 d1 d2 y0
                    obtain ⟨z0, c0, c1, c2⟩ := F2.out.bx
                    obtain ⟨y0, d0, d1, d2⟩ := G2.out.bx
                    go_wp2_with fail
                    go_at_call 11
                    refine (long_at r s _ hm).mono ?_
                    rintro e w3 ⟨rfl, b3⟩
                    have F3 := Lib.hid (F2.out.step b3)
                    have G3 := Lib.hid (G2.out.step b3)
                    clear c0 c1 c2 z0 d0 d1 d2 y0
                    obtain ⟨z0, c0, c1, c2⟩ := F3.out.bx
                    obtain ⟨y0, d0, d1, d2⟩ := G3.out.bx
                    go_wp2_with fail
                    go_at_call 39
                    refine (Finer_at _ (Fx.hsr F3) (Fx.hsr F3) HA).mono ?_
                    rintro e w4 ⟨rfl, b4⟩
                    have F4 := Lib.hid (F3.out.step b4)
                    have G4 := Lib.hid (G3.out.step b4)
                    clear c0 c1 c2 z0 d0 d1 d2 y0
                    obtain ⟨z0, c0, c1, c2⟩ := F4.out.bx
                    obtain ⟨y0, d0, d1, d2⟩ := G4.out.bx
                    go_wp2_with fail
                    go_at_call 38
                    refine (Divides_at _ (Fx.hsr G4) (Fx.hsr G4) HB).mono ?_
                    rintro e w5 ⟨rfl, b5⟩
                    have F5 := Lib.hid (F4.out.step b5)
                    have G5 := Lib.hid (G4.out.step b5)
                    clear c0 c1 c2 z0 d0 d1 d2 y0
                    obtain ⟨z0, c0, c1, c2⟩ := F5.out.bx
                    obtain ⟨y0, d0, d1, d2⟩ := G5.out.bx
                    go_wp2_with fail
                    go_at_call 43
                    refine (valid_at _ (Fx.hsr F5) hv).mono ?_
                    rintro e w6 ⟨rfl, b6⟩
                    have F6 := Lib.hid (F5.out.step b6)
                    have G6 := Lib.hid (G5.out.step b6)
                    clear c0 c1 c2 z0 d0 d1 d2 y0
                    obtain ⟨z0, c0, c1, c2⟩ := F6.out.bx
                    obtain ⟨y0, d0, d1, d2⟩ := G6.out.bx
                    go_wp2_with fail
                    go_at_call 43
                    refine (valid_at _ (Fx.hsr G6) kv).mono ?_
                    rintro e w7 ⟨rfl, b7⟩
                    have F7 := Lib.hid (F6.out.step b7)
                    have G7 := Lib.hid (G6.out.step b7)
                    clear c0 c1 c2 z0 d0 d1 d2 y0
                    obtain ⟨z0, c0, c1, c2⟩ := F7.out.bx
                    obtain ⟨y0, d0, d1, d2⟩ := G7.out.bx
                    go_wp2_with fail
                    go_at_call 39
                    refine (Finer_at _ (Fx.hsr F7) (Fx.hsr G7) HF).mono ?_
                    rintro e w8 ⟨rfl, b8⟩
                    have F8 := Lib.hid (F7.out.step b8)
                    have G8 := Lib.hid (G7.out.step b8)
                    clear c0 c1 c2 z0 d0 d1 d2 y0
                    obtain ⟨z0, c0, c1, c2⟩ := F8.out.bx
                    obtain ⟨y0, d0, d1, d2⟩ := G8.out.bx
                    go_wp2_with fail
                    go_at_call 22
                    refine (Up_at _ (Fx.hsr F8) (Fx.hsr G8) hv kv (by omega) (by omega) HU).mono ?_
                    rintro e w9 ⟨rfl, b9⟩
                    have F9 := Lib.hid (F8.out.step b9)
                    have G9 := Lib.hid (G8.out.step b9)
                    clear c0 c1 c2 z0 d0 d1 d2 y0
                    obtain ⟨z0, c0, c1, c2⟩ := F9.out.bx
                    obtain ⟨y0, d0, d1, d2⟩ := G9.out.bx
                    go_wp2_with fail
                    go_at_call 25
                    refine (Place_at _ (Fx.hsr F9) (Fx.hsr G9) hv kv (by omega) (by omega) HPL).mono ?_
                    rintro e w10 ⟨rfl, b10⟩
                    have F10 := Lib.hid (F9.out.step b10)
                    have G10 := Lib.hid (G9.out.step b10)
                    clear c0 c1 c2 z0 d0 d1 d2 y0
                    obtain ⟨z0, c0, c1, c2⟩ := F10.out.bx
                    obtain ⟨y0, d0, d1, d2⟩ := G10.out.bx
                    go_wp2_with fail
                    go_at_call 16
                    refine (Span_at _ (Fx.hsr F10) hv (by omega) (by omega) HS).mono ?_
                    rintro e w11 ⟨rfl, b11⟩
                    have F11 := Lib.hid (F10.out.step b11)
                    have G11 := Lib.hid (G10.out.step b11)
                    clear c0 c1 c2 z0 d0 d1 d2 y0
                    obtain ⟨z0, c0, c1, c2⟩ := F11.out.bx
                    obtain ⟨y0, d0, d1, d2⟩ := G11.out.bx
                    go_wp2_with fail
                    obtain ⟨w12, hW⟩ : ∃ W, w11.alloc (.cells #[.int .i64 u0, .int .i64 v0] 35) = W := ⟨_, rfl⟩
                    have b12 : Below w11.heap.size w11 w12 := hW ▸ bal _ _
                    have Uq12 := Lib.hid (Sb.new w11 u0 v0 35)
                    rw [hW] at Uq12 ⊢
                    clear hW
                    have F12 := Lib.hid (F11.out.step b12)
                    have G12 := Lib.hid (G11.out.step b12)
                    clear c0 c1 c2 z0 d0 d1 d2 y0
                    obtain ⟨z0, c0, c1, c2⟩ := F12.out.bx
                    obtain ⟨y0, d0, d1, d2⟩ := G12.out.bx
                    obtain ⟨tq, eq0, eq1, _, _⟩ := Uq12.out
                    go_at_call 23
                    refine (Down_no i _ (Fx.hsr F12) (Fx.hsr G12) hv kv (by omega) (by omega) HR).mono ?_
                    rintro e w13 ⟨rfl, b13⟩
                    have F13 := Lib.hid (F12.out.step b13)
                    have G13 := Lib.hid (G12.out.step b13)
                    have Uq13 := Lib.hid (Uq12.out.below b13)
                    clear c0 c1 c2 z0 d0 d1 d2 y0 tq eq0 eq1
                    obtain ⟨z0, c0, c1, c2⟩ := F13.out.bx
                    obtain ⟨y0, d0, d1, d2⟩ := G13.out.bx
                    obtain ⟨tq, eq0, eq1, _, _⟩ := Uq13.out
                    go_wp2_with fail
                    go_ret
                    exact ⟨rfl, F13.out.bel⟩
                  · have HT : Hid (spn ⟨r, s, g⟩ i = ((u, v), 0)) := Lib.hid (by rw [spn_t (rch_onl hr), hp])
                    clear hu hs hi hpl hp hr
                    go_enter Try.func9, Try.ntmps9
                    go_wp2_with fail
                    rw [HW0.out]
                    go_at_call 10
                    refine (awake_any _).mono ?_
                    rintro e w1 ⟨rfl, b1⟩
                    have F1 := Lib.hid (F0.out.step b1)
                    have G1 := Lib.hid (G0.out.step b1)
                    clear c0 c1 c2 z0 d0 d1 d2 y0
                    obtain ⟨z0, c0, c1, c2⟩ := F1.out.bx
                    obtain ⟨y0, d0, d1, d2⟩ := G1.out.bx
                    go_wp2_with fail
                    go_at_call 11
                    refine (long_at o p _ hl).mono ?_
                    rintro e w2 ⟨rfl, b2⟩
                    have F2 := Lib.hid (F1.out.step b2)
                    have G2 := Lib.hid (G1.out.step b2)
                    clear c0 c1 c2 z0 d0 d1 d2 y0
                    obtain ⟨z0, c0, c1, c2⟩ := F2.out.bx
                    obtain ⟨y0, d0, d1, d2⟩ := G2.out.bx
                    go_wp2_with fail
                    go_at_call 11
                    refine (long_at r s _ hm).mono ?_
                    rintro e w3 ⟨rfl, b3⟩
                    have F3 := Lib.hid (F2.out.step b3)
                    have G3 := Lib.hid (G2.out.step b3)
                    clear c0 c1 c2 z0 d0 d1 d2 y0
                    obtain ⟨z0, c0, c1, c2⟩ := F3.out.bx
                    obtain ⟨y0, d0, d1, d2⟩ := G3.out.bx
                    go_wp2_with fail
                    go_at_call 39
                    refine (Finer_at _ (Fx.hsr F3) (Fx.hsr F3) HA).mono ?_
                    rintro e w4 ⟨rfl, b4⟩
                    have F4 := Lib.hid (F3.out.step b4)
                    have G4 := Lib.hid (G3.out.step b4)
                    clear c0 c1 c2 z0 d0 d1 d2 y0
                    obtain ⟨z0, c0, c1, c2⟩ := F4.out.bx
                    obtain ⟨y0, d0, d1, d2⟩ := G4.out.bx
                    go_wp2_with fail
                    go_at_call 38
                    refine (Divides_at _ (Fx.hsr G4) (Fx.hsr G4) HB).mono ?_
                    rintro e w5 ⟨rfl, b5⟩
                    have F5 := Lib.hid (F4.out.step b5)
                    have G5 := Lib.hid (G4.out.step b5)
                    clear c0 c1 c2 z0 d0 d1 d2 y0
                    obtain ⟨z0, c0, c1, c2⟩ := F5.out.bx
                    obtain ⟨y0, d0, d1, d2⟩ := G5.out.bx
                    go_wp2_with fail
                    go_at_call 43
                    refine (valid_at _ (Fx.hsr F5) hv).mono ?_
                    rintro e w6 ⟨rfl, b6⟩
                    have F6 := Lib.hid (F5.out.step b6)
                    have G6 := Lib.hid (G5.out.step b6)
                    clear c0 c1 c2 z0 d0 d1 d2 y0
                    obtain ⟨z0, c0, c1, c2⟩ := F6.out.bx
                    obtain ⟨y0, d0, d1, d2⟩ := G6.out.bx
                    go_wp2_with fail
                    go_at_call 43
                    refine (valid_at _ (Fx.hsr G6) kv).mono ?_
                    rintro e w7 ⟨rfl, b7⟩
                    have F7 := Lib.hid (F6.out.step b7)
                    have G7 := Lib.hid (G6.out.step b7)
                    clear c0 c1 c2 z0 d0 d1 d2 y0
                    obtain ⟨z0, c0, c1, c2⟩ := F7.out.bx
                    obtain ⟨y0, d0, d1, d2⟩ := G7.out.bx
                    go_wp2_with fail
                    go_at_call 39
                    refine (Finer_at _ (Fx.hsr F7) (Fx.hsr G7) HF).mono ?_
                    rintro e w8 ⟨rfl, b8⟩
                    have F8 := Lib.hid (F7.out.step b8)
                    have G8 := Lib.hid (G7.out.step b8)
                    clear c0 c1 c2 z0 d0 d1 d2 y0
                    obtain ⟨z0, c0, c1, c2⟩ := F8.out.bx
                    obtain ⟨y0, d0, d1, d2⟩ := G8.out.bx
                    go_wp2_with fail
                    go_at_call 22
                    refine (Up_at _ (Fx.hsr F8) (Fx.hsr G8) hv kv (by omega) (by omega) HU).mono ?_
                    rintro e w9 ⟨rfl, b9⟩
                    have F9 := Lib.hid (F8.out.step b9)
                    have G9 := Lib.hid (G8.out.step b9)
                    clear c0 c1 c2 z0 d0 d1 d2 y0
                    obtain ⟨z0, c0, c1, c2⟩ := F9.out.bx
                    obtain ⟨y0, d0, d1, d2⟩ := G9.out.bx
                    go_wp2_with fail
                    go_at_call 25
                    refine (Place_at _ (Fx.hsr F9) (Fx.hsr G9) hv kv (by omega) (by omega) HPL).mono ?_
                    rintro e w10 ⟨rfl, b10⟩
                    have F10 := Lib.hid (F9.out.step b10)
                    have G10 := Lib.hid (G9.out.step b10)
                    clear c0 c1 c2 z0 d0 d1 d2 y0
                    obtain ⟨z0, c0, c1, c2⟩ := F10.out.bx
                    obtain ⟨y0, d0, d1, d2⟩ := G10.out.bx
                    go_wp2_with fail
                    go_at_call 16
                    refine (Span_at _ (Fx.hsr F10) hv (by omega) (by omega) HS).mono ?_
                    rintro e w11 ⟨rfl, b11⟩
                    have F11 := Lib.hid (F10.out.step b11)
                    have G11 := Lib.hid (G10.out.step b11)
                    clear c0 c1 c2 z0 d0 d1 d2 y0
                    obtain ⟨z0, c0, c1, c2⟩ := F11.out.bx
                    obtain ⟨y0, d0, d1, d2⟩ := G11.out.bx
                    go_wp2_with fail
                    obtain ⟨w12, hW⟩ : ∃ W, w11.alloc (.cells #[.int .i64 u0, .int .i64 v0] 35) = W := ⟨_, rfl⟩
                    have b12 : Below w11.heap.size w11 w12 := hW ▸ bal _ _
                    have Uq12 := Lib.hid (Sb.new w11 u0 v0 35)
                    rw [hW] at Uq12 ⊢
                    clear hW
                    have F12 := Lib.hid (F11.out.step b12)
                    have G12 := Lib.hid (G11.out.step b12)
                    clear c0 c1 c2 z0 d0 d1 d2 y0
                    obtain ⟨z0, c0, c1, c2⟩ := F12.out.bx
                    obtain ⟨y0, d0, d1, d2⟩ := G12.out.bx
                    obtain ⟨tq, eq0, eq1, _, _⟩ := Uq12.out
                    go_at_call 23
                    refine (Down_at _ (Fx.hsr F12) (Fx.hsr G12) hv kv (by omega) (by omega) HR HD).mono ?_
                    rintro e w13 ⟨rfl, b13⟩
                    have F13 := Lib.hid (F12.out.step b13)
                    have G13 := Lib.hid (G12.out.step b13)
                    have Uq13 := Lib.hid (Uq12.out.below b13)
                    clear c0 c1 c2 z0 d0 d1 d2 y0 tq eq0 eq1
                    obtain ⟨z0, c0, c1, c2⟩ := F13.out.bx
                    obtain ⟨y0, d0, d1, d2⟩ := G13.out.bx
                    obtain ⟨tq, eq0, eq1, _, _⟩ := Uq13.out
                    go_wp2_with fail
                    go_at_call 16
                    refine (Span_at _ (Fx.hsr G13) kv (by omega) (by omega) HT).mono ?_
                    rintro e w14 ⟨rfl, b14⟩
                    have F14 := Lib.hid (F13.out.step b14)
                    have G14 := Lib.hid (G13.out.step b14)
                    have Uq14 := Lib.hid (Uq13.out.below b14)
                    clear c0 c1 c2 z0 d0 d1 d2 y0 tq eq0 eq1
                    obtain ⟨z0, c0, c1, c2⟩ := F14.out.bx
                    obtain ⟨y0, d0, d1, d2⟩ := G14.out.bx
                    obtain ⟨tq, eq0, eq1, _, _⟩ := Uq14.out
                    go_wp2_with fail
                    go_ret
                    exact ⟨rfl, (F14.out.alloc (.cells #[.int .i64 u, .int .i64 v] 35)).bel⟩
            · have hne' : (ef != 0) = true := by simpa using hne
              go_enter Try.func9, Try.ntmps9
              go_wp2_with fail
              rw [HW0.out]
              go_at_call 10
              refine (awake_any _).mono ?_
              rintro e w1 ⟨rfl, b1⟩
              have F1 := Lib.hid (F0.out.step b1)
              have G1 := Lib.hid (G0.out.step b1)
              clear c0 c1 c2 z0 d0 d1 d2 y0
              obtain ⟨z0, c0, c1, c2⟩ := F1.out.bx
              obtain ⟨y0, d0, d1, d2⟩ := G1.out.bx
              go_wp2_with fail
              go_at_call 11
              refine (long_at o p _ hl).mono ?_
              rintro e w2 ⟨rfl, b2⟩
              have F2 := Lib.hid (F1.out.step b2)
              have G2 := Lib.hid (G1.out.step b2)
              clear c0 c1 c2 z0 d0 d1 d2 y0
              obtain ⟨z0, c0, c1, c2⟩ := F2.out.bx
              obtain ⟨y0, d0, d1, d2⟩ := G2.out.bx
              go_wp2_with fail
              go_at_call 11
              refine (long_at r s _ hm).mono ?_
              rintro e w3 ⟨rfl, b3⟩
              have F3 := Lib.hid (F2.out.step b3)
              have G3 := Lib.hid (G2.out.step b3)
              clear c0 c1 c2 z0 d0 d1 d2 y0
              obtain ⟨z0, c0, c1, c2⟩ := F3.out.bx
              obtain ⟨y0, d0, d1, d2⟩ := G3.out.bx
              go_wp2_with fail
              go_at_call 39
              refine (Finer_at _ (Fx.hsr F3) (Fx.hsr F3) HA).mono ?_
              rintro e w4 ⟨rfl, b4⟩
              have F4 := Lib.hid (F3.out.step b4)
              have G4 := Lib.hid (G3.out.step b4)
              clear c0 c1 c2 z0 d0 d1 d2 y0
              obtain ⟨z0, c0, c1, c2⟩ := F4.out.bx
              obtain ⟨y0, d0, d1, d2⟩ := G4.out.bx
              go_wp2_with fail
              go_at_call 38
              refine (Divides_at _ (Fx.hsr G4) (Fx.hsr G4) HB).mono ?_
              rintro e w5 ⟨rfl, b5⟩
              have F5 := Lib.hid (F4.out.step b5)
              have G5 := Lib.hid (G4.out.step b5)
              clear c0 c1 c2 z0 d0 d1 d2 y0
              obtain ⟨z0, c0, c1, c2⟩ := F5.out.bx
              obtain ⟨y0, d0, d1, d2⟩ := G5.out.bx
              go_wp2_with fail
              go_at_call 43
              refine (valid_at _ (Fx.hsr F5) hv).mono ?_
              rintro e w6 ⟨rfl, b6⟩
              have F6 := Lib.hid (F5.out.step b6)
              have G6 := Lib.hid (G5.out.step b6)
              clear c0 c1 c2 z0 d0 d1 d2 y0
              obtain ⟨z0, c0, c1, c2⟩ := F6.out.bx
              obtain ⟨y0, d0, d1, d2⟩ := G6.out.bx
              go_wp2_with fail
              go_at_call 43
              refine (valid_at _ (Fx.hsr G6) kv).mono ?_
              rintro e w7 ⟨rfl, b7⟩
              have F7 := Lib.hid (F6.out.step b7)
              have G7 := Lib.hid (G6.out.step b7)
              clear c0 c1 c2 z0 d0 d1 d2 y0
              obtain ⟨z0, c0, c1, c2⟩ := F7.out.bx
              obtain ⟨y0, d0, d1, d2⟩ := G7.out.bx
              go_wp2_with fail
              go_at_call 39
              refine (Finer_at _ (Fx.hsr F7) (Fx.hsr G7) HF).mono ?_
              rintro e w8 ⟨rfl, b8⟩
              have F8 := Lib.hid (F7.out.step b8)
              have G8 := Lib.hid (G7.out.step b8)
              clear c0 c1 c2 z0 d0 d1 d2 y0
              obtain ⟨z0, c0, c1, c2⟩ := F8.out.bx
              obtain ⟨y0, d0, d1, d2⟩ := G8.out.bx
              go_wp2_with fail
              go_ret
              exact ⟨rfl, F8.out.bel⟩
    · go_enter Try.func9, Try.ntmps9
      go_wp2_with fail
      rw [HW0.out]
      go_at_call 10
      refine (awake_any _).mono ?_
      rintro e w1 ⟨rfl, b1⟩
      have F1 := Lib.hid (F0.out.step b1)
      have G1 := Lib.hid (G0.out.step b1)
      clear c0 c1 c2 z0 d0 d1 d2 y0
      obtain ⟨z0, c0, c1, c2⟩ := F1.out.bx
      obtain ⟨y0, d0, d1, d2⟩ := G1.out.bx
      go_wp2_with fail
      go_at_call 11
      refine (long_at o p _ hl).mono ?_
      rintro e w2 ⟨rfl, b2⟩
      have F2 := Lib.hid (F1.out.step b2)
      have G2 := Lib.hid (G1.out.step b2)
      clear c0 c1 c2 z0 d0 d1 d2 y0
      obtain ⟨z0, c0, c1, c2⟩ := F2.out.bx
      obtain ⟨y0, d0, d1, d2⟩ := G2.out.bx
      go_wp2_with fail
      go_at_call 11
      refine (long_at r s _ hm).mono ?_
      rintro e w3 ⟨rfl, b3⟩
      have F3 := Lib.hid (F2.out.step b3)
      have G3 := Lib.hid (G2.out.step b3)
      clear c0 c1 c2 z0 d0 d1 d2 y0
      obtain ⟨z0, c0, c1, c2⟩ := F3.out.bx
      obtain ⟨y0, d0, d1, d2⟩ := G3.out.bx
      go_wp2_with fail
      go_at_call 10
      refine (awake_any _).mono ?_
      rintro e w4 ⟨rfl, b4⟩
      have F4 := Lib.hid (F3.out.step b4)
      have G4 := Lib.hid (G3.out.step b4)
      clear c0 c1 c2 z0 d0 d1 d2 y0
      obtain ⟨z0, c0, c1, c2⟩ := F4.out.bx
      obtain ⟨y0, d0, d1, d2⟩ := G4.out.bx
      go_wp2_with fail
      go_ret
      exact ⟨rfl, F4.out.bel⟩
  · go_enter Try.func9, Try.ntmps9
    go_wp2_with fail
    rw [HW0.out]
    go_at_call 10
    refine (awake_any _).mono ?_
    rintro e w1 ⟨rfl, b1⟩
    have F1 := Lib.hid (F0.out.step b1)
    have G1 := Lib.hid (G0.out.step b1)
    clear c0 c1 c2 z0 d0 d1 d2 y0
    obtain ⟨z0, c0, c1, c2⟩ := F1.out.bx
    obtain ⟨y0, d0, d1, d2⟩ := G1.out.bx
    go_wp2_with fail
    go_at_call 11
    refine (long_at o p _ hl).mono ?_
    rintro e w2 ⟨rfl, b2⟩
    have F2 := Lib.hid (F1.out.step b2)
    have G2 := Lib.hid (G1.out.step b2)
    clear c0 c1 c2 z0 d0 d1 d2 y0
    obtain ⟨z0, c0, c1, c2⟩ := F2.out.bx
    obtain ⟨y0, d0, d1, d2⟩ := G2.out.bx
    go_wp2_with fail
    go_at_call 10
    refine (awake_any _).mono ?_
    rintro e w3 ⟨rfl, b3⟩
    have F3 := Lib.hid (F2.out.step b3)
    have G3 := Lib.hid (G2.out.step b3)
    clear c0 c1 c2 z0 d0 d1 d2 y0
    obtain ⟨z0, c0, c1, c2⟩ := F3.out.bx
    obtain ⟨y0, d0, d1, d2⟩ := G3.out.bx
    go_wp2_with fail
    go_ret
    exact ⟨rfl, F3.out.bel⟩
end Go.Proofs.Ytainibnjpkbfpaa.Cv
