/- Walk of the law LeapMinutes. -/
import Derived.Test.YtplgladflhglaaaLeapC4
namespace Go.Proofs.Ytplgladflhglaaa
set_option linter.unusedVariables false
set_option linter.unusedSimpArgs false
open Go.RowKit

set_option maxHeartbeats 4000000 in
theorem LeapMinutes_walk {sl : Option Addr} {n bb o cap : Nat} {A T : Nat → Int} (x : Int) (w : World) (h : Hid (Lp.Tab w sl n bb o A T)) (x1 : -9223372036854775808 ≤ x) (x2 : x ≤ 9223372036854775807) :
    Calls Try.prog 8 #[.agg #[.slice sl n cap], .int .i64 x] w fun e w' => e = .returned (.bool true) ∧ Below w.heap.size w w' := by
  have x0 := Lp.Bx.start cap h.out
  have X0 := Lib.hid x0
  clear x0
  by_cases hl : 300 < n
  · have L : Hid (decide (300 < n) = true) := Lib.hid (by simp [hl])
    clear hl
    go_enter Try.func8, Try.ntmps8
    go_wp2_with fail
    refine (Lp.awake_any _).mono ?_; rintro e w1 ⟨rfl, hb1⟩
    have Y1 := Lib.hid (X0.out.step hb1); have q1 := Y1.out.cell; have z1 := Y1.out.lt
    go_wp2_with fail
    refine (Lp.long_at _ (Lib.hid Y1.out.tab) L).mono ?_; rintro e w2 ⟨rfl, hb2⟩
    have Y2 := Lib.hid (Y1.out.step hb2); have q2 := Y2.out.cell; have z2 := Y2.out.lt
    go_wp2_with fail
    refine (Lp.awake_any _).mono ?_; rintro e w3 ⟨rfl, hb3⟩
    have Y3 := Lib.hid (Y2.out.step hb3); have q3 := Y3.out.cell; have z3 := Y3.out.lt
    go_wp2_with fail
    go_ret
    exact ⟨rfl, Y3.out.bel⟩
  · have L : Hid (decide (300 < n) = false) := Lib.hid (by simp; omega)
    have n300 : n ≤ 300 := by omega
    clear hl
    rcases hv : M.okb n A T with _ | _
    · have V := Lib.hid hv
      have RM := Lib.hid (Lp.M.mnt_1 (x := x) hv)
      clear hv
      go_enter Try.func8, Try.ntmps8
      go_wp2_with fail
      refine (Lp.awake_any _).mono ?_; rintro e w1 ⟨rfl, hb1⟩
      have Y1 := Lib.hid (X0.out.step hb1); have q1 := Y1.out.cell; have z1 := Y1.out.lt
      go_wp2_with fail
      refine (Lp.long_at _ (Lib.hid Y1.out.tab) L).mono ?_; rintro e w2 ⟨rfl, hb2⟩
      have Y2 := Lib.hid (Y1.out.step hb2); have q2 := Y2.out.cell; have z2 := Y2.out.lt
      go_wp2_with fail
      refine (Lp.Minute_at _ (Lib.hid Y2.out.tab) x1 x2 RM).mono ?_; rintro e w3 ⟨rfl, hb3⟩
      have Y3 := Lib.hid (Y2.out.step hb3); have q3 := Y3.out.cell; have z3 := Y3.out.lt
      go_wp2_with fail
      refine (Lp.Valid_at _ (Lib.hid Y3.out.tab) V).mono ?_; rintro e w4 ⟨rfl, hb4⟩
      have Y4 := Lib.hid (Y3.out.step hb4); have q4 := Y4.out.cell; have z4 := Y4.out.lt
      go_wp2_with fail
      go_ret
      exact ⟨rfl, Y4.out.bel⟩
    · have V := Lib.hid hv
      have K := Lib.hid (M.ok_of_b hv)
      have hn := K.out.n100
      by_cases hx : x < -62135596800 ∨ 253402300800 ≤ x
      · have I := Lib.hid (Lp.inst_f hx)
        have RM := Lib.hid (Lp.M.mnt_2 hv hx)
        clear hv hx
        go_enter Try.func8, Try.ntmps8
        go_wp2_with fail
        refine (Lp.awake_any _).mono ?_; rintro e w1 ⟨rfl, hb1⟩
        have Y1 := Lib.hid (X0.out.step hb1); have q1 := Y1.out.cell; have z1 := Y1.out.lt
        go_wp2_with fail
        refine (Lp.long_at _ (Lib.hid Y1.out.tab) L).mono ?_; rintro e w2 ⟨rfl, hb2⟩
        have Y2 := Lib.hid (Y1.out.step hb2); have q2 := Y2.out.cell; have z2 := Y2.out.lt
        go_wp2_with fail
        refine (Lp.Minute_at _ (Lib.hid Y2.out.tab) x1 x2 RM).mono ?_; rintro e w3 ⟨rfl, hb3⟩
        have Y3 := Lib.hid (Y2.out.step hb3); have q3 := Y3.out.cell; have z3 := Y3.out.lt
        go_wp2_with fail
        refine (Lp.Valid_at _ (Lib.hid Y3.out.tab) V).mono ?_; rintro e w4 ⟨rfl, hb4⟩
        have Y4 := Lib.hid (Y3.out.step hb4); have q4 := Y4.out.cell; have z4 := Y4.out.lt
        go_wp2_with fail
        refine (Lp.rInstant_at _ I).mono ?_; rintro e w5 ⟨rfl, rfl⟩
        go_wp2_with fail
        go_ret
        exact ⟨rfl, Y4.out.bel⟩
      · have ix1 : -62135596800 ≤ x := by omega
        have ix2 : x < 253402300800 := by omega
        have I := Lib.hid (Lp.inst_t ix1 ix2)
        have RM0 := Lp.M.mnt_0 hv ix1 ix2
        obtain ⟨f, hf⟩ : ∃ f, x - (x + 62135596800) % 60 = f := ⟨_, rfl⟩
        have f60 : f % 60 = 0 := by omega
        have f1 : -62135596800 ≤ f := by omega
        have f2 : f < 253402300800 := by omega
        rw [show Lp.M.nxt x = f + 60 by unfold Lp.M.nxt; omega] at RM0
        have hb := M.hit_bd K.out (f + 60) (Nat.le_refl n)
        have gap := M.tot_gap K.out f60 (E := f + 60) rfl (q := 0) rfl
        have DD : f + 60 < 253402300800 → Lp.M.dst n A T f (f + 60) = (60 + M.hit A (f + 60) n, 0) := fun h => by
          rw [Lp.M.dst_0 (Lp.M.atm_0 hv f1 f2) (Lp.M.atm_0 hv (by omega) h)]
          unfold M.hit; rw [gap]; congr 1; omega
        obtain ⟨H, hH⟩ : ∃ H, M.hit A (f + 60) n = H := ⟨_, rfl⟩
        rw [hH] at RM0 hb DD
        have RM := Lib.hid RM0
        have HH := Lib.hid hH
        have HD := Lib.hid DD
        have H1 : 0 ≤ H := by omega
        have H2 : H ≤ 1 := by omega
        have m0 : 0 ≤ x + 62135596800 := by omega
        have m1 : 0 ≤ (x + 62135596800) % 60 := by omega
        have m2 : (x + 62135596800) % 60 ≤ 59 := by omega
        have IE : (f + 60 < 253402300800 ∧ Hid (decide (-62135596800 ≤ f + 60 ∧ f + 60 < 253402300800) = true)) ∨ Hid (decide (-62135596800 ≤ f + 60 ∧ f + 60 < 253402300800) = false) := by
          by_cases h : f + 60 < 253402300800
          · left; exact ⟨h, Lib.hid (Lp.inst_t (by omega) h)⟩
          · right; exact Lib.hid (Lp.inst_f (by omega))
        clear hv hx RM0 hb gap DD hH f60
        go_enter Try.func8, Try.ntmps8
        go_wp2_with fail
        refine (Lp.awake_any _).mono ?_; rintro e w1 ⟨rfl, hb1⟩
        have Y1 := Lib.hid (X0.out.step hb1); have q1 := Y1.out.cell; have z1 := Y1.out.lt
        go_wp2_with fail
        refine (Lp.long_at _ (Lib.hid Y1.out.tab) L).mono ?_; rintro e w2 ⟨rfl, hb2⟩
        have Y2 := Lib.hid (Y1.out.step hb2); have q2 := Y2.out.cell; have z2 := Y2.out.lt
        go_wp2_with fail
        refine (Lp.Minute_at _ (Lib.hid Y2.out.tab) x1 x2 RM).mono ?_; rintro e w3 ⟨rfl, hb3⟩
        have Y3 := Lib.hid (Y2.out.step hb3); have q3 := Y3.out.cell; have z3 := Y3.out.lt
        go_wp2_with fail
        refine (Lp.Valid_at _ (Lib.hid Y3.out.tab) V).mono ?_; rintro e w4 ⟨rfl, hb4⟩
        have Y4 := Lib.hid (Y3.out.step hb4); have q4 := Y4.out.cell; have z4 := Y4.out.lt
        go_wp2_with fail
        refine (Lp.rInstant_at _ I).mono ?_; rintro e w5 ⟨rfl, rfl⟩
        go_wp2
        go_loopw [8, 52] (fun c i wr => Hid (Lp.Bx w wr sl n cap bb o A T) ∧ ∃ j : Nat, j ≤ n ∧ i = .int .i64 j ∧ c = .int .i64 (60 + M.hit A (f + 60) j)) (fun _ i _ => (n - intOf i).toNat)
        case atStart => exact ⟨Y4, 0, by omega, rfl, rfl⟩
        case round =>
          obtain ⟨Z, j, hj, rfl, rfl⟩ := hrel
          have hb := M.hit_bd K.out (f + 60) hj
          have qz := Z.out.cell
          have zz := Z.out.lt
          by_cases hlt : j < n
          · have hs := Z.out.tab.sl (by omega)
            have hbl := Z.out.tab.lt (by omega)
            have cA := Z.out.tab.cA j hlt
            have cT := Z.out.tab.cT j hlt
            obtain ⟨a1, a2⟩ := Z.out.tab.bA j hlt
            obtain ⟨t1, t2⟩ := Z.out.tab.bT j hlt
            subst hs
            by_cases he : A j = f + 60
            · have e1 : (A j == f + 60) = true := by simp [he]
              have h0 : Hid (M.hit A (f + 60) j = 0) := Lib.hid (M.hit_first K.out hlt he)
              have hy : Hid (M.hit A (f + 60) (j + 1) = M.hit A (f + 60) j + 1) := Lib.hid (M.hit_yes he)
              clear he
              go_wp2
              go_roundw
              case rel => exact ⟨Lib.hid (Z.out.step ((Below.refl _ _).alloc (Nat.le_refl _) _)), j + 1, by omega, by go_num, by rw [hy.out, h0.out]; rfl⟩
              case measure => simp [intOf]; omega
            · have e1 : (A j == f + 60) = false := by simp [he]
              have hy : Hid (M.hit A (f + 60) (j + 1) = M.hit A (f + 60) j) := Lib.hid (M.hit_no he)
              clear he
              go_wp2
              go_roundw
              case rel => exact ⟨Lib.hid (Z.out.step ((Below.refl _ _).alloc (Nat.le_refl _) _)), j + 1, by omega, by go_num, by rw [hy.out]⟩
              case measure => simp [intOf]; omega
          · obtain rfl : j = n := by omega
            rw [HH.out] at *
            clear hlt hb
            rcases IE with ⟨ie, IE⟩ | IE
            · have D := Lib.hid (HD.out ie)
              go_wp2_with fail
              refine (Lp.rInstant_at _ IE).mono ?_; rintro e w6 ⟨rfl, rfl⟩
              go_wp2_with fail
              refine (Lp.Distance_at _ (Lib.hid Z.out.tab) (by omega) (by omega) (by omega) (by omega) D).mono ?_; rintro e w7 ⟨rfl, hb7⟩
              go_wp2_with fail
              go_ret
              exact ⟨rfl, (Z.out.step hb7).bel⟩
            · go_wp2_with fail
              refine (Lp.rInstant_at _ IE).mono ?_; rintro e w6 ⟨rfl, rfl⟩
              go_wp2_with fail
              go_ret
              exact ⟨rfl, Z.out.bel⟩

end Go.Proofs.Ytplgladflhglaaa
