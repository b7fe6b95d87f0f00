/- Walk of the law LeapDays. -/
import Derived.Test.YtplgladflhglaaaLeapC4
namespace Go.Proofs.Ytplgladflhglaaa
set_option linter.unusedVariables false
set_option linter.unusedSimpArgs false
open Go.RowKit

theorem dayStep {u v f : Int} {r : Bool} (q : Nat) (w : World) (hq : w.cell? ⟨q, 0, none⟩ = some (.int .i64 f)) (hl : q < w.heap.size) (f1 : -62135596800 ≤ f) (f2 : f ≤ 253402128000) (hv : (u == f + 86400) = r) :
    Calls Try.prog 25 #[.agg #[.int .i64 u, .int .i64 v], .pointer (some ⟨q, 0, none⟩)] w fun e w' => e = .returned (.bool r) ∧ Below w.heap.size w w' := by
  go_enter Try.func25, Try.ntmps25
  go_wp2
  go_ret
  exact ⟨rfl, (Below.refl _ _).alloc (Nat.le_refl _) _⟩

set_option maxHeartbeats 4000000 in
theorem LeapDays_walk {sl : Option Addr} {n bb o cap : Nat} {A T : Nat → Int} (d : Int) (w : World) (h : Hid (Lp.Tab w sl n bb o A T)) (d1 : -9223372036854775808 ≤ d) (d2 : d ≤ 9223372036854775807) :
    Calls Try.prog 7 #[.agg #[.slice sl n cap], .int .i64 d] w fun e w' => e = .returned (.bool true) ∧ Below w.heap.size w w' := by
  have x0 := Lp.Bx.start cap h.out
  have X0 := Lib.hid x0
  clear x0
  by_cases hl : 300 < n
  · have L : Hid (decide (300 < n) = true) := Lib.hid (by simp [hl])
    clear hl
    go_enter Try.func7, Try.ntmps7
    go_wp2_with fail
    refine (Lp.awake_any _).mono ?_; rintro e w1 ⟨rfl, hb1⟩
    have Y1 := Lib.hid (X0.out.step hb1); have q1 := Y1.out.cell; have z1 := Y1.out.lt
    go_wp2_with fail
    refine (Lp.long_at _ (Lib.hid Y1.out.tab) L).mono ?_; rintro e w2 ⟨rfl, hb2⟩
    have Y2 := Lib.hid (Y1.out.step hb2); have q2 := Y2.out.cell; have z2 := Y2.out.lt
    go_wp2_with fail
    refine (Lp.awake_any _).mono ?_; rintro e w3 ⟨rfl, hb3⟩
    have Y3 := Lib.hid (Y2.out.step hb3); have q3 := Y3.out.cell; have z3 := Y3.out.lt
    go_wp2_with fail
    go_ret
    exact ⟨rfl, Y3.out.bel⟩
  · have L : Hid (decide (300 < n) = false) := Lib.hid (by simp; omega)
    have n300 : n ≤ 300 := by omega
    clear hl
    rcases hv : M.okb n A T with _ | _
    · have V := Lib.hid hv
      clear hv
      go_enter Try.func7, Try.ntmps7
      go_wp2_with fail
      refine (Lp.awake_any _).mono ?_; rintro e w1 ⟨rfl, hb1⟩
      have Y1 := Lib.hid (X0.out.step hb1); have q1 := Y1.out.cell; have z1 := Y1.out.lt
      go_wp2_with fail
      refine (Lp.long_at _ (Lib.hid Y1.out.tab) L).mono ?_; rintro e w2 ⟨rfl, hb2⟩
      have Y2 := Lib.hid (Y1.out.step hb2); have q2 := Y2.out.cell; have z2 := Y2.out.lt
      go_wp2_with fail
      refine (Lp.Valid_at _ (Lib.hid Y2.out.tab) V).mono ?_; rintro e w3 ⟨rfl, hb3⟩
      have Y3 := Lib.hid (Y2.out.step hb3); have q3 := Y3.out.cell; have z3 := Y3.out.lt
      go_wp2_with fail
      refine (Lp.awake_any _).mono ?_; rintro e w4 ⟨rfl, hb4⟩
      have Y4 := Lib.hid (Y3.out.step hb4); have q4 := Y4.out.cell; have z4 := Y4.out.lt
      go_wp2_with fail
      go_ret
      exact ⟨rfl, Y4.out.bel⟩
    · have V := Lib.hid hv
      have K := Lib.hid (M.ok_of_b hv)
      have hn := K.out.n100
      by_cases hd : d < -719162 ∨ 2932896 ≤ d
      · have hd' : d < -719162 ∨ (-719162 ≤ d ∧ 2932896 ≤ d) := by omega
        clear hv hd
        rcases hd' with hd | ⟨hd, hd'⟩
        all_goals
          go_enter Try.func7, Try.ntmps7
          go_wp2_with fail
          refine (Lp.awake_any _).mono ?_; rintro e w1 ⟨rfl, hb1⟩
          have Y1 := Lib.hid (X0.out.step hb1); have q1 := Y1.out.cell; have z1 := Y1.out.lt
          go_wp2_with fail
          refine (Lp.long_at _ (Lib.hid Y1.out.tab) L).mono ?_; rintro e w2 ⟨rfl, hb2⟩
          have Y2 := Lib.hid (Y1.out.step hb2); have q2 := Y2.out.cell; have z2 := Y2.out.lt
          go_wp2_with fail
          refine (Lp.Valid_at _ (Lib.hid Y2.out.tab) V).mono ?_; rintro e w3 ⟨rfl, hb3⟩
          have Y3 := Lib.hid (Y2.out.step hb3); have q3 := Y3.out.cell; have z3 := Y3.out.lt
          go_wp2_with fail
          refine (Lp.awake_any _).mono ?_; rintro e w4 ⟨rfl, hb4⟩
          have Y4 := Lib.hid (Y3.out.step hb4); have q4 := Y4.out.cell; have z4 := Y4.out.lt
          go_wp2_with fail
          go_ret
          exact ⟨rfl, Y4.out.bel⟩
      · have dd1 : -719162 ≤ d := by omega
        have dd2 : d < 2932896 := by omega
        obtain ⟨f, hf⟩ : ∃ f, d * 86400 = f := ⟨_, rfl⟩
        have f1 : -62135596800 ≤ f := by omega
        have f2 : f ≤ 253402128000 := by omega
        have gap := M.tot_gap_day K.out (f := f) (E := f + 86400) (by omega) rfl
        have DD : Lp.M.dst n A T f (f + 86400) = (86400 + M.hit A (f + 86400) n, 0) := by
          rw [Lp.M.dst_0 (Lp.M.atm_0 hv f1 (by omega)) (Lp.M.atm_0 hv (by omega) (by omega))]
          unfold M.hit; rw [gap]; congr 1; omega
        have hb := M.hit_bd K.out (f + 86400) (Nat.le_refl n)
        obtain ⟨H, hH⟩ : ∃ H, M.hit A (f + 86400) n = H := ⟨_, rfl⟩
        rw [hH] at DD hb
        have D := Lib.hid DD
        have HH := Lib.hid hH
        have H1 : 0 ≤ H := by omega
        have H2 : H ≤ 1 := by omega
        have V0 : M.okb 0 (fun _ => 0) (fun _ => 0) = true := M.okb_t ⟨by omega, fun i hi => by omega, fun i hi => by omega, fun i hi => by omega, fun i hi => by omega, fun i hi => by omega⟩
        have D0 : Hid (Lp.M.dst 0 (fun _ => 0) (fun _ => 0) f (f + 86400) = (86400, 0)) := Lib.hid (by
          rw [Lp.M.dst_0 (Lp.M.atm_0 V0 f1 (by omega)) (Lp.M.atm_0 V0 (by omega) (by omega))]
          simp only [M.tot]; congr 1; omega)
        have T0 : ∀ w : World, Lp.Tab w none 0 0 0 (fun _ => 0) (fun _ => 0) := fun w => ⟨fun h => by omega, fun h => by omega, fun i h => by omega, fun i h => by omega, fun i h => by omega, fun i h => by omega, by omega⟩
        have HT0 := Lib.hid T0
        clear hv hd gap DD hH hb V0 T0
        go_enter Try.func7, Try.ntmps7
        go_wp2_with fail
        refine (Lp.awake_any _).mono ?_; rintro e w1 ⟨rfl, hb1⟩
        have Y1 := Lib.hid (X0.out.step hb1); have q1 := Y1.out.cell; have z1 := Y1.out.lt
        go_wp2_with fail
        refine (Lp.long_at _ (Lib.hid Y1.out.tab) L).mono ?_; rintro e w2 ⟨rfl, hb2⟩
        have Y2 := Lib.hid (Y1.out.step hb2); have q2 := Y2.out.cell; have z2 := Y2.out.lt
        go_wp2_with fail
        refine (Lp.Valid_at _ (Lib.hid Y2.out.tab) V).mono ?_; rintro e w3 ⟨rfl, hb3⟩
        have Y3 := Lib.hid (Y2.out.step hb3); have q3 := Y3.out.cell; have z3 := Y3.out.lt
        go_wp2_with fail
        have X4 := Lib.hid (Y3.out.step ((Below.refl w3.heap.size w3).alloc (Nat.le_refl _) (.cells #[.int .i64 f] 3)))
        refine (Lp.Distance_at _ (Lib.hid X4.out.tab) (by omega) (by omega) (by omega) (by omega) D).mono ?_; rintro e w4 ⟨rfl, hb4⟩
        have X5 := Lib.hid (X4.out.step hb4)
        have q5 := X5.out.cell
        have z5 := X5.out.lt
        have p5 : w4.cell? ⟨w3.heap.size, 0, none⟩ = some (.int .i64 f) := ((bcell hb4).1 _ 0 (by simp)).trans (by simp [go_sem])
        have y5 : w3.heap.size < w4.heap.size := by have := hb4.size; simp at this; omega
        clear X4 q3 z3
        go_wp2
        go_loopw [8] (fun i wr => Hid (Lp.Bx w wr sl n cap bb o A T) ∧ (wr.cell? ⟨w3.heap.size, 0, none⟩ = some (.int .i64 f) ∧ w3.heap.size < wr.heap.size) ∧ ∃ j : Nat, j ≤ n ∧ i = .int .i64 j ∧ Hid (∀ i, i < j → A i ≠ f + 86400)) (fun i _ => (n - intOf i).toNat)
        case atStart => exact ⟨X5, ⟨p5, y5⟩, 0, by omega, rfl, Lib.hid fun i h => by omega⟩
        case round =>
          obtain ⟨Z, ⟨pz, yz⟩, j, hj, rfl, hno⟩ := hrel
          have qz := Z.out.cell
          have zz := Z.out.lt
          by_cases hlt : j < n
          · have hs := Z.out.tab.sl (by omega)
            have hbl := Z.out.tab.lt (by omega)
            have cA := Z.out.tab.cA j hlt
            have cT := Z.out.tab.cT j hlt
            obtain ⟨a1, a2⟩ := Z.out.tab.bA j hlt
            obtain ⟨t1, t2⟩ := Z.out.tab.bT j hlt
            subst hs
            by_cases he : A j = f + 86400
            · have e1 : (A j == f + 86400) = true := by simp [he]
              have h1 : H = 1 := by rw [← HH.out]; exact M.hit_some K.out hlt he hlt (Nat.le_refl _)
              subst h1
              have jl : decide ((j : Int) < 0) = false := by simp
              clear he
              go_wp2_with fail
              refine (dayStep _ _ pz yz f1 f2 e1).mono ?_; rintro e w6 ⟨rfl, hb6⟩
              have Z2 := Lib.hid (Z.out.step hb6)
              have q6 := Z2.out.cell
              have z6 := Z2.out.lt
              have p6 : w6.cell? ⟨w3.heap.size, 0, none⟩ = some (.int .i64 f) := ((bcell hb6).1 _ 0 yz).trans pz
              have y6 : w3.heap.size < w6.heap.size := Nat.lt_of_lt_of_le yz hb6.size
              go_wp2_with fail
              refine (Lp.Distance_at _ (Lib.hid (HT0.out _)) (by omega) (by omega) (by omega) (by omega) D0).mono ?_; rintro e w7 ⟨rfl, hb7⟩
              go_wp2_with fail
              go_ret
              exact ⟨rfl, (Z2.out.step hb7).bel⟩
            · have e1 : (A j == f + 86400) = false := by simp [he]
              have nx : Hid (∀ i, i < j + 1 → A i ≠ f + 86400) := Lib.hid fun i hi => by
                by_cases e : i = j
                · subst e; exact he
                · exact hno.out i (by omega)
              clear he
              go_wp2_with fail
              refine (dayStep _ _ pz yz f1 f2 e1).mono ?_; rintro e w6 ⟨rfl, hb6⟩
              have Z2 := Lib.hid (Z.out.step hb6)
              have p6 : w6.cell? ⟨w3.heap.size, 0, none⟩ = some (.int .i64 f) := ((bcell hb6).1 _ 0 yz).trans pz
              have y6 : w3.heap.size < w6.heap.size := Nat.lt_of_lt_of_le yz hb6.size
              go_wp2
              go_roundw
              case rel => exact ⟨Z2, ⟨p6, y6⟩, j + 1, by omega, by go_num, nx⟩
              case measure => simp [intOf]; omega
          · obtain rfl : j = n := by omega
            have h0 : H = 0 := by rw [← HH.out]; exact M.hit_none hno.out
            subst h0
            go_wp2_with fail
            refine (Lp.Distance_at _ (Lib.hid (HT0.out _)) (by omega) (by omega) (by omega) (by omega) D0).mono ?_; rintro e w7 ⟨rfl, hb7⟩
            go_wp2_with fail
            go_ret
            exact ⟨rfl, (Z.out.step hb7).bel⟩

end Go.Proofs.Ytplgladflhglaaa
