/- Walk of the law LeapTables. -/
import Derived.Test.YtplgladflhglaaaLeapZ
namespace Go.Proofs.Ytplgladflhglaaa
set_option linter.unusedVariables false
set_option linter.unusedSimpArgs false
open Go.RowKit

theorem Lp.Text_no {sl : Option Addr} {n b o cap : Nat} {A T : Nat → Int} (w : World) (h : Hid (Lp.Tab w sl n b o A T)) (V : Hid (M.okb n A T = false)) :
    Calls Try.prog 28 #[.agg #[.slice sl n cap]] w fun e w' => e = .returned (.tuple #[.string ⟨#[]⟩, .int .i64 1]) ∧ Below w.heap.size w w' := by
  have X0 := Lib.hid (Lp.Bx.start cap h.out)
  go_enter Try.func28, Try.ntmps28
  go_wp2_with (go_at_call 19; refine (Lp.Valid_at _ (Lib.hid X0.out.tab) V).mono ?_; rintro e w1 ⟨rfl, hb1⟩; have X1 := Lib.hid (X0.out.step hb1); have q1 := X1.out.cell; have z1 := X1.out.lt; have bel1 := X1.out.bel)
  go_ret2
  exact ⟨rfl, bel1⟩
theorem Lp.Text_yes {sl : Option Addr} {n b o cap : Nat} {A T : Nat → Int} {S : ByteArray} (w : World) (h : Hid (Lp.Tab w sl n b o A T)) (V : Hid (M.okb n A T = true)) (hS : Hid (strOfNums (Lp.ltx A n) = S)) :
    Calls Try.prog 28 #[.agg #[.slice sl n cap]] w fun e w' => e = .returned (.tuple #[.string S, .int .i64 0]) ∧ Below w.heap.size w w' := hS.out ▸ Lp.Text_tab w h V.out
theorem Lp.rText_at {sl : Option Addr} {n b o cap : Nat} {A T : Nat → Int} {S : ByteArray} (w : World) (h : Hid (Lp.Tab w sl n b o A T)) (V : Hid (M.okb n A T = true)) (hS : Hid (strOfNums (Lp.ltx A n) = S)) :
    Calls Try.prog 29 #[.agg #[.slice sl n cap]] w fun e w' => e = .returned (.string S) ∧ Below w.heap.size w w' := hS.out ▸ Lp.rTabText_any w h (Lib.hid (M.ok_of_b V.out))
theorem Lp.Parse_back {n : Nat} {A T : Nat → Int} {S : ByteArray} (w : World) (V : Hid (M.okb n A T = true)) (hS : Hid (strOfNums (Lp.ltx A n) = S)) :
    Calls Try.prog 20 #[.string S] w fun e w' => ∃ sl' cap' g A' T', e = .returned (.tuple #[.agg #[.slice sl' n cap'], .int .i64 0]) ∧ Below w.heap.size w w' ∧ Lp.Tab w' sl' n g 0 A' T' ∧ (∀ i, i < n → A' i = A i ∧ T' i = T i) := by
  have hk := M.ok_of_b V.out
  obtain ⟨e1, e2, e3⟩ := Lp.lpz_ltx hk
  have sz : S.size = 11 * n := by rw [← hS.out, strOfNums_size, Lp.ltx_len hk (Nat.le_refl _)]
  have hn := hk.n100
  have := Lp.lParse_any S w (by omega)
  rw [← hS.out, e1] at this
  rw [← hS.out]
  refine this.mono ?_
  rintro e w' ⟨sl, cap, g, rfl, hb, ht⟩
  rw [e2] at ht ⊢
  exact ⟨sl, cap, g, _, _, rfl, hb, ht, e3⟩

set_option maxHeartbeats 4000000 in
theorem LeapTables_walk {sl : Option Addr} {n bb o cap : Nat} {A T : Nat → Int} (w : World) (h : Hid (Lp.Tab w sl n bb o A T)) :
    Calls Try.prog 10 #[.agg #[.slice sl n cap]] w fun e w' => e = .returned (.bool true) ∧ Below w.heap.size w w' := by
  have x0 := Lp.Bx.start cap h.out
  have X0 := Lib.hid x0
  clear x0
  by_cases hl : 300 < n
  · have L : Hid (decide (300 < n) = true) := Lib.hid (by simp [hl])
    clear hl
    go_enter Try.func10, Try.ntmps10
    go_wp2_with fail
    refine (Lp.awake_any _).mono ?_; rintro e w1 ⟨rfl, hb1⟩
    have Y1 := Lib.hid (X0.out.step hb1); have q1 := Y1.out.cell; have z1 := Y1.out.lt
    go_wp2_with fail
    refine (Lp.long_at _ (Lib.hid Y1.out.tab) L).mono ?_; rintro e w2 ⟨rfl, hb2⟩
    have Y2 := Lib.hid (Y1.out.step hb2); have q2 := Y2.out.cell; have z2 := Y2.out.lt
    go_wp2_with fail
    refine (Lp.awake_any _).mono ?_; rintro e w3 ⟨rfl, hb3⟩
    have Y3 := Lib.hid (Y2.out.step hb3); have q3 := Y3.out.cell; have z3 := Y3.out.lt
    go_wp2_with fail
    go_ret
    exact ⟨rfl, Y3.out.bel⟩
  · have L : Hid (decide (300 < n) = false) := Lib.hid (by simp; omega)
    have n300 : n ≤ 300 := by omega
    clear hl
    rcases hv : M.okb n A T with _ | _
    · have V := Lib.hid hv
      clear hv
      go_enter Try.func10, Try.ntmps10
      go_wp2_with fail
      refine (Lp.awake_any _).mono ?_; rintro e w1 ⟨rfl, hb1⟩
      have Y1 := Lib.hid (X0.out.step hb1); have q1 := Y1.out.cell; have z1 := Y1.out.lt
      go_wp2_with fail
      refine (Lp.long_at _ (Lib.hid Y1.out.tab) L).mono ?_; rintro e w2 ⟨rfl, hb2⟩
      have Y2 := Lib.hid (Y1.out.step hb2); have q2 := Y2.out.cell; have z2 := Y2.out.lt
      go_wp2_with fail
      refine (Lp.Text_no _ (Lib.hid Y2.out.tab) V).mono ?_; rintro e w3 ⟨rfl, hb3⟩
      have Y3 := Lib.hid (Y2.out.step hb3); have q3 := Y3.out.cell; have z3 := Y3.out.lt
      go_wp2_with fail
      refine (Lp.rValid_at _ (Lib.hid Y3.out.tab) V).mono ?_; rintro e w4 ⟨rfl, hb4⟩
      have Y4 := Lib.hid (Y3.out.step hb4); have q4 := Y4.out.cell; have z4 := Y4.out.lt
      go_wp2_with fail
      refine (Lp.Valid_at _ (Lib.hid Y4.out.tab) V).mono ?_; rintro e w5 ⟨rfl, hb5⟩
      have Y5 := Lib.hid (Y4.out.step hb5); have q5 := Y5.out.cell; have z5 := Y5.out.lt
      go_wp2_with fail
      go_ret
      exact ⟨rfl, Y5.out.bel⟩
    · have V := Lib.hid hv
      obtain ⟨S, hS⟩ : ∃ S, strOfNums (Lp.ltx A n) = S := ⟨_, rfl⟩
      have HS := Lib.hid hS
      clear hv hS
      go_enter Try.func10, Try.ntmps10
      go_wp2_with fail
      refine (Lp.awake_any _).mono ?_; rintro e w1 ⟨rfl, hb1⟩
      have Y1 := Lib.hid (X0.out.step hb1); have q1 := Y1.out.cell; have z1 := Y1.out.lt
      go_wp2_with fail
      refine (Lp.long_at _ (Lib.hid Y1.out.tab) L).mono ?_; rintro e w2 ⟨rfl, hb2⟩
      have Y2 := Lib.hid (Y1.out.step hb2); have q2 := Y2.out.cell; have z2 := Y2.out.lt
      go_wp2_with fail
      refine (Lp.Text_yes _ (Lib.hid Y2.out.tab) V HS).mono ?_; rintro e w3 ⟨rfl, hb3⟩
      have Y3 := Lib.hid (Y2.out.step hb3); have q3 := Y3.out.cell; have z3 := Y3.out.lt
      go_wp2_with fail
      refine (Lp.rValid_at _ (Lib.hid Y3.out.tab) V).mono ?_; rintro e w4 ⟨rfl, hb4⟩
      have Y4 := Lib.hid (Y3.out.step hb4); have q4 := Y4.out.cell; have z4 := Y4.out.lt
      go_wp2_with fail
      refine (Lp.Parse_back _ V HS).mono ?_; rintro e w5 ⟨sl', cap', g, A', T', rfl, hb5, t5, heq⟩
      have Y5 := Lib.hid (Y4.out.step hb5)
      have TT := Lib.hid t5
      have EQ := Lib.hid heq
      clear t5 heq
      have Y5' := Lib.hid (Y5.out.step ((Below.refl w5.heap.size w5).alloc (Nat.le_refl _) (.cells #[.slice sl' n cap'] 24))); have q5 := Y5.out.cell; have z5 := Y5.out.lt
      have z5n : ¬ w.heap.size = w5.heap.size := by omega
      go_wp2_with fail
      refine (Lp.Valid_at _ (Lib.hid Y5'.out.tab) V).mono ?_; rintro e w6 ⟨rfl, hb6⟩
      have Y6 := Lib.hid (Y5'.out.step hb6); have q6 := Y6.out.cell; have z6 := Y6.out.lt
      have c6 : w6.cell? ⟨w5.heap.size, 0, none⟩ = some (.slice sl' n cap') := ((bcell hb6).1 _ 0 (by simp)).trans (by simp [go_sem])
      have TT6 := Lib.hid ((TT.out.alloc _).below hb6)
      have s6 : w5.heap.size < w6.heap.size := by have := hb6.size; simp at this; omega
      go_wp2_with fail
      refine (Lp.rText_at _ (Lib.hid Y6.out.tab) V HS).mono ?_; rintro e w7 ⟨rfl, hb7⟩
      have Y7 := Lib.hid (Y6.out.step hb7); have q7 := Y7.out.cell; have z7 := Y7.out.lt
      have c7 : w7.cell? ⟨w5.heap.size, 0, none⟩ = some (.slice sl' n cap') := ((bcell hb7).1 _ 0 s6).trans c6
      have TT7 := Lib.hid (TT6.out.below hb7)
      go_wp2_with fail
      refine (Lp.Equal_same _ TT7 (Lib.hid Y7.out.tab) (Lib.hid fun i hi => ⟨(EQ.out i hi).1.symm, (EQ.out i hi).2.symm⟩)).mono ?_
      rintro e w8 ⟨rfl, q, rfl⟩
      go_wp2_with fail
      go_ret
      exact ⟨rfl, bdrewN Y7.out.bel⟩

end Go.Proofs.Ytplgladflhglaaa
