/- Walks: conversion.Count, Between, Add. -/
import Derived.Test.YtainibnjpkbfpaaCalW15
namespace Go.Proofs.Ytainibnjpkbfpaa.Cv
set_option linter.unusedVariables false
set_option linter.unusedSimpArgs false
open Go.RowKit Wl

theorem ret_ii {a a' b : Int} (h : a' = a) : Ending.returned (.tuple #[.int .i64 a, .int .i64 b]) = .returned (.tuple #[.int .i64 a', .int .i64 b]) := by rw [h]
set_option maxRecDepth 20000 in
set_option maxHeartbeats 3200000 in
theorem Between_bad {A : Option Addr} {n cp : Nat} {o p : Int} {l : List (Int × Int)} (x y : Int) (w : World) (h : Hid (Sr w A n cp l)) (HV : Hid (vld ⟨o, p, l⟩ = false)) :
    Calls Try.prog 18 #[.agg #[.int .i64 o, .int .i64 p, .slice A n cp], .int .i64 x, .int .i64 y] w fun e w' => e = .returned (.tuple #[.int .i64 0, .int .i64 1]) ∧ Below w.heap.size w w' := by
  obtain ⟨W0, hW0⟩ : ∃ W0, w.alloc (.cells #[.int .i64 o, .int .i64 p, .slice A n cp] 24) = W0 := ⟨_, rfl⟩
  have F0 : Hid (Fx w W0 w.heap.size o p A n cp l) := Lib.hid (by rw [← hW0]; exact Fx.new _ _ h.out)
  have HW0 := Lib.hid hW0
  clear hW0
  obtain ⟨z0, c0, c1, c2⟩ := F0.out.bx
  go_enter Try.func18, Try.ntmps18
  go_wp2_with fail
  rw [HW0.out]
  go_at_call 43
  refine (Valid_any o p _ (Fx.hsr F0)).mono ?_
  rintro e w1 ⟨rfl, b1⟩
  rw [HV.out]
  have F1 := Lib.hid (F0.out.step b1)
  go_wp2_with fail
  go_ret2
  exact ⟨rfl, F1.out.bel⟩
set_option maxRecDepth 20000 in
set_option maxHeartbeats 3200000 in
theorem Between_no {A : Option Addr} {n cp : Nat} {o p : Int} {l : List (Int × Int)} (x y : Int) (w : World) (h : Hid (Sr w A n cp l)) (HV : Hid (vld ⟨o, p, l⟩ = true)) (hxy : Hid (¬ (line x = true ∧ line y = true))) :
    Calls Try.prog 18 #[.agg #[.int .i64 o, .int .i64 p, .slice A n cp], .int .i64 x, .int .i64 y] w fun e w' => e = .returned (.tuple #[.int .i64 0, .int .i64 2]) ∧ Below w.heap.size w w' := by
  obtain ⟨W0, hW0⟩ : ∃ W0, w.alloc (.cells #[.int .i64 o, .int .i64 p, .slice A n cp] 24) = W0 := ⟨_, rfl⟩
  have F0 : Hid (Fx w W0 w.heap.size o p A n cp l) := Lib.hid (by rw [← hW0]; exact Fx.new _ _ h.out)
  have HW0 := Lib.hid hW0
  clear hW0
  obtain ⟨z0, c0, c1, c2⟩ := F0.out.bx
  have hn : x < -4398046511104 ∨ y < -4398046511104 ∨ 4398046511104 < x ∨ 4398046511104 < y := by
    have := hxy.out
    unfold line at this
    rw [decide_eq_true_iff, decide_eq_true_iff] at this
    omega
  go_enter Try.func18, Try.ntmps18
  go_wp2_with fail
  rw [HW0.out]
  go_at_call 43
  refine (Valid_any o p _ (Fx.hsr F0)).mono ?_
  rintro e w1 ⟨rfl, b1⟩
  rw [HV.out]
  have F1 := Lib.hid (F0.out.step b1)
  go_wp2_with fail
  all_goals first
    | (exfalso; omega)
    | (go_ret2; exact ⟨rfl, F1.out.bel⟩)
set_option maxRecDepth 20000 in
set_option maxHeartbeats 3200000 in
theorem Between_any {A : Option Addr} {n cp : Nat} {o p : Int} {l : List (Int × Int)} (x y : Int) (w : World) (h : Hid (Sr w A n cp l)) (HV : Hid (vld ⟨o, p, l⟩ = true)) (hx : Hid (line x = true)) (hy : Hid (line y = true)) :
    Calls Try.prog 18 #[.agg #[.int .i64 o, .int .i64 p, .slice A n cp], .int .i64 x, .int .i64 y] w fun e w' => e = .returned (.tuple #[.int .i64 (nr ⟨o, p, l⟩ y - nr ⟨o, p, l⟩ x), .int .i64 0]) ∧ Below w.heap.size w w' := by
  have V := hVc HV
  obtain ⟨W0, hW0⟩ : ∃ W0, w.alloc (.cells #[.int .i64 o, .int .i64 p, .slice A n cp] 24) = W0 := ⟨_, rfl⟩
  have F0 : Hid (Fx w W0 w.heap.size o p A n cp l) := Lib.hid (by rw [← hW0]; exact Fx.new _ _ h.out)
  have HW0 := Lib.hid hW0
  clear hW0
  obtain ⟨z0, c0, c1, c2⟩ := F0.out.bx
  have ⟨x1, x2⟩ := line_p hx.out
  have ⟨y1, y2⟩ := line_p hy.out
  have nx := V.out.nr_bd (x := x) (by omega) (by omega)
  have ny := V.out.nr_bd (x := y) (by omega) (by omega)
  obtain ⟨f, hf⟩ : ∃ f, nr ⟨o, p, l⟩ x = f := ⟨_, rfl⟩
  obtain ⟨g, hg⟩ : ∃ f, nr ⟨o, p, l⟩ y = f := ⟨_, rfl⟩
  rw [hf] at nx
  rw [hg] at ny
  rw [hf, hg]
  have HF := Lib.hid hf
  have HG := Lib.hid hg
  clear hf hg
  go_enter Try.func18, Try.ntmps18
  go_wp2_with fail
  rw [HW0.out]
  go_at_call 43
  refine (Valid_any o p _ (Fx.hsr F0)).mono ?_
  rintro e w1 ⟨rfl, b1⟩
  rw [HV.out]
  have F1 := Lib.hid (F0.out.step b1)
  clear c0 c1 c2 z0
  obtain ⟨z0, c0, c1, c2⟩ := F1.out.bx
  go_wp2_with fail
  all_goals try (exfalso; omega)
  all_goals
    have hS := Abv.cells w1
    refine wp_region_abv (by kernel_rfl) (by kernel_rfl) ?_
    repeat (go_big_quiet_step ((first | (go_at_call_of 55 (Value.int IntKind.i64 x); exact abv_call (near_at _ (Lib.hid (F1.out.sr.below (Abv.bel _))) V (by omega) (by omega) HF)) | (go_at_call_of 55 (Value.int IntKind.i64 y); exact abv_call (near_at _ (Lib.hid (F1.out.sr.below (Abv.bel _))) V (by omega) (by omega) HG)))))
    refine wpQuiet_nil ?_
    rintro w2 hw2
    clear hS
    have F5 := Lib.hid (F1.out.step hw2)
    go_wp2_with fail
    go_ret2
    exact ⟨rfl, F5.out.bel⟩
set_option maxRecDepth 20000 in
set_option maxHeartbeats 3200000 in
theorem Count_bad {A : Option Addr} {n cp : Nat} {o p : Int} {l : List (Int × Int)} (x y : Int) (w : World) (h : Hid (Sr w A n cp l)) (HV : Hid (vld ⟨o, p, l⟩ = false)) :
    Calls Try.prog 17 #[.agg #[.int .i64 o, .int .i64 p, .slice A n cp], .agg #[.int .i64 x, .int .i64 y]] w fun e w' => e = .returned (.tuple #[.int .i64 0, .int .i64 1]) ∧ Below w.heap.size w w' := by
  obtain ⟨W0, hW0⟩ : ∃ W0, (w.alloc (.cells #[.int .i64 o, .int .i64 p, .slice A n cp] 24)).alloc (.cells #[.int .i64 x, .int .i64 y] 35) = W0 := ⟨_, rfl⟩
  have F0 : Hid (Fx w W0 w.heap.size o p A n cp l) := Lib.hid (by rw [← hW0]; exact (Fx.new _ _ h.out).alloc _)
  have S0 : Hid (Sb W0 (w.heap.size + 1) x y) := Lib.hid (by rw [← hW0]; have := Sb.new (w.alloc (.cells #[.int .i64 o, .int .i64 p, .slice A n cp] 24)) x y 35; simpa using this)
  have HW0 := Lib.hid hW0
  clear hW0
  obtain ⟨z0, c0, c1, c2⟩ := F0.out.bx
  obtain ⟨t0, e0, e1, _, _⟩ := S0.out
  go_enter Try.func17, Try.ntmps17
  go_wp2_with fail
  rw [HW0.out]
  go_at_call 43
  refine (Valid_any o p _ (Fx.hsr F0)).mono ?_
  rintro e w1 ⟨rfl, b1⟩
  rw [HV.out]
  have F1 := Lib.hid (F0.out.step b1)
  go_wp2_with fail
  go_ret2
  exact ⟨rfl, F1.out.bel⟩
set_option maxRecDepth 20000 in
set_option maxHeartbeats 3200000 in
theorem Count_no {A : Option Addr} {n cp : Nat} {o p : Int} {l : List (Int × Int)} (x y : Int) (w : World) (h : Hid (Sr w A n cp l)) (HV : Hid (vld ⟨o, p, l⟩ = true)) (HS : Hid (svld (x, y) = false)) :
    Calls Try.prog 17 #[.agg #[.int .i64 o, .int .i64 p, .slice A n cp], .agg #[.int .i64 x, .int .i64 y]] w fun e w' => e = .returned (.tuple #[.int .i64 0, .int .i64 1]) ∧ Below w.heap.size w w' := by
  obtain ⟨W0, hW0⟩ : ∃ W0, (w.alloc (.cells #[.int .i64 o, .int .i64 p, .slice A n cp] 24)).alloc (.cells #[.int .i64 x, .int .i64 y] 35) = W0 := ⟨_, rfl⟩
  have F0 : Hid (Fx w W0 w.heap.size o p A n cp l) := Lib.hid (by rw [← hW0]; exact (Fx.new _ _ h.out).alloc _)
  have S0 : Hid (Sb W0 (w.heap.size + 1) x y) := Lib.hid (by rw [← hW0]; have := Sb.new (w.alloc (.cells #[.int .i64 o, .int .i64 p, .slice A n cp] 24)) x y 35; simpa using this)
  have HW0 := Lib.hid hW0
  clear hW0
  obtain ⟨z0, c0, c1, c2⟩ := F0.out.bx
  obtain ⟨t0, e0, e1, _, _⟩ := S0.out
  go_enter Try.func17, Try.ntmps17
  go_wp2_with fail
  rw [HW0.out]
  go_at_call 43
  refine (Valid_any o p _ (Fx.hsr F0)).mono ?_
  rintro e w1 ⟨rfl, b1⟩
  rw [HV.out]
  have F1 := Lib.hid (F0.out.step b1)
  clear c0 c1 c2 z0 t0 e0 e1
  obtain ⟨z0, c0, c1, c2⟩ := F1.out.bx
  obtain ⟨t0, e0, e1, _, _⟩ := S0.out.below b1
  go_wp2_with fail
  go_at_call 52
  refine (iValid_any x y _).mono ?_
  rintro e w2 ⟨rfl, b2⟩
  rw [HS.out]
  have F2 := Lib.hid (F1.out.step b2)
  have S2 := Lib.hid ((S0.out.below b1).below b2)
  clear c0 c1 c2 z0 t0 e0 e1
  obtain ⟨z0, c0, c1, c2⟩ := F2.out.bx
  obtain ⟨t0, e0, e1, _, _⟩ := S2.out
  go_wp2_with fail
  go_ret2
  exact ⟨rfl, F2.out.bel⟩
set_option maxRecDepth 20000 in
set_option maxHeartbeats 3200000 in
theorem Count_far {A : Option Addr} {n cp : Nat} {o p : Int} {l : List (Int × Int)} (x y : Int) (w : World) (h : Hid (Sr w A n cp l)) (HV : Hid (vld ⟨o, p, l⟩ = true)) (HS : Hid (svld (x, y) = true)) (hf : x < -4398046511103 ∨ 4398046511103 < y) :
    Calls Try.prog 17 #[.agg #[.int .i64 o, .int .i64 p, .slice A n cp], .agg #[.int .i64 x, .int .i64 y]] w fun e w' => e = .returned (.tuple #[.int .i64 0, .int .i64 2]) ∧ Below w.heap.size w w' := by
  obtain ⟨W0, hW0⟩ : ∃ W0, (w.alloc (.cells #[.int .i64 o, .int .i64 p, .slice A n cp] 24)).alloc (.cells #[.int .i64 x, .int .i64 y] 35) = W0 := ⟨_, rfl⟩
  have F0 : Hid (Fx w W0 w.heap.size o p A n cp l) := Lib.hid (by rw [← hW0]; exact (Fx.new _ _ h.out).alloc _)
  have S0 : Hid (Sb W0 (w.heap.size + 1) x y) := Lib.hid (by rw [← hW0]; have := Sb.new (w.alloc (.cells #[.int .i64 o, .int .i64 p, .slice A n cp] 24)) x y 35; simpa using this)
  have HW0 := Lib.hid hW0
  clear hW0
  obtain ⟨z0, c0, c1, c2⟩ := F0.out.bx
  obtain ⟨t0, e0, e1, _, _⟩ := S0.out
  rcases hd : decide (x < -4398046511103) with _ | _
  · have hd2 : decide (y > 4398046511103) = true := by simp at hd ⊢; omega
    clear hf
    go_enter Try.func17, Try.ntmps17
    go_wp2_with fail
    rw [HW0.out]
    go_at_call 43
    refine (Valid_any o p _ (Fx.hsr F0)).mono ?_
    rintro e w1 ⟨rfl, b1⟩
    rw [HV.out]
    have F1 := Lib.hid (F0.out.step b1)
    clear c0 c1 c2 z0 t0 e0 e1
    obtain ⟨z0, c0, c1, c2⟩ := F1.out.bx
    obtain ⟨t0, e0, e1, _, _⟩ := S0.out.below b1
    go_wp2_with fail
    go_at_call 52
    refine (iValid_any x y _).mono ?_
    rintro e w2 ⟨rfl, b2⟩
    rw [HS.out]
    have F2 := Lib.hid (F1.out.step b2)
    have S2 := Lib.hid ((S0.out.below b1).below b2)
    clear c0 c1 c2 z0 t0 e0 e1
    obtain ⟨z0, c0, c1, c2⟩ := F2.out.bx
    obtain ⟨t0, e0, e1, _, _⟩ := S2.out
    go_wp2_with fail
    go_ret2
    exact ⟨rfl, F2.out.bel⟩
  · clear hf
    go_enter Try.func17, Try.ntmps17
    go_wp2_with fail
    rw [HW0.out]
    go_at_call 43
    refine (Valid_any o p _ (Fx.hsr F0)).mono ?_
    rintro e w1 ⟨rfl, b1⟩
    rw [HV.out]
    have F1 := Lib.hid (F0.out.step b1)
    clear c0 c1 c2 z0 t0 e0 e1
    obtain ⟨z0, c0, c1, c2⟩ := F1.out.bx
    obtain ⟨t0, e0, e1, _, _⟩ := S0.out.below b1
    go_wp2_with fail
    go_at_call 52
    refine (iValid_any x y _).mono ?_
    rintro e w2 ⟨rfl, b2⟩
    rw [HS.out]
    have F2 := Lib.hid (F1.out.step b2)
    have S2 := Lib.hid ((S0.out.below b1).below b2)
    clear c0 c1 c2 z0 t0 e0 e1
    obtain ⟨z0, c0, c1, c2⟩ := F2.out.bx
    obtain ⟨t0, e0, e1, _, _⟩ := S2.out
    go_wp2_with fail
    go_ret2
    exact ⟨rfl, F2.out.bel⟩
set_option maxRecDepth 20000 in
set_option maxHeartbeats 3200000 in
theorem Count_any {A : Option Addr} {n cp : Nat} {o p : Int} {l : List (Int × Int)} (x y : Int) (w : World) (h : Hid (Sr w A n cp l)) (HV : Hid (vld ⟨o, p, l⟩ = true)) (HS : Hid (svld (x, y) = true)) (x1 : -4398046511103 ≤ x) (y2 : y ≤ 4398046511103) :
    Calls Try.prog 17 #[.agg #[.int .i64 o, .int .i64 p, .slice A n cp], .agg #[.int .i64 x, .int .i64 y]] w fun e w' => e = .returned (.tuple #[.int .i64 (ins ⟨o, p, l⟩ (x, y)).2, .int .i64 0]) ∧ Below w.heap.size w w' := by
  have V := hVc HV
  obtain ⟨W0, hW0⟩ : ∃ W0, (w.alloc (.cells #[.int .i64 o, .int .i64 p, .slice A n cp] 24)).alloc (.cells #[.int .i64 x, .int .i64 y] 35) = W0 := ⟨_, rfl⟩
  have F0 : Hid (Fx w W0 w.heap.size o p A n cp l) := Lib.hid (by rw [← hW0]; exact (Fx.new _ _ h.out).alloc _)
  have S0 : Hid (Sb W0 (w.heap.size + 1) x y) := Lib.hid (by rw [← hW0]; have := Sb.new (w.alloc (.cells #[.int .i64 o, .int .i64 p, .slice A n cp] 24)) x y 35; simpa using this)
  have HW0 := Lib.hid hW0
  clear hW0
  obtain ⟨z0, c0, c1, c2⟩ := F0.out.bx
  obtain ⟨t0, e0, e1, _, _⟩ := S0.out
  have hxy : x < y := by have := HS.out; unfold svld at this; rw [decide_eq_true_iff] at this; exact this.2.2.2.2
  have na := V.out.nr_bd (x := x - 1) (by omega) (by omega)
  have ea := V.out.en_bd (x := y) (by omega) (by omega)
  obtain ⟨f, hf⟩ : ∃ f, nr ⟨o, p, l⟩ (x - 1) = f := ⟨_, rfl⟩
  obtain ⟨e', he⟩ : ∃ f, en ⟨o, p, l⟩ y = f := ⟨_, rfl⟩
  rw [hf] at na
  rw [he] at ea
  have HF := Lib.hid hf
  have HE := Lib.hid he
  have RR : Hid (ins ⟨o, p, l⟩ (x, y) = cnt2 (f + 1) (e' - (f + 1) + 1)) := Lib.hid (by unfold ins; dsimp only; rw [hf, he])
  clear hf he
  have d1 : decide (x < -4398046511103) = false := by simp; omega
  have d2 : decide (y > 4398046511103) = false := by simp; omega
  by_cases hn : e' - (f + 1) + 1 ≤ 0
  · have R := RR.out.trans (cnt2_no hn)
    replace R := Lib.hid R
    go_enter Try.func17, Try.ntmps17
    go_wp2_with fail
    rw [HW0.out]
    go_at_call 43
    refine (Valid_any o p _ (Fx.hsr F0)).mono ?_
    rintro e w1 ⟨rfl, b1⟩
    rw [HV.out]
    have F1 := Lib.hid (F0.out.step b1)
    clear c0 c1 c2 z0 t0 e0 e1
    obtain ⟨z0, c0, c1, c2⟩ := F1.out.bx
    obtain ⟨t0, e0, e1, _, _⟩ := S0.out.below b1
    go_wp2_with fail
    go_at_call 52
    refine (iValid_any x y _).mono ?_
    rintro e w2 ⟨rfl, b2⟩
    rw [HS.out]
    have F2 := Lib.hid (F1.out.step b2)
    have S2 := Lib.hid ((S0.out.below b1).below b2)
    clear c0 c1 c2 z0 t0 e0 e1
    obtain ⟨z0, c0, c1, c2⟩ := F2.out.bx
    obtain ⟨t0, e0, e1, _, _⟩ := S2.out
    go_wp2_with fail
    have hS := Abv.cells w2
    refine wp_region_abv (by kernel_rfl) (by kernel_rfl) ?_
    repeat (go_big_quiet_step ((first | (go_at_call 53; exact abv_call (ended_at _ (Lib.hid (F2.out.sr.below (Abv.bel _))) V (by omega) (by omega) HE)) | (go_at_call 54; exact abv_call (inside_at _ (Lib.hid (F2.out.sr.below (Abv.bel _))) V (by omega) (by omega) HF)))))
    refine wpQuiet_nil ?_
    rintro w3 hw3
    clear hS
    have F5 := Lib.hid (F2.out.step hw3)
    go_wp2_with fail
    all_goals first
      | (exfalso; omega)
      | (go_ret2; exact ⟨ret_ii ((congrArg Prod.snd R.out).trans (by first | rfl | (dsimp only; omega))), F5.out.bel⟩)
  · have R := RR.out.trans (cnt2_yes hn)
    replace R := Lib.hid R
    go_enter Try.func17, Try.ntmps17
    go_wp2_with fail
    rw [HW0.out]
    go_at_call 43
    refine (Valid_any o p _ (Fx.hsr F0)).mono ?_
    rintro e w1 ⟨rfl, b1⟩
    rw [HV.out]
    have F1 := Lib.hid (F0.out.step b1)
    clear c0 c1 c2 z0 t0 e0 e1
    obtain ⟨z0, c0, c1, c2⟩ := F1.out.bx
    obtain ⟨t0, e0, e1, _, _⟩ := S0.out.below b1
    go_wp2_with fail
    go_at_call 52
    refine (iValid_any x y _).mono ?_
    rintro e w2 ⟨rfl, b2⟩
    rw [HS.out]
    have F2 := Lib.hid (F1.out.step b2)
    have S2 := Lib.hid ((S0.out.below b1).below b2)
    clear c0 c1 c2 z0 t0 e0 e1
    obtain ⟨z0, c0, c1, c2⟩ := F2.out.bx
    obtain ⟨t0, e0, e1, _, _⟩ := S2.out
    go_wp2_with fail
    have hS := Abv.cells w2
    refine wp_region_abv (by kernel_rfl) (by kernel_rfl) ?_
    repeat (go_big_quiet_step ((first | (go_at_call 53; exact abv_call (ended_at _ (Lib.hid (F2.out.sr.below (Abv.bel _))) V (by omega) (by omega) HE)) | (go_at_call 54; exact abv_call (inside_at _ (Lib.hid (F2.out.sr.below (Abv.bel _))) V (by omega) (by omega) HF)))))
    refine wpQuiet_nil ?_
    rintro w3 hw3
    clear hS
    have F5 := Lib.hid (F2.out.step hw3)
    go_wp2_with fail
    all_goals first
      | (exfalso; omega)
      | (go_ret2; exact ⟨ret_ii ((congrArg Prod.snd R.out).trans (by first | rfl | (dsimp only; omega))), F5.out.bel⟩)
theorem fnd_v {c : Cal} {x i : Int} {b : Bool} (h : fnd c x = (i, b)) : (b = true → line x = true ∧ x < (pl c i).2 ∧ nr c x = i) ∧ (b = false → i = 0) := by
  constructor
  · rintro rfl
    have := fnd_t (c := c) (x := x) (by rw [h])
    rw [h] at this
    obtain ⟨a, b, e⟩ := this
    dsimp only at e
    exact ⟨a, e ▸ b, e.symm⟩
  · rintro rfl
    unfold fnd at h
    split at h
    · injection h with _ h; cases h
    · injection h with h _; exact h.symm
theorem gFind_at {A : Option Addr} {n cp : Nat} {o p : Int} {l : List (Int × Int)} {x i : Int} {b : Bool} (w : World) (h : Hid (Sr w A n cp l)) (hv : Hid (vld ⟨o, p, l⟩ = true)) (hf : Hid (fnd ⟨o, p, l⟩ x = (i, b))) :
    Calls Try.prog 15 #[.agg #[.int .i64 o, .int .i64 p, .slice A n cp], .int .i64 x] w fun e w' => e = .returned (.tuple #[.int .i64 i, .bool b]) ∧ Below w.heap.size w w' := by
  have := gFind_any x w h hv
  rw [hf.out] at this
  exact this
theorem adp_1 {c : Cal} {x n : Int} (h : ¬ (line x = true ∧ line n = true)) : adp c x n = (0, 2) := by unfold adp; rw [if_neg h]
theorem adp_2 {c : Cal} {x n i : Int} (h : line x = true ∧ line n = true) (k : fnd c x = (i, false)) : adp c x n = (0, 7) := by
  unfold adp
  rw [if_pos h, if_neg]
  intro hc
  unfold fnd at k
  rw [if_pos ⟨h.1, hc⟩] at k
  injection k with _ k; cases k
theorem adp_3 {c : Cal} {x n i : Int} (h : line x = true ∧ line n = true) (k : fnd c x = (i, true)) (hr : rch c (i + n) = false) : adp c x n = (0, 2) := by
  obtain ⟨_, k2, k3⟩ := (fnd_v k).1 rfl
  unfold adp
  rw [if_pos h, k3, if_pos k2, hr]; rfl
theorem adp_4 {c : Cal} {x n i u v u' v' : Int} (h : line x = true ∧ line n = true) (k : fnd c x = (i, true)) (hr : rch c (i + n) = true) (hp : pl c (i + n) = (u, v)) (hq : pl c i = (u', v')) : adp c x n = (min (u + x - u') (v - 1), 0) := by
  obtain ⟨_, k2, k3⟩ := (fnd_v k).1 rfl
  unfold adp
  rw [if_pos h, k3, if_pos k2, hr, if_pos rfl, hp, hq]
set_option maxRecDepth 20000 in
set_option maxHeartbeats 3200000 in
theorem Add_bad {A : Option Addr} {n cp : Nat} {o p : Int} {l : List (Int × Int)} (x y : Int) (w : World) (h : Hid (Sr w A n cp l)) (HV : Hid (vld ⟨o, p, l⟩ = false)) :
    Calls Try.prog 12 #[.agg #[.int .i64 o, .int .i64 p, .slice A n cp], .int .i64 x, .int .i64 y] w fun e w' => e = .returned (.tuple #[.int .i64 0, .int .i64 1]) ∧ Below w.heap.size w w' := by
  obtain ⟨W0, hW0⟩ : ∃ W0, w.alloc (.cells #[.int .i64 o, .int .i64 p, .slice A n cp] 24) = W0 := ⟨_, rfl⟩
  have F0 : Hid (Fx w W0 w.heap.size o p A n cp l) := Lib.hid (by rw [← hW0]; exact Fx.new _ _ h.out)
  have HW0 := Lib.hid hW0
  clear hW0
  obtain ⟨z0, c0, c1, c2⟩ := F0.out.bx
  go_enter Try.func12, Try.ntmps12
  go_wp2_with fail
  rw [HW0.out]
  go_at_call 43
  refine (Valid_any o p _ (Fx.hsr F0)).mono ?_
  rintro e w1 ⟨rfl, b1⟩
  rw [HV.out]
  have F1 := Lib.hid (F0.out.step b1)
  go_wp2_with fail
  go_ret2
  exact ⟨rfl, F1.out.bel⟩
set_option maxRecDepth 20000 in
set_option maxHeartbeats 3200000 in
theorem Add_any {A : Option Addr} {n cp : Nat} {o p : Int} {l : List (Int × Int)} (x y : Int) (w : World) (h : Hid (Sr w A n cp l)) (HV : Hid (vld ⟨o, p, l⟩ = true)) :
    Calls Try.prog 12 #[.agg #[.int .i64 o, .int .i64 p, .slice A n cp], .int .i64 x, .int .i64 y] w fun e w' => e = .returned (.tuple #[.int .i64 (adp ⟨o, p, l⟩ x y).1, .int .i64 (adp ⟨o, p, l⟩ x y).2]) ∧ Below w.heap.size w w' := by
  have V := hVc HV
  obtain ⟨W0, hW0⟩ : ∃ W0, w.alloc (.cells #[.int .i64 o, .int .i64 p, .slice A n cp] 24) = W0 := ⟨_, rfl⟩
  have F0 : Hid (Fx w W0 w.heap.size o p A n cp l) := Lib.hid (by rw [← hW0]; exact Fx.new _ _ h.out)
  have HW0 := Lib.hid hW0
  clear hW0
  obtain ⟨z0, c0, c1, c2⟩ := F0.out.bx
  by_cases hx1 : x < -4398046511104
  · have R := Lib.hid (adp_1 (c := ⟨o, p, l⟩) (x := x) (n := y) (by unfold line; rw [decide_eq_true_iff, decide_eq_true_iff]; omega))
    have d1 : decide (x < -4398046511104) = true := by simp; omega
    go_enter Try.func12, Try.ntmps12
    go_wp2_with fail
    rw [HW0.out]
    go_at_call 43
    refine (Valid_any o p _ (Fx.hsr F0)).mono ?_
    rintro e w1 ⟨rfl, b1⟩
    rw [HV.out]
    have F1 := Lib.hid (F0.out.step b1)
    go_wp2_with fail
    go_ret2
    exact ⟨ret_int2 (congrArg Prod.fst R.out).symm (congrArg Prod.snd R.out).symm, F1.out.bel⟩
  · have d1 : decide (x < -4398046511104) = false := by simp; omega
    by_cases hx2 : x > 4398046511104
    · have R := Lib.hid (adp_1 (c := ⟨o, p, l⟩) (x := x) (n := y) (by unfold line; rw [decide_eq_true_iff, decide_eq_true_iff]; omega))
      have d2 : decide (x > 4398046511104) = true := by simp; omega
      go_enter Try.func12, Try.ntmps12
      go_wp2_with fail
      rw [HW0.out]
      go_at_call 43
      refine (Valid_any o p _ (Fx.hsr F0)).mono ?_
      rintro e w1 ⟨rfl, b1⟩
      rw [HV.out]
      have F1 := Lib.hid (F0.out.step b1)
      go_wp2_with fail
      go_ret2
      exact ⟨ret_int2 (congrArg Prod.fst R.out).symm (congrArg Prod.snd R.out).symm, F1.out.bel⟩
    · have d2 : decide (x > 4398046511104) = false := by simp; omega
      by_cases hy1 : y < -4398046511104
      · have R := Lib.hid (adp_1 (c := ⟨o, p, l⟩) (x := x) (n := y) (by unfold line; rw [decide_eq_true_iff, decide_eq_true_iff]; omega))
        have d3 : decide (y < -4398046511104) = true := by simp; omega
        go_enter Try.func12, Try.ntmps12
        go_wp2_with fail
        rw [HW0.out]
        go_at_call 43
        refine (Valid_any o p _ (Fx.hsr F0)).mono ?_
        rintro e w1 ⟨rfl, b1⟩
        rw [HV.out]
        have F1 := Lib.hid (F0.out.step b1)
        go_wp2_with fail
        go_ret2
        exact ⟨ret_int2 (congrArg Prod.fst R.out).symm (congrArg Prod.snd R.out).symm, F1.out.bel⟩
      · have d3 : decide (y < -4398046511104) = false := by simp; omega
        by_cases hy2 : y > 4398046511104
        · have R := Lib.hid (adp_1 (c := ⟨o, p, l⟩) (x := x) (n := y) (by unfold line; rw [decide_eq_true_iff, decide_eq_true_iff]; omega))
          have d4 : decide (y > 4398046511104) = true := by simp; omega
          go_enter Try.func12, Try.ntmps12
          go_wp2_with fail
          rw [HW0.out]
          go_at_call 43
          refine (Valid_any o p _ (Fx.hsr F0)).mono ?_
          rintro e w1 ⟨rfl, b1⟩
          rw [HV.out]
          have F1 := Lib.hid (F0.out.step b1)
          go_wp2_with fail
          go_ret2
          exact ⟨ret_int2 (congrArg Prod.fst R.out).symm (congrArg Prod.snd R.out).symm, F1.out.bel⟩
        · have d4 : decide (y > 4398046511104) = false := by simp; omega
          have lx : line x = true := line_i (by omega) (by omega)
          have ly : line y = true := line_i (by omega) (by omega)
          obtain ⟨⟨i, b⟩, hf⟩ : ∃ z, fnd ⟨o, p, l⟩ x = z := ⟨_, rfl⟩
          have HF := Lib.hid hf
          have FV := fnd_v hf
          rcases b with _ | _
          · have R := Lib.hid (adp_2 (n := y) ⟨lx, ly⟩ hf)
            obtain rfl := FV.2 rfl
            clear hf FV
            go_enter Try.func12, Try.ntmps12
            go_wp2_with fail
            rw [HW0.out]
            go_at_call 43
            refine (Valid_any o p _ (Fx.hsr F0)).mono ?_
            rintro e w1 ⟨rfl, b1⟩
            rw [HV.out]
            have F1 := Lib.hid (F0.out.step b1)
            clear c0 c1 c2 z0
            obtain ⟨z0, c0, c1, c2⟩ := F1.out.bx
            go_wp2_with fail
            go_at_call 15
            refine (gFind_at _ (Fx.hsr F1) HV HF).mono ?_
            rintro e w2 ⟨rfl, b2⟩
            have F2 := Lib.hid (F1.out.step b2)
            go_wp2_with fail
            go_ret2
            exact ⟨ret_int2 (congrArg Prod.fst R.out).symm (congrArg Prod.snd R.out).symm, F2.out.bel⟩
          · obtain ⟨f1, f2, f3⟩ := FV.1 rfl
            have B := Lib.hid (V.out.bk_nr (x := x) (by omega) (by omega))
            have nl := V.out.nr_lo x
            have nh := (V.out.near x).1
            rw [f3] at B nl nh
            have ib1 := B.out.k1
            have ib2 := B.out.k2
            have pp : p ≤ 12622780800 := V.out.p2
            obtain ⟨⟨u', v'⟩, huv⟩ : ∃ z, pl ⟨o, p, l⟩ i = z := ⟨_, rfl⟩
            have HP := Lib.hid huv
            have nl1 : x - p < (pl ⟨o, p, l⟩ i).1 := nl
            rw [huv] at nh nl1 f2
            have nh' : u' ≤ x := nh
            have nl' : x - p < u' := nl1
            obtain ⟨⟨⟨u, v⟩, er⟩, hs⟩ : ∃ z, spn ⟨o, p, l⟩ (i + y) = z := ⟨_, rfl⟩
            have HS := Lib.hid hs
            have fl := fld0
            rcases hr : rch ⟨o, p, l⟩ (i + y) with _ | _
            all_goals have HR := Lib.hid hr
            · have R := Lib.hid (adp_3 ⟨lx, ly⟩ hf hr)
              clear hf FV hr nl nl1 nh hs f1 f2 f3 huv
              go_enter Try.func12, Try.ntmps12
              go_wp2_with fail
              rw [HW0.out]
              go_at_call 43
              refine (Valid_any o p _ (Fx.hsr F0)).mono ?_
              rintro e w1 ⟨rfl, b1⟩
              rw [HV.out]
              have F1 := Lib.hid (F0.out.step b1)
              clear c0 c1 c2 z0
              obtain ⟨z0, c0, c1, c2⟩ := F1.out.bx
              go_wp2_with fail
              go_at_call 15
              refine (gFind_at _ (Fx.hsr F1) HV HF).mono ?_
              rintro e w2 ⟨rfl, b2⟩
              have F2 := Lib.hid (F1.out.step b2)
              clear c0 c1 c2 z0
              obtain ⟨z0, c0, c1, c2⟩ := F2.out.bx
              go_wp2_with fail
              go_at_call 44
              refine (reach_at _ (Fx.hsr F2) HV (by omega) (by omega) HS HR).mono ?_
              rintro e w3 ⟨rfl, b3⟩
              have F3 := Lib.hid (F2.out.step b3)
              clear c0 c1 c2 z0
              obtain ⟨z0, c0, c1, c2⟩ := F3.out.bx
              have F4 := Lib.hid (F3.out.alloc (.cells #[.int .i64 u, .int .i64 v] 35))
              go_wp2_with fail
              go_ret2
              exact ⟨ret_int2 (congrArg Prod.fst R.out).symm (congrArg Prod.snd R.out).symm, F4.out.bel⟩
            · have sp := spn_t (rch_onl hr)
              rw [hs] at sp
              injection sp with sp1 sp2
              subst sp2
              have ⟨u1, u2⟩ := rch_p hr
              have ul := V.out.pl_lt (i + y)
              rw [← sp1] at u1 u2 ul
              have u1' : -4398046511103 ≤ u := u1
              have u2' : v ≤ 4398046511103 := u2
              have ul' : u < v := ul
              have R := Lib.hid (adp_4 ⟨lx, ly⟩ hf hr sp1.symm huv)
              clear hf FV hr nl nl1 nh hs f1 f2 f3 huv sp1 u1 u2 ul
              go_enter Try.func12, Try.ntmps12
              go_wp2_with fail
              rw [HW0.out]
              go_at_call 43
              refine (Valid_any o p _ (Fx.hsr F0)).mono ?_
              rintro e w1 ⟨rfl, b1⟩
              rw [HV.out]
              have F1 := Lib.hid (F0.out.step b1)
              clear c0 c1 c2 z0
              obtain ⟨z0, c0, c1, c2⟩ := F1.out.bx
              go_wp2_with fail
              go_at_call 15
              refine (gFind_at _ (Fx.hsr F1) HV HF).mono ?_
              rintro e w2 ⟨rfl, b2⟩
              have F2 := Lib.hid (F1.out.step b2)
              clear c0 c1 c2 z0
              obtain ⟨z0, c0, c1, c2⟩ := F2.out.bx
              go_wp2_with fail
              go_at_call 44
              refine (reach_at _ (Fx.hsr F2) HV (by omega) (by omega) HS HR).mono ?_
              rintro e w3 ⟨rfl, b3⟩
              have F3 := Lib.hid (F2.out.step b3)
              clear c0 c1 c2 z0
              obtain ⟨z0, c0, c1, c2⟩ := F3.out.bx
              go_wp2_with fail
              obtain ⟨W4, hW4⟩ : ∃ W4, w3.alloc (.cells #[.int .i64 u, .int .i64 v] 35) = W4 := ⟨_, rfl⟩
              have b4 : Below w3.heap.size w3 W4 := hW4 ▸ bal _ _
              have U4 := Lib.hid (Sb.new w3 u v 35)
              rw [hW4] at U4
              rw [hW4]
              clear hW4
              have F4 := Lib.hid (F3.out.step b4)
              clear c0 c1 c2 z0
              obtain ⟨z0, c0, c1, c2⟩ := F4.out.bx
              obtain ⟨i0, j0, j1, _, _⟩ := U4.out
              have hS := Abv.cells W4
              refine wp_region_abv (by kernel_rfl) (by kernel_rfl) ?_
              repeat (go_big_quiet_step ((go_at_call 45; exact abv_call (place_at _ (Lib.hid (F4.out.sr.below (Abv.bel _))) V B HP))))
              refine wpQuiet_nil ?_
              rintro w5 hw5
              clear hS
              have F5 := Lib.hid (F4.out.step hw5)
              go_wp2_with fail
              all_goals first
                | (exfalso; omega)
                | (go_ret2; exact ⟨ret_int2 ((congrArg Prod.fst R.out).trans (by first | rfl | (dsimp only; omega))).symm (congrArg Prod.snd R.out).symm, F5.out.bel⟩)
end Go.Proofs.Ytainibnjpkbfpaa.Cv
