/- Walks: the reference's Reach, Up, Inside, Covering, Add. -/
import Derived.Test.YtainibnjpkbfpaaCalW9
import Derived.Test.YtainibnjpkbfpaaCalW16
namespace Go.Proofs.Ytainibnjpkbfpaa.Cv
set_option linter.unusedVariables false
set_option linter.unusedSimpArgs false
open Go.RowKit Wl

theorem rNear_at {A : Option Addr} {n cp : Nat} {o p : Int} {l : List (Int × Int)} {x k : Int} (w : World) (h : Hid (Sr w A n cp l)) (hv : Hid (Vc ⟨o, p, l⟩)) (k1 : -35184372088832 ≤ x) (k2 : x ≤ 35184372088832) (hk : Hid (nr ⟨o, p, l⟩ x = k)) :
    Calls Try.prog 21 #[.agg #[.int .i64 o, .int .i64 p, .slice A n cp], .int .i64 x] w fun e w' => e = .returned (.int .i64 k) ∧ Below w.heap.size w w' := by
  have := rNear_any x w h hv k1 k2
  rw [hk.out] at this
  exact this
theorem gz_of {c : Cal} {k u v : Int} (h : grk c k = true) (hp : pl c k = (u, v)) : gz c k = (u, v) := by unfold gz; rw [h, if_pos rfl, hp]
theorem rGran_at {A : Option Addr} {n cp : Nat} {o p : Int} {l : List (Int × Int)} {k u v : Int} (w : World) (h : Hid (Sr w A n cp l)) (hv : Hid (Vc ⟨o, p, l⟩)) (k1 : -9223372036854775808 ≤ k) (k2 : k ≤ 9223372036854775807) (hg : Hid (grk ⟨o, p, l⟩ k = true)) (hp : Hid (pl ⟨o, p, l⟩ k = (u, v))) :
    Calls Try.prog 28 #[.agg #[.int .i64 o, .int .i64 p, .slice A n cp], .int .i64 k] w fun e w' => e = .returned (.tuple #[.agg #[.int .i64 u, .int .i64 v], .bool true]) ∧ Below w.heap.size w w' := by
  have := rGranule_any k w h hv k1 k2
  rw [hg.out, gz_of hg.out hp.out] at this
  exact this
theorem rGran_no {A : Option Addr} {n cp : Nat} {o p : Int} {l : List (Int × Int)} {k : Int} (w : World) (h : Hid (Sr w A n cp l)) (hv : Hid (Vc ⟨o, p, l⟩)) (k1 : -9223372036854775808 ≤ k) (k2 : k ≤ 9223372036854775807) (hg : Hid (grk ⟨o, p, l⟩ k = false)) :
    Calls Try.prog 28 #[.agg #[.int .i64 o, .int .i64 p, .slice A n cp], .int .i64 k] w fun e w' => e = .returned (.tuple #[.agg #[.int .i64 0, .int .i64 0], .bool false]) ∧ Below w.heap.size w w' := by
  have := rGranule_any k w h hv k1 k2
  have e : gz ⟨o, p, l⟩ k = (0, 0) := by unfold gz; rw [hg.out]; rfl
  rw [hg.out, e] at this
  exact this
/-- The granule, if it is in reach. -/
def rz (c : Cal) (k : Int) : Int × Int := if rch c k = true then pl c k else (0, 0)
set_option maxRecDepth 20000 in
set_option maxHeartbeats 3200000 in
theorem rReach_any {A : Option Addr} {n cp : Nat} {o p : Int} {l : List (Int × Int)} (k : Int) (w : World) (h : Hid (Sr w A n cp l)) (hv : Hid (Vc ⟨o, p, l⟩)) (k1 : -9223372036854775808 ≤ k) (k2 : k ≤ 9223372036854775807) :
    Calls Try.prog 29 #[.agg #[.int .i64 o, .int .i64 p, .slice A n cp], .int .i64 k] w fun e w' => e = .returned (.tuple #[.agg #[.int .i64 (rz ⟨o, p, l⟩ k).1, .int .i64 (rz ⟨o, p, l⟩ k).2], .bool (rch ⟨o, p, l⟩ k)]) ∧ Below w.heap.size w w' := by
  obtain ⟨W0, hW0⟩ : ∃ W0, (w.alloc (.cells #[.int .i64 o, .int .i64 p, .slice A n cp] 24)).alloc (.cells #[.int .i64 0, .int .i64 0] 35) = W0 := ⟨_, rfl⟩
  have F0 : Hid (Fx w W0 w.heap.size o p A n cp l) := Lib.hid (by rw [← hW0]; exact (Fx.new _ _ h.out).alloc _)
  have S0 : Hid (Sb W0 (w.heap.size + 1) 0 0) := Lib.hid (by rw [← hW0]; have := Sb.new (w.alloc (.cells #[.int .i64 o, .int .i64 p, .slice A n cp] 24)) 0 0 35; simpa using this)
  have HW0 := Lib.hid hW0
  clear hW0
  obtain ⟨z0, c0, c1, c2⟩ := F0.out.bx
  rcases hg : grk ⟨o, p, l⟩ k with _ | _
  all_goals replace hg := Lib.hid hg
  · have R : Hid (rch ⟨o, p, l⟩ k = false ∧ rz ⟨o, p, l⟩ k = (0, 0)) := Lib.hid (by
      have : rch ⟨o, p, l⟩ k = false := by
        rcases hr : rch ⟨o, p, l⟩ k with _ | _
        · rfl
        · have := hv.out.grk_rch hr; rw [hg.out] at this; cases this
      exact ⟨this, by unfold rz; rw [this]; rfl⟩)
    go_enter Try.func29, Try.ntmps29
    go_wp2_with fail
    rw [HW0.out]
    go_at_call 28
    refine (rGran_no _ (Fx.hsr F0) hv k1 k2 hg).mono ?_
    rintro e w1 ⟨rfl, b1⟩
    have F1 := Lib.hid (F0.out.step b1)
    have S1 := Lib.hid (S0.out.below b1)
    obtain ⟨t0, e0, e1, f0, f1⟩ := S1.out
    go_wp2_with fail
    obtain ⟨t0, e0, e1, f0, f1⟩ := (S1.out.set2 0 0).below (bal _ (.cells #[.int .i64 0, .int .i64 0] 35))
    exact bodyPost_ret (v := .tuple #[.agg #[.int .i64 0, .int .i64 0], .bool false]) (by simp [results, Try.results29, go_sem, e0, e1, t0]) rfl ⟨ret_val (by rw [R.out.1, R.out.2]), bel_alloc ((F1.out.bel.setCell (by simp) _).setCell (by simp) _) (Nat.le_refl _) _⟩
  · obtain ⟨⟨u, v⟩, hp⟩ : ∃ z, pl ⟨o, p, l⟩ k = z := ⟨_, rfl⟩
    have HP := Lib.hid hp
    have RR : Hid (rch ⟨o, p, l⟩ k = decide (-4398046511103 ≤ u ∧ v ≤ 4398046511103)) := Lib.hid (by unfold rch; rw [hp])
    clear hp
    by_cases hu : u < -4398046511103
    · have R : Hid (rch ⟨o, p, l⟩ k = false ∧ rz ⟨o, p, l⟩ k = (0, 0)) := Lib.hid (by
        have : rch ⟨o, p, l⟩ k = false := by rw [RR.out]; exact decide_eq_false (by omega)
        exact ⟨this, by unfold rz; rw [this]; rfl⟩)
      have d1 : decide (u < -4398046511103) = true := by simpa using hu
      go_enter Try.func29, Try.ntmps29
      go_wp2_with fail
      rw [HW0.out]
      go_at_call 28
      refine (rGran_at _ (Fx.hsr F0) hv k1 k2 hg HP).mono ?_
      rintro e w1 ⟨rfl, b1⟩
      have F1 := Lib.hid (F0.out.step b1)
      have S1 := Lib.hid (S0.out.below b1)
      obtain ⟨t0, e0, e1, f0, f1⟩ := S1.out
      go_wp2_with fail
      obtain ⟨t0, e0, e1, f0, f1⟩ := (S1.out.set2 0 0).below (bal _ (.cells #[.int .i64 u, .int .i64 v] 35))
      exact bodyPost_ret (v := .tuple #[.agg #[.int .i64 0, .int .i64 0], .bool false]) (by simp [results, Try.results29, go_sem, e0, e1, t0]) rfl ⟨ret_val (by rw [R.out.1, R.out.2]), bel_alloc ((F1.out.bel.setCell (by simp) _).setCell (by simp) _) (Nat.le_refl _) _⟩
    · have d1 : decide (u < -4398046511103) = false := by simpa using hu
      by_cases hv2 : v > 4398046511103
      · have R : Hid (rch ⟨o, p, l⟩ k = false ∧ rz ⟨o, p, l⟩ k = (0, 0)) := Lib.hid (by
          have : rch ⟨o, p, l⟩ k = false := by rw [RR.out]; exact decide_eq_false (by omega)
          exact ⟨this, by unfold rz; rw [this]; rfl⟩)
        have d2 : decide (v > 4398046511103) = true := by simpa using hv2
        go_enter Try.func29, Try.ntmps29
        go_wp2_with fail
        rw [HW0.out]
        go_at_call 28
        refine (rGran_at _ (Fx.hsr F0) hv k1 k2 hg HP).mono ?_
        rintro e w1 ⟨rfl, b1⟩
        have F1 := Lib.hid (F0.out.step b1)
        have S1 := Lib.hid (S0.out.below b1)
        obtain ⟨t0, e0, e1, f0, f1⟩ := S1.out
        go_wp2_with fail
        obtain ⟨t0, e0, e1, f0, f1⟩ := (S1.out.set2 0 0).below (bal _ (.cells #[.int .i64 u, .int .i64 v] 35))
        exact bodyPost_ret (v := .tuple #[.agg #[.int .i64 0, .int .i64 0], .bool false]) (by simp [results, Try.results29, go_sem, e0, e1, t0]) rfl ⟨ret_val (by rw [R.out.1, R.out.2]), bel_alloc ((F1.out.bel.setCell (by simp) _).setCell (by simp) _) (Nat.le_refl _) _⟩
      · have R : Hid (rch ⟨o, p, l⟩ k = true ∧ rz ⟨o, p, l⟩ k = (u, v)) := Lib.hid (by
          have : rch ⟨o, p, l⟩ k = true := by rw [RR.out]; exact decide_eq_true (by omega)
          exact ⟨this, by unfold rz; rw [this, if_pos rfl, HP.out]⟩)
        have d2 : decide (v > 4398046511103) = false := by simpa using hv2
        go_enter Try.func29, Try.ntmps29
        go_wp2_with fail
        rw [HW0.out]
        go_at_call 28
        refine (rGran_at _ (Fx.hsr F0) hv k1 k2 hg HP).mono ?_
        rintro e w1 ⟨rfl, b1⟩
        have F1 := Lib.hid (F0.out.step b1)
        have S1 := Lib.hid (S0.out.below b1)
        obtain ⟨t0, e0, e1, f0, f1⟩ := S1.out
        go_wp2_with fail
        obtain ⟨t0, e0, e1, f0, f1⟩ := (S1.out.set2 u v).below (bal _ (.cells #[.int .i64 u, .int .i64 v] 35))
        exact bodyPost_ret (v := .tuple #[.agg #[.int .i64 u, .int .i64 v], .bool true]) (by simp [results, Try.results29, go_sem, e0, e1, t0]) rfl ⟨ret_val (by rw [R.out.1, R.out.2]), bel_alloc ((F1.out.bel.setCell (by simp) _).setCell (by simp) _) (Nat.le_refl _) _⟩

theorem rReach_at {A : Option Addr} {n cp : Nat} {o p : Int} {l : List (Int × Int)} {k u v : Int} {b : Bool} (w : World) (h : Hid (Sr w A n cp l)) (hv : Hid (Vc ⟨o, p, l⟩)) (k1 : -9223372036854775808 ≤ k) (k2 : k ≤ 9223372036854775807) (hs : Hid (rz ⟨o, p, l⟩ k = (u, v))) (hb : Hid (rch ⟨o, p, l⟩ k = b)) :
    Calls Try.prog 29 #[.agg #[.int .i64 o, .int .i64 p, .slice A n cp], .int .i64 k] w fun x w' => x = .returned (.tuple #[.agg #[.int .i64 u, .int .i64 v], .bool b]) ∧ Below w.heap.size w w' := by
  have := rReach_any k w h hv k1 k2
  rw [hs.out, hb.out] at this
  exact this
theorem rz_t {c : Cal} {k : Int} (h : rch c k = true) : rz c k = pl c k := by unfold rz; rw [h]; rfl
set_option maxRecDepth 20000 in
set_option maxHeartbeats 3200000 in
theorem rInside_any {A : Option Addr} {n cp : Nat} {o p : Int} {l : List (Int × Int)} (x y : Int) (w : World) (h : Hid (Sr w A n cp l)) (hv : Hid (Vc ⟨o, p, l⟩)) (hxy : x < y) (x1 : -4410669291904 ≤ x) (y2 : y ≤ 4410669291904) :
    Calls Try.prog 20 #[.agg #[.int .i64 o, .int .i64 p, .slice A n cp], .agg #[.int .i64 x, .int .i64 y]] w fun e w' => e = .returned (.tuple #[.int .i64 (ins ⟨o, p, l⟩ (x, y)).1, .int .i64 (ins ⟨o, p, l⟩ (x, y)).2]) ∧ Below w.heap.size w w' := by
  obtain ⟨W0, hW0⟩ : ∃ W0, (w.alloc (.cells #[.int .i64 o, .int .i64 p, .slice A n cp] 24)).alloc (.cells #[.int .i64 x, .int .i64 y] 35) = W0 := ⟨_, rfl⟩
  have F0 : Hid (Fx w W0 w.heap.size o p A n cp l) := Lib.hid (by rw [← hW0]; exact (Fx.new _ _ h.out).alloc _)
  have S0 : Hid (Sb W0 (w.heap.size + 1) x y) := Lib.hid (by rw [← hW0]; have := Sb.new (w.alloc (.cells #[.int .i64 o, .int .i64 p, .slice A n cp] 24)) x y 35; simpa using this)
  have HW0 := Lib.hid hW0
  clear hW0
  obtain ⟨z0, c0, c1, c2⟩ := F0.out.bx
  obtain ⟨t0, e0, e1, _, _⟩ := S0.out
  have na := hv.out.nr_bd (x := x - 1) (by omega) (by omega)
  have nb := hv.out.nr_bd (x := y - 1) (by omega) (by omega)
  have GK := Lib.hid (hv.out.grk_nr (x := y - 1) (by omega) (by omega))
  obtain ⟨f, hf⟩ : ∃ f, nr ⟨o, p, l⟩ (x - 1) = f := ⟨_, rfl⟩
  obtain ⟨g, hg⟩ : ∃ f, nr ⟨o, p, l⟩ (y - 1) = f := ⟨_, rfl⟩
  rw [hf] at na
  rw [hg] at nb
  rw [hg] at GK
  have HF := Lib.hid hf
  have HG := Lib.hid hg
  obtain ⟨⟨u, v⟩, hp⟩ : ∃ z, pl ⟨o, p, l⟩ g = z := ⟨_, rfl⟩
  have HP := Lib.hid hp
  have RR : Hid (ins ⟨o, p, l⟩ (x, y) = cnt2 (f + 1) ((if v > y then g - 1 else g) - (f + 1) + 1)) := Lib.hid (by
    have := hv.out.en_1 y
    rw [hg, hp] at this
    unfold ins; dsimp only at this ⊢
    rw [← this, hf])
  clear hf hg hp
  by_cases hc : v > y
  · have dc : decide (v > y) = true := by simpa using hc
    have RC : Hid (ins ⟨o, p, l⟩ (x, y) = cnt2 (f + 1) ((g - 1) - (f + 1) + 1)) := Lib.hid (by rw [RR.out, if_pos hc])
    by_cases hn : (g - 1) - (f + 1) + 1 ≤ 0
    · have R := Lib.hid (RC.out.trans (cnt2_no hn))
      have dn : decide ((g - 1) < f + 1) = true := by simp; omega
      go_enter Try.func20, Try.ntmps20
      go_wp2_with fail
      rw [HW0.out]
      go_at_call 21
      refine (rNear_at _ (Fx.hsr F0) hv (by omega) (by omega) HF).mono ?_
      rintro e w1 ⟨rfl, b1⟩
      have F1 := Lib.hid (F0.out.step b1)
      have S1 := Lib.hid (S0.out.below b1)
      clear c0 c1 c2 z0 t0 e0 e1
      obtain ⟨z0, c0, c1, c2⟩ := F1.out.bx
      obtain ⟨t0, e0, e1, _, _⟩ := S1.out
      go_wp2_with fail
      go_at_call 21
      refine (rNear_at _ (Fx.hsr F1) hv (by omega) (by omega) HG).mono ?_
      rintro e w2 ⟨rfl, b2⟩
      have F2 := Lib.hid (F1.out.step b2)
      have S2 := Lib.hid (S1.out.below b2)
      clear c0 c1 c2 z0 t0 e0 e1
      obtain ⟨z0, c0, c1, c2⟩ := F2.out.bx
      obtain ⟨t0, e0, e1, _, _⟩ := S2.out
      go_wp2_with fail
      go_at_call 28
      refine (rGran_at _ (Fx.hsr F2) hv (by omega) (by omega) GK HP).mono ?_
      rintro e w3 ⟨rfl, b3⟩
      have F3 := Lib.hid (F2.out.step b3)
      have S3 := Lib.hid (S2.out.below b3)
      clear c0 c1 c2 z0 t0 e0 e1
      obtain ⟨z0, c0, c1, c2⟩ := F3.out.bx
      obtain ⟨t0, e0, e1, _, _⟩ := S3.out
      have F4 := Lib.hid (F3.out.alloc (.cells #[.int .i64 u, .int .i64 v] 35))
      go_wp2_with fail
      go_ret2
      exact ⟨ret_int2 (congrArg Prod.fst R.out).symm (congrArg Prod.snd R.out).symm, F4.out.bel⟩
    · have R := Lib.hid (RC.out.trans (cnt2_yes hn))
      have dn : decide ((g - 1) < f + 1) = false := by simp; omega
      go_enter Try.func20, Try.ntmps20
      go_wp2_with fail
      rw [HW0.out]
      go_at_call 21
      refine (rNear_at _ (Fx.hsr F0) hv (by omega) (by omega) HF).mono ?_
      rintro e w1 ⟨rfl, b1⟩
      have F1 := Lib.hid (F0.out.step b1)
      have S1 := Lib.hid (S0.out.below b1)
      clear c0 c1 c2 z0 t0 e0 e1
      obtain ⟨z0, c0, c1, c2⟩ := F1.out.bx
      obtain ⟨t0, e0, e1, _, _⟩ := S1.out
      go_wp2_with fail
      go_at_call 21
      refine (rNear_at _ (Fx.hsr F1) hv (by omega) (by omega) HG).mono ?_
      rintro e w2 ⟨rfl, b2⟩
      have F2 := Lib.hid (F1.out.step b2)
      have S2 := Lib.hid (S1.out.below b2)
      clear c0 c1 c2 z0 t0 e0 e1
      obtain ⟨z0, c0, c1, c2⟩ := F2.out.bx
      obtain ⟨t0, e0, e1, _, _⟩ := S2.out
      go_wp2_with fail
      go_at_call 28
      refine (rGran_at _ (Fx.hsr F2) hv (by omega) (by omega) GK HP).mono ?_
      rintro e w3 ⟨rfl, b3⟩
      have F3 := Lib.hid (F2.out.step b3)
      have S3 := Lib.hid (S2.out.below b3)
      clear c0 c1 c2 z0 t0 e0 e1
      obtain ⟨z0, c0, c1, c2⟩ := F3.out.bx
      obtain ⟨t0, e0, e1, _, _⟩ := S3.out
      have F4 := Lib.hid (F3.out.alloc (.cells #[.int .i64 u, .int .i64 v] 35))
      go_wp2_with fail
      go_ret2
      exact ⟨ret_int2 (congrArg Prod.fst R.out).symm (congrArg Prod.snd R.out).symm, F4.out.bel⟩
  · have dc : decide (v > y) = false := by simpa using hc
    have RC : Hid (ins ⟨o, p, l⟩ (x, y) = cnt2 (f + 1) (g - (f + 1) + 1)) := Lib.hid (by rw [RR.out, if_neg hc])
    by_cases hn : g - (f + 1) + 1 ≤ 0
    · have R := Lib.hid (RC.out.trans (cnt2_no hn))
      have dn : decide (g < f + 1) = true := by simp; omega
      go_enter Try.func20, Try.ntmps20
      go_wp2_with fail
      rw [HW0.out]
      go_at_call 21
      refine (rNear_at _ (Fx.hsr F0) hv (by omega) (by omega) HF).mono ?_
      rintro e w1 ⟨rfl, b1⟩
      have F1 := Lib.hid (F0.out.step b1)
      have S1 := Lib.hid (S0.out.below b1)
      clear c0 c1 c2 z0 t0 e0 e1
      obtain ⟨z0, c0, c1, c2⟩ := F1.out.bx
      obtain ⟨t0, e0, e1, _, _⟩ := S1.out
      go_wp2_with fail
      go_at_call 21
      refine (rNear_at _ (Fx.hsr F1) hv (by omega) (by omega) HG).mono ?_
      rintro e w2 ⟨rfl, b2⟩
      have F2 := Lib.hid (F1.out.step b2)
      have S2 := Lib.hid (S1.out.below b2)
      clear c0 c1 c2 z0 t0 e0 e1
      obtain ⟨z0, c0, c1, c2⟩ := F2.out.bx
      obtain ⟨t0, e0, e1, _, _⟩ := S2.out
      go_wp2_with fail
      go_at_call 28
      refine (rGran_at _ (Fx.hsr F2) hv (by omega) (by omega) GK HP).mono ?_
      rintro e w3 ⟨rfl, b3⟩
      have F3 := Lib.hid (F2.out.step b3)
      have S3 := Lib.hid (S2.out.below b3)
      clear c0 c1 c2 z0 t0 e0 e1
      obtain ⟨z0, c0, c1, c2⟩ := F3.out.bx
      obtain ⟨t0, e0, e1, _, _⟩ := S3.out
      have F4 := Lib.hid (F3.out.alloc (.cells #[.int .i64 u, .int .i64 v] 35))
      go_wp2_with fail
      go_ret2
      exact ⟨ret_int2 (congrArg Prod.fst R.out).symm (congrArg Prod.snd R.out).symm, F4.out.bel⟩
    · have R := Lib.hid (RC.out.trans (cnt2_yes hn))
      have dn : decide (g < f + 1) = false := by simp; omega
      go_enter Try.func20, Try.ntmps20
      go_wp2_with fail
      rw [HW0.out]
      go_at_call 21
      refine (rNear_at _ (Fx.hsr F0) hv (by omega) (by omega) HF).mono ?_
      rintro e w1 ⟨rfl, b1⟩
      have F1 := Lib.hid (F0.out.step b1)
      have S1 := Lib.hid (S0.out.below b1)
      clear c0 c1 c2 z0 t0 e0 e1
      obtain ⟨z0, c0, c1, c2⟩ := F1.out.bx
      obtain ⟨t0, e0, e1, _, _⟩ := S1.out
      go_wp2_with fail
      go_at_call 21
      refine (rNear_at _ (Fx.hsr F1) hv (by omega) (by omega) HG).mono ?_
      rintro e w2 ⟨rfl, b2⟩
      have F2 := Lib.hid (F1.out.step b2)
      have S2 := Lib.hid (S1.out.below b2)
      clear c0 c1 c2 z0 t0 e0 e1
      obtain ⟨z0, c0, c1, c2⟩ := F2.out.bx
      obtain ⟨t0, e0, e1, _, _⟩ := S2.out
      go_wp2_with fail
      go_at_call 28
      refine (rGran_at _ (Fx.hsr F2) hv (by omega) (by omega) GK HP).mono ?_
      rintro e w3 ⟨rfl, b3⟩
      have F3 := Lib.hid (F2.out.step b3)
      have S3 := Lib.hid (S2.out.below b3)
      clear c0 c1 c2 z0 t0 e0 e1
      obtain ⟨z0, c0, c1, c2⟩ := F3.out.bx
      obtain ⟨t0, e0, e1, _, _⟩ := S3.out
      have F4 := Lib.hid (F3.out.alloc (.cells #[.int .i64 u, .int .i64 v] 35))
      go_wp2_with fail
      go_ret2
      exact ⟨ret_int2 (congrArg Prod.fst R.out).symm (congrArg Prod.snd R.out).symm, F4.out.bel⟩
set_option maxRecDepth 20000 in
set_option maxHeartbeats 3200000 in
theorem rCovering_any {A : Option Addr} {n cp : Nat} {o p : Int} {l : List (Int × Int)} (x y : Int) (w : World) (h : Hid (Sr w A n cp l)) (hv : Hid (Vc ⟨o, p, l⟩)) (hxy : x < y) (x1 : -4410669291904 ≤ x) (y2 : y ≤ 4410669291904) :
    Calls Try.prog 30 #[.agg #[.int .i64 o, .int .i64 p, .slice A n cp], .agg #[.int .i64 x, .int .i64 y]] w fun e w' => e = .returned (.tuple #[.int .i64 (cvr ⟨o, p, l⟩ (x, y)).1, .int .i64 (cvr ⟨o, p, l⟩ (x, y)).2]) ∧ Below w.heap.size w w' := by
  obtain ⟨W0, hW0⟩ : ∃ W0, (w.alloc (.cells #[.int .i64 o, .int .i64 p, .slice A n cp] 24)).alloc (.cells #[.int .i64 x, .int .i64 y] 35) = W0 := ⟨_, rfl⟩
  have F0 : Hid (Fx w W0 w.heap.size o p A n cp l) := Lib.hid (by rw [← hW0]; exact (Fx.new _ _ h.out).alloc _)
  have S0 : Hid (Sb W0 (w.heap.size + 1) x y) := Lib.hid (by rw [← hW0]; have := Sb.new (w.alloc (.cells #[.int .i64 o, .int .i64 p, .slice A n cp] 24)) x y 35; simpa using this)
  have HW0 := Lib.hid hW0
  clear hW0
  obtain ⟨z0, c0, c1, c2⟩ := F0.out.bx
  obtain ⟨t0, e0, e1, _, _⟩ := S0.out
  have na := hv.out.nr_bd (x := x) (by omega) (by omega)
  have nb := hv.out.nr_bd (x := y - 1) (by omega) (by omega)
  have GK := Lib.hid (hv.out.grk_nr (x := x) (by omega) (by omega))
  obtain ⟨f, hf⟩ : ∃ f, nr ⟨o, p, l⟩ (x) = f := ⟨_, rfl⟩
  obtain ⟨g, hg⟩ : ∃ f, nr ⟨o, p, l⟩ (y - 1) = f := ⟨_, rfl⟩
  rw [hf] at na
  rw [hg] at nb
  rw [hf] at GK
  have HF := Lib.hid hf
  have HG := Lib.hid hg
  obtain ⟨⟨u, v⟩, hp⟩ : ∃ z, pl ⟨o, p, l⟩ f = z := ⟨_, rfl⟩
  have HP := Lib.hid hp
  have RR : Hid (cvr ⟨o, p, l⟩ (x, y) = cnt2 (if v ≤ x then f + 1 else f) (g - (if v ≤ x then f + 1 else f) + 1)) := Lib.hid (by
    have := hv.out.cov_1 x
    rw [hf, hp] at this
    unfold cvr; dsimp only at this ⊢
    rw [← this, hg])
  clear hf hg hp
  by_cases hc : v ≤ x
  · have dc : decide (v ≤ x) = true := by simpa using hc
    have RC : Hid (cvr ⟨o, p, l⟩ (x, y) = cnt2 (f + 1) (g - (f + 1) + 1)) := Lib.hid (by rw [RR.out, if_pos hc])
    by_cases hn : g - (f + 1) + 1 ≤ 0
    · have R := Lib.hid (RC.out.trans (cnt2_no hn))
      have dn : decide (g < (f + 1)) = true := by simp; omega
      go_enter Try.func30, Try.ntmps30
      go_wp2_with fail
      rw [HW0.out]
      go_at_call 21
      refine (rNear_at _ (Fx.hsr F0) hv (by omega) (by omega) HF).mono ?_
      rintro e w1 ⟨rfl, b1⟩
      have F1 := Lib.hid (F0.out.step b1)
      have S1 := Lib.hid (S0.out.below b1)
      clear c0 c1 c2 z0 t0 e0 e1
      obtain ⟨z0, c0, c1, c2⟩ := F1.out.bx
      obtain ⟨t0, e0, e1, _, _⟩ := S1.out
      go_wp2_with fail
      go_at_call 28
      refine (rGran_at _ (Fx.hsr F1) hv (by omega) (by omega) GK HP).mono ?_
      rintro e w3 ⟨rfl, b3⟩
      have F3 := Lib.hid (F1.out.step b3)
      have S3 := Lib.hid (S1.out.below b3)
      clear c0 c1 c2 z0 t0 e0 e1
      obtain ⟨z0, c0, c1, c2⟩ := F3.out.bx
      obtain ⟨t0, e0, e1, _, _⟩ := S3.out
      go_wp2_with fail
      have F4 := Lib.hid (F3.out.alloc (.cells #[.int .i64 u, .int .i64 v] 35))
      go_at_call 21
      refine (rNear_at _ (Fx.hsr F4) hv (by omega) (by omega) HG).mono ?_
      rintro e w5 ⟨rfl, b5⟩
      have F5 := Lib.hid (F4.out.step b5)
      go_wp2_with fail
      go_ret2
      exact ⟨ret_int2 (congrArg Prod.fst R.out).symm (congrArg Prod.snd R.out).symm, F5.out.bel⟩
    · have R := Lib.hid (RC.out.trans (cnt2_yes hn))
      have dn : decide (g < (f + 1)) = false := by simp; omega
      go_enter Try.func30, Try.ntmps30
      go_wp2_with fail
      rw [HW0.out]
      go_at_call 21
      refine (rNear_at _ (Fx.hsr F0) hv (by omega) (by omega) HF).mono ?_
      rintro e w1 ⟨rfl, b1⟩
      have F1 := Lib.hid (F0.out.step b1)
      have S1 := Lib.hid (S0.out.below b1)
      clear c0 c1 c2 z0 t0 e0 e1
      obtain ⟨z0, c0, c1, c2⟩ := F1.out.bx
      obtain ⟨t0, e0, e1, _, _⟩ := S1.out
      go_wp2_with fail
      go_at_call 28
      refine (rGran_at _ (Fx.hsr F1) hv (by omega) (by omega) GK HP).mono ?_
      rintro e w3 ⟨rfl, b3⟩
      have F3 := Lib.hid (F1.out.step b3)
      have S3 := Lib.hid (S1.out.below b3)
      clear c0 c1 c2 z0 t0 e0 e1
      obtain ⟨z0, c0, c1, c2⟩ := F3.out.bx
      obtain ⟨t0, e0, e1, _, _⟩ := S3.out
      go_wp2_with fail
      have F4 := Lib.hid (F3.out.alloc (.cells #[.int .i64 u, .int .i64 v] 35))
      go_at_call 21
      refine (rNear_at _ (Fx.hsr F4) hv (by omega) (by omega) HG).mono ?_
      rintro e w5 ⟨rfl, b5⟩
      have F5 := Lib.hid (F4.out.step b5)
      go_wp2_with fail
      go_ret2
      exact ⟨ret_int2 (congrArg Prod.fst R.out).symm (congrArg Prod.snd R.out).symm, F5.out.bel⟩
  · have dc : decide (v ≤ x) = false := by simpa using hc
    have RC : Hid (cvr ⟨o, p, l⟩ (x, y) = cnt2 f (g - f + 1)) := Lib.hid (by rw [RR.out, if_neg hc])
    by_cases hn : g - f + 1 ≤ 0
    · have R := Lib.hid (RC.out.trans (cnt2_no hn))
      have dn : decide (g < f) = true := by simp; omega
      go_enter Try.func30, Try.ntmps30
      go_wp2_with fail
      rw [HW0.out]
      go_at_call 21
      refine (rNear_at _ (Fx.hsr F0) hv (by omega) (by omega) HF).mono ?_
      rintro e w1 ⟨rfl, b1⟩
      have F1 := Lib.hid (F0.out.step b1)
      have S1 := Lib.hid (S0.out.below b1)
      clear c0 c1 c2 z0 t0 e0 e1
      obtain ⟨z0, c0, c1, c2⟩ := F1.out.bx
      obtain ⟨t0, e0, e1, _, _⟩ := S1.out
      go_wp2_with fail
      go_at_call 28
      refine (rGran_at _ (Fx.hsr F1) hv (by omega) (by omega) GK HP).mono ?_
      rintro e w3 ⟨rfl, b3⟩
      have F3 := Lib.hid (F1.out.step b3)
      have S3 := Lib.hid (S1.out.below b3)
      clear c0 c1 c2 z0 t0 e0 e1
      obtain ⟨z0, c0, c1, c2⟩ := F3.out.bx
      obtain ⟨t0, e0, e1, _, _⟩ := S3.out
      go_wp2_with fail
      have F4 := Lib.hid (F3.out.alloc (.cells #[.int .i64 u, .int .i64 v] 35))
      go_at_call 21
      refine (rNear_at _ (Fx.hsr F4) hv (by omega) (by omega) HG).mono ?_
      rintro e w5 ⟨rfl, b5⟩
      have F5 := Lib.hid (F4.out.step b5)
      go_wp2_with fail
      go_ret2
      exact ⟨ret_int2 (congrArg Prod.fst R.out).symm (congrArg Prod.snd R.out).symm, F5.out.bel⟩
    · have R := Lib.hid (RC.out.trans (cnt2_yes hn))
      have dn : decide (g < f) = false := by simp; omega
      go_enter Try.func30, Try.ntmps30
      go_wp2_with fail
      rw [HW0.out]
      go_at_call 21
      refine (rNear_at _ (Fx.hsr F0) hv (by omega) (by omega) HF).mono ?_
      rintro e w1 ⟨rfl, b1⟩
      have F1 := Lib.hid (F0.out.step b1)
      have S1 := Lib.hid (S0.out.below b1)
      clear c0 c1 c2 z0 t0 e0 e1
      obtain ⟨z0, c0, c1, c2⟩ := F1.out.bx
      obtain ⟨t0, e0, e1, _, _⟩ := S1.out
      go_wp2_with fail
      go_at_call 28
      refine (rGran_at _ (Fx.hsr F1) hv (by omega) (by omega) GK HP).mono ?_
      rintro e w3 ⟨rfl, b3⟩
      have F3 := Lib.hid (F1.out.step b3)
      have S3 := Lib.hid (S1.out.below b3)
      clear c0 c1 c2 z0 t0 e0 e1
      obtain ⟨z0, c0, c1, c2⟩ := F3.out.bx
      obtain ⟨t0, e0, e1, _, _⟩ := S3.out
      go_wp2_with fail
      have F4 := Lib.hid (F3.out.alloc (.cells #[.int .i64 u, .int .i64 v] 35))
      go_at_call 21
      refine (rNear_at _ (Fx.hsr F4) hv (by omega) (by omega) HG).mono ?_
      rintro e w5 ⟨rfl, b5⟩
      have F5 := Lib.hid (F4.out.step b5)
      go_wp2_with fail
      go_ret2
      exact ⟨ret_int2 (congrArg Prod.fst R.out).symm (congrArg Prod.snd R.out).symm, F5.out.bel⟩
end Go.Proofs.Ytainibnjpkbfpaa.Cv
