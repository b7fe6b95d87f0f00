/- Walks: granules in reach, those inside and those ended; two valid calendars. -/
import Derived.Test.YtainibnjpkbfpaaCalW12
namespace Go.Proofs.Ytainibnjpkbfpaa.Cv
set_option linter.unusedVariables false
set_option linter.unusedSimpArgs false
open Go.RowKit Wl

theorem spn_z {c : Cal} {k : Int} (h : onl c k = false) : spn c k = ((0, 0), 2) := by unfold spn; rw [h]; rfl
theorem spn_t {c : Cal} {k : Int} (h : onl c k = true) : spn c k = (pl c k, 0) := by unfold spn; rw [h]; rfl
theorem Span_at {A : Option Addr} {n cp : Nat} {o p : Int} {l : List (Int × Int)} {k u v e : Int} (w : World) (h : Hid (Sr w A n cp l)) (hv : Hid (vld ⟨o, p, l⟩ = true)) (k1 : -9223372036854775808 ≤ k) (k2 : k ≤ 9223372036854775807) (hs : Hid (spn ⟨o, p, l⟩ k = ((u, v), e))) :
    Calls Try.prog 16 #[.agg #[.int .i64 o, .int .i64 p, .slice A n cp], .int .i64 k] w fun x w' => x = .returned (.tuple #[.agg #[.int .i64 u, .int .i64 v], .int .i64 e]) ∧ Below w.heap.size w w' := by
  have := Span_any k w h hv k1 k2
  rw [hs.out] at this
  exact this
theorem Sb.set2 {W : World} {p : Nat} {a b : Int} (h : Sb W p a b) (x y : Int) : Sb ((W.setCell ⟨p, 0, none⟩ (.int .i64 x)).setCell ⟨p, 1, none⟩ (.int .i64 y)) p x y := by
  obtain ⟨t0, e0, e1, f0, f1⟩ := h
  refine ⟨by simpa using t0, ?_, ?_, ?_, ?_⟩ <;> simp [go_sem, e0, e1, f0, f1, t0]
theorem rch_ne {c : Cal} {k u v : Int} (hs : spn c k = ((u, v), 0)) : rch c k = (decide (-4398046511103 ≤ u) && decide (v ≤ 4398046511103)) := by
  unfold spn at hs
  split at hs
  · injection hs with hs _
    unfold rch; rw [hs, Bool.decide_and]
  · injection hs with _ hs; cases hs
set_option maxRecDepth 20000 in
set_option maxHeartbeats 3200000 in
theorem reach_any {A : Option Addr} {n cp : Nat} {o p : Int} {l : List (Int × Int)} (k : Int) (w : World) (h : Hid (Sr w A n cp l)) (hv : Hid (vld ⟨o, p, l⟩ = true)) (k1 : -9223372036854775808 ≤ k) (k2 : k ≤ 9223372036854775807) :
    Calls Try.prog 44 #[.agg #[.int .i64 o, .int .i64 p, .slice A n cp], .int .i64 k] w fun e w' => e = .returned (.tuple #[.agg #[.int .i64 (spn ⟨o, p, l⟩ k).1.1, .int .i64 (spn ⟨o, p, l⟩ k).1.2], .bool (rch ⟨o, p, l⟩ k)]) ∧ Below w.heap.size w w' := by
  obtain ⟨⟨⟨u, v⟩, e⟩, hs⟩ : ∃ s, spn ⟨o, p, l⟩ k = s := ⟨_, rfl⟩
  have HS := Lib.hid hs
  clear hs
  obtain ⟨W0, hW0⟩ : ∃ W0, (w.alloc (.cells #[.int .i64 o, .int .i64 p, .slice A n cp] 24)).alloc (.cells #[.int .i64 0, .int .i64 0] 35) = W0 := ⟨_, rfl⟩
  have F0 : Hid (Fx w W0 w.heap.size o p A n cp l) := Lib.hid (by rw [← hW0]; exact (Fx.new _ _ h.out).alloc _)
  have S0 : Hid (Sb W0 (w.heap.size + 1) 0 0) := Lib.hid (by rw [← hW0]; have := Sb.new (w.alloc (.cells #[.int .i64 o, .int .i64 p, .slice A n cp] 24)) 0 0 35; simpa using this)
  have HW0 := Lib.hid hW0
  clear hW0
  obtain ⟨z0, c0, c1, c2⟩ := F0.out.bx
  have HE : e ≠ 0 → Hid (rch ⟨o, p, l⟩ k = false) := fun he => Lib.hid (rch_onl' (by
    rcases ho : onl ⟨o, p, l⟩ k with _ | _
    · rfl
    · have := spn_t ho; rw [HS.out] at this; injection this with _ this; exact absurd this he))
  by_cases he : e = 0
  · subst he
    have HR := Lib.hid (rch_ne HS.out)
    clear HE
    rcases hu : decide (-4398046511103 ≤ u) with _ | _
    · have HU := Lib.hid hu
      have hu' : decide (u ≥ -4398046511103) = false := hu
      go_enter Try.func44, Try.ntmps44
      go_wp2_with fail
      rw [HW0.out]
      go_at_call 16
      refine (Span_at _ (Fx.hsr F0) hv k1 k2 HS).mono ?_
      rintro x w1 ⟨rfl, b1⟩
      have F1 := Lib.hid (F0.out.step b1)
      obtain ⟨t0, e0, e1, f0, f1⟩ := S0.out.below b1
      have ht : w.heap.size < w1.heap.size := by omega
      have S1 := Lib.hid (S0.out.below b1)
      go_wp2_with fail
      obtain ⟨t0, e0, e1, f0, f1⟩ := (S1.out.set2 u v).set2 u v
      exact bodyPost_ret (v := .tuple #[.agg #[.int .i64 u, .int .i64 v], .bool false]) (by simp [results, Try.results44, go_sem, e0, e1, t0]) rfl ⟨ret_val (by rw [HS.out, HR.out, HU.out, Bool.false_and]), (((F1.out.bel.setCell (by simp) _).setCell (by simp) _).setCell (by simp) _).setCell (by simp) _⟩
    · rcases hv' : decide (v ≤ 4398046511103) with _ | _
      · have HU := Lib.hid hu
        have HV := Lib.hid hv'
        have hu' : decide (u ≥ -4398046511103) = true := hu
        go_enter Try.func44, Try.ntmps44
        go_wp2_with fail
        rw [HW0.out]
        go_at_call 16
        refine (Span_at _ (Fx.hsr F0) hv k1 k2 HS).mono ?_
        rintro x w1 ⟨rfl, b1⟩
        have F1 := Lib.hid (F0.out.step b1)
        obtain ⟨t0, e0, e1, f0, f1⟩ := S0.out.below b1
        have ht : w.heap.size < w1.heap.size := by omega
        have S1 := Lib.hid (S0.out.below b1)
        go_wp2_with fail
        obtain ⟨t0, e0, e1, f0, f1⟩ := (S1.out.set2 u v).set2 u v
        exact bodyPost_ret (v := .tuple #[.agg #[.int .i64 u, .int .i64 v], .bool false]) (by simp [results, Try.results44, go_sem, e0, e1, t0]) rfl ⟨ret_val (by rw [HS.out, HR.out, HU.out, HV.out, Bool.true_and]), (((F1.out.bel.setCell (by simp) _).setCell (by simp) _).setCell (by simp) _).setCell (by simp) _⟩
      · have HU := Lib.hid hu
        have HV := Lib.hid hv'
        have hu' : decide (u ≥ -4398046511103) = true := hu
        go_enter Try.func44, Try.ntmps44
        go_wp2_with fail
        rw [HW0.out]
        go_at_call 16
        refine (Span_at _ (Fx.hsr F0) hv k1 k2 HS).mono ?_
        rintro x w1 ⟨rfl, b1⟩
        have F1 := Lib.hid (F0.out.step b1)
        obtain ⟨t0, e0, e1, f0, f1⟩ := S0.out.below b1
        have ht : w.heap.size < w1.heap.size := by omega
        have S1 := Lib.hid (S0.out.below b1)
        go_wp2_with fail
        obtain ⟨t0, e0, e1, f0, f1⟩ := (S1.out.set2 u v).set2 u v
        exact bodyPost_ret (v := .tuple #[.agg #[.int .i64 u, .int .i64 v], .bool true]) (by simp [results, Try.results44, go_sem, e0, e1, t0]) rfl ⟨ret_val (by rw [HS.out, HR.out, HU.out, HV.out, Bool.true_and]), (((F1.out.bel.setCell (by simp) _).setCell (by simp) _).setCell (by simp) _).setCell (by simp) _⟩
  · have HR := HE he
    have he' : (e == 0) = false := by simpa using he
    clear HE
    go_enter Try.func44, Try.ntmps44
    go_wp2_with fail
    rw [HW0.out]
    go_at_call 16
    refine (Span_at _ (Fx.hsr F0) hv k1 k2 HS).mono ?_
    rintro x w1 ⟨rfl, b1⟩
    have F1 := Lib.hid (F0.out.step b1)
    obtain ⟨t0, e0, e1, f0, f1⟩ := S0.out.below b1
    have ht : w.heap.size < w1.heap.size := by omega
    have S1 := Lib.hid (S0.out.below b1)
    go_wp2_with fail
    obtain ⟨t0, e0, e1, f0, f1⟩ := (S1.out.set2 u v).set2 u v
    exact bodyPost_ret (v := .tuple #[.agg #[.int .i64 u, .int .i64 v], .bool false]) (by simp [results, Try.results44, go_sem, e0, e1, t0]) rfl ⟨ret_val (by rw [HS.out, HR.out]), (((F1.out.bel.setCell (by simp) _).setCell (by simp) _).setCell (by simp) _).setCell (by simp) _⟩

theorem reach_at {A : Option Addr} {n cp : Nat} {o p : Int} {l : List (Int × Int)} {k u v e : Int} {b : Bool} (w : World) (h : Hid (Sr w A n cp l)) (hv : Hid (vld ⟨o, p, l⟩ = true)) (k1 : -9223372036854775808 ≤ k) (k2 : k ≤ 9223372036854775807) (hs : Hid (spn ⟨o, p, l⟩ k = ((u, v), e))) (hb : Hid (rch ⟨o, p, l⟩ k = b)) :
    Calls Try.prog 44 #[.agg #[.int .i64 o, .int .i64 p, .slice A n cp], .int .i64 k] w fun x w' => x = .returned (.tuple #[.agg #[.int .i64 u, .int .i64 v], .bool b]) ∧ Below w.heap.size w w' := by
  have := reach_any k w h hv k1 k2
  rw [hs.out, hb.out] at this
  exact this
theorem near_at {A : Option Addr} {n cp : Nat} {o p : Int} {l : List (Int × Int)} {x k : Int} (w : World) (h : Hid (Sr w A n cp l)) (hv : Hid (Vc ⟨o, p, l⟩)) (k1 : -35184372088832 ≤ x) (k2 : x ≤ 35184372088832) (hk : Hid (nr ⟨o, p, l⟩ x = k)) :
    Calls Try.prog 55 #[.agg #[.int .i64 o, .int .i64 p, .slice A n cp], .int .i64 x] w fun e w' => e = .returned (.int .i64 k) ∧ Below w.heap.size w w' := by
  have := near_any x w h hv k1 k2
  rw [hk.out] at this
  exact this
/-- Numbers of granules near a number are no great numbers. -/
theorem Vc.nr_bd {c : Cal} (h : Vc c) {x : Int} (h1 : -35184372088832 ≤ x) (h2 : x ≤ 35184372088832) : -1125899906842624 ≤ nr c x ∧ nr c x ≤ 1125899906842624 := ⟨(h.bk_nr h1 h2).k1, (h.bk_nr h1 h2).k2⟩
theorem inside_any {A : Option Addr} {n cp : Nat} {o p : Int} {l : List (Int × Int)} (x : Int) (w : World) (h : Hid (Sr w A n cp l)) (hv : Hid (Vc ⟨o, p, l⟩)) (k1 : -17592186044416 ≤ x) (k2 : x ≤ 17592186044416) :
    Calls Try.prog 54 #[.agg #[.int .i64 o, .int .i64 p, .slice A n cp], .int .i64 x] w fun e w' => e = .returned (.int .i64 (nr ⟨o, p, l⟩ (x - 1) + 1)) ∧ Below w.heap.size w w' := by
  have ⟨n1, n2⟩ := hv.out.nr_bd (x := x - 1) (by omega) (by omega)
  obtain ⟨k, hk⟩ : ∃ k, nr ⟨o, p, l⟩ (x - 1) = k := ⟨_, rfl⟩
  rw [hk] at n1 n2 ⊢
  have HK := Lib.hid hk
  clear hk
  obtain ⟨W0, hW0⟩ : ∃ W0, w.alloc (.cells #[.int .i64 o, .int .i64 p, .slice A n cp] 24) = W0 := ⟨_, rfl⟩
  have F0 : Hid (Fx w W0 w.heap.size o p A n cp l) := Lib.hid (by rw [← hW0]; exact Fx.new _ _ h.out)
  have HW0 := Lib.hid hW0
  clear hW0
  obtain ⟨z0, c0, c1, c2⟩ := F0.out.bx
  go_enter Try.func54, Try.ntmps54
  go_wp2_with fail
  rw [HW0.out]
  go_at_call 55
  refine (near_at _ (Fx.hsr F0) hv (by omega) (by omega) HK).mono ?_
  rintro e w1 ⟨rfl, b1⟩
  have F1 := Lib.hid (F0.out.step b1)
  go_wp2_with fail
  go_ret
  exact ⟨rfl, F1.out.bel⟩
theorem ended_any {A : Option Addr} {n cp : Nat} {o p : Int} {l : List (Int × Int)} (x : Int) (w : World) (h : Hid (Sr w A n cp l)) (hv : Hid (Vc ⟨o, p, l⟩)) (k1 : -17592186044416 ≤ x) (k2 : x ≤ 17592186044416) :
    Calls Try.prog 53 #[.agg #[.int .i64 o, .int .i64 p, .slice A n cp], .int .i64 x] w fun e w' => e = .returned (.int .i64 (en ⟨o, p, l⟩ x)) ∧ Below w.heap.size w w' := by
  have ⟨n1, n2⟩ := hv.out.nr_bd (x := x) (by omega) (by omega)
  have B := Lib.hid (hv.out.bk_nr (x := x) (by omega) (by omega))
  obtain ⟨k, hk⟩ : ∃ k, nr ⟨o, p, l⟩ x = k := ⟨_, rfl⟩
  rw [hk] at n1 n2 B
  have HK := Lib.hid hk
  obtain ⟨⟨u, v⟩, huv⟩ : ∃ s, pl ⟨o, p, l⟩ k = s := ⟨_, rfl⟩
  have HP := Lib.hid huv
  have RR : Hid (en ⟨o, p, l⟩ x = if v > x then k - 1 else k) := Lib.hid (by unfold en; rw [hk, huv])
  have fl := fld1
  clear hk huv
  obtain ⟨W0, hW0⟩ : ∃ W0, w.alloc (.cells #[.int .i64 o, .int .i64 p, .slice A n cp] 24) = W0 := ⟨_, rfl⟩
  have F0 : Hid (Fx w W0 w.heap.size o p A n cp l) := Lib.hid (by rw [← hW0]; exact Fx.new _ _ h.out)
  have HW0 := Lib.hid hW0
  clear hW0
  obtain ⟨z0, c0, c1, c2⟩ := F0.out.bx
  rcases hd : decide (v > x) with _ | _
  · have R : Hid (en ⟨o, p, l⟩ x = k) := Lib.hid (by rw [RR.out, if_neg (by simpa using hd)])
    go_enter Try.func53, Try.ntmps53
    go_wp2_with fail
    rw [HW0.out]
    go_at_call 55
    refine (near_at _ (Fx.hsr F0) hv (by omega) (by omega) HK).mono ?_
    rintro e w1 ⟨rfl, b1⟩
    have F1 := Lib.hid (F0.out.step b1)
    clear c0 c1 c2 z0
    obtain ⟨z0, c0, c1, c2⟩ := F1.out.bx
    go_wp2_with fail
    go_at_call 45
    refine (place_at _ (Fx.hsr F1) hv B HP).mono ?_
    rintro e w2 ⟨rfl, b2⟩
    have F2 := Lib.hid (F1.out.step b2)
    go_wp2_with fail
    go_ret
    exact ⟨ret_int R.out.symm, F2.out.bel⟩
  · have R : Hid (en ⟨o, p, l⟩ x = k - 1) := Lib.hid (by rw [RR.out, if_pos (by simpa using hd)])
    go_enter Try.func53, Try.ntmps53
    go_wp2_with fail
    rw [HW0.out]
    go_at_call 55
    refine (near_at _ (Fx.hsr F0) hv (by omega) (by omega) HK).mono ?_
    rintro e w1 ⟨rfl, b1⟩
    have F1 := Lib.hid (F0.out.step b1)
    clear c0 c1 c2 z0
    obtain ⟨z0, c0, c1, c2⟩ := F1.out.bx
    go_wp2_with fail
    go_at_call 45
    refine (place_at _ (Fx.hsr F1) hv B HP).mono ?_
    rintro e w2 ⟨rfl, b2⟩
    have F2 := Lib.hid (F1.out.step b2)
    go_wp2_with fail
    go_ret
    exact ⟨ret_int R.out.symm, F2.out.bel⟩
end Go.Proofs.Ytainibnjpkbfpaa.Cv
