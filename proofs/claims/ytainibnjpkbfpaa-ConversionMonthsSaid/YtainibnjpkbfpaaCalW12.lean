/- Walks: granule.Span; granules in reach. -/
import Derived.Test.YtainibnjpkbfpaaCalW11
namespace Go.Proofs.Ytainibnjpkbfpaa.Cv
set_option linter.unusedVariables false
set_option linter.unusedSimpArgs false
open Go.RowKit Wl

theorem spn_far {c : Cal} (h : Vc c) {k : Int} (hf : farK c k = true) : spn c k = ((0, 0), 2) := by unfold spn; rw [h.far_n hf]; rfl
theorem spn_no {c : Cal} {k u v : Int} (hp : pl c k = (u, v)) (h1 : line u = false ∨ line v = false) (hl : u < v) : spn c k = ((0, 0), 2) := by
  unfold spn onl; rw [hp]
  unfold line at h1
  rw [decide_eq_false_iff_not, decide_eq_false_iff_not] at h1
  rw [if_neg]
  rw [decide_eq_true_iff]
  dsimp only; omega
theorem spn_yes {c : Cal} {k u v : Int} (hp : pl c k = (u, v)) (h1 : line u = true) (h2 : line v = true) : spn c k = ((u, v), 0) := by
  have := line_p h1
  have := line_p h2
  unfold spn onl; rw [hp, if_pos]
  rw [decide_eq_true_iff]
  dsimp only; omega
theorem rch_onl' {c : Cal} {k : Int} (h : onl c k = false) : rch c k = false := by
  rcases hr : rch c k with _ | _
  · rfl
  · rw [rch_onl hr] at h; cases h
theorem tdq {p : Int} (h : 1 ≤ p) : Int.tdiv 8796093022208 p = 8796093022208 / p ∧ Int.tdiv (-8796093022208) p = -(8796093022208 / p) ∧ 0 ≤ 8796093022208 / p ∧ 8796093022208 / p ≤ 8796093022208 :=
  ⟨Int.tdiv_eq_ediv_of_nonneg (by omega), by rw [Int.neg_tdiv, Int.tdiv_eq_ediv_of_nonneg (by omega)], Int.ediv_nonneg (by omega) (by omega), Int.ediv_le_self _ (by omega)⟩
set_option maxRecDepth 20000 in
set_option maxHeartbeats 3200000 in
theorem Span_any {A : Option Addr} {n cp : Nat} {o p : Int} {l : List (Int × Int)} (k : Int) (w : World) (h : Hid (Sr w A n cp l)) (hv : Hid (vld ⟨o, p, l⟩ = true)) (k1 : -9223372036854775808 ≤ k) (k2 : k ≤ 9223372036854775807) :
    Calls Try.prog 16 #[.agg #[.int .i64 o, .int .i64 p, .slice A n cp], .int .i64 k] w fun e w' => e = .returned (.tuple #[.agg #[.int .i64 (spn ⟨o, p, l⟩ k).1.1, .int .i64 (spn ⟨o, p, l⟩ k).1.2], .int .i64 (spn ⟨o, p, l⟩ k).2]) ∧ Below w.heap.size w w' := by
  have V := hVc hv
  have hnc := h.out.nc
  have hc63 := h.out.c63
  have hl := Lib.hid h.out.len
  have hn1 : 1 ≤ n := by have : 1 ≤ l.length := V.out.n1; have := hl.out; omega
  have hn2 : n ≤ 5000 := by have : l.length ≤ 5000 := V.out.n2; have := hl.out; omega
  have o1 : -2199023255552 ≤ o := V.out.o1
  have o2 : o ≤ 2199023255552 := V.out.o2
  have p1 : 1 ≤ p := V.out.p1
  have p2 : p ≤ 12622780800 := V.out.p2
  obtain ⟨T1, T2, Q0, Q1⟩ := tdq p1
  obtain ⟨q, hq⟩ : ∃ q, k / (n : Int) = q := ⟨_, rfl⟩
  obtain ⟨Q, hQ⟩ : ∃ Q, 8796093022208 / p = Q := ⟨_, rfl⟩
  rw [hQ] at T1 T2 Q0 Q1
  have FK : Hid (farK ⟨o, p, l⟩ k = decide (q > Q ∨ q < -Q - 1)) := Lib.hid (by
    unfold farK
    show decide (k / (l.length : Int) > 8796093022208 / p ∨ k / (l.length : Int) < -(8796093022208 / p) - 1) = _
    rw [← hl.out, hq, hQ])
  have HQ := Lib.hid hq
  have hp0 : p ≠ 0 := by omega
  have hp0' : (p == 0) = false := by simp; omega
  have hpm : (p == -1) = false := by simp; omega
  clear hq
  obtain ⟨W0, hW0⟩ : ∃ W0, (w.alloc (.cells #[.int .i64 o, .int .i64 p, .slice A n cp] 24)).alloc (.cells #[.int .i64 0, .int .i64 0] 35) = W0 := ⟨_, rfl⟩
  have F0 : Hid (Fx w W0 w.heap.size o p A n cp l) := Lib.hid (by rw [← hW0]; exact (Fx.new _ _ h.out).alloc _)
  have S0 : Hid (Sb W0 (w.heap.size + 1) 0 0) := Lib.hid (by rw [← hW0]; have := Sb.new (w.alloc (.cells #[.int .i64 o, .int .i64 p, .slice A n cp] 24)) 0 0 35; simpa using this)
  have HW0 := Lib.hid hW0
  clear hW0
  obtain ⟨z0, c0, c1, c2⟩ := F0.out.bx
  by_cases hf : q > Q
  · have R := Lib.hid (spn_far V.out (k := k) (by rw [FK.out]; exact decide_eq_true (by omega)))
    have d1 : decide (q > Q) = true := by simpa using hf
    go_enter Try.func16, Try.ntmps16
    go_wp2_with fail
    rw [HW0.out]
    go_at_call 43
    refine (Valid_any o p _ (Fx.hsr F0)).mono ?_
    rintro e w1 ⟨rfl, b1⟩
    rw [hv.out]
    have F1 := Lib.hid (F0.out.step b1)
    have S1 := Lib.hid (S0.out.below b1)
    clear c0 c1 c2 z0
    obtain ⟨z0, c0, c1, c2⟩ := F1.out.bx
    go_wp2_with fail
    go_at_call 51
    refine (FloorB k (n : Int) _ k1 k2 (by omega) (by omega)).mono ?_
    rintro e w2 ⟨rfl, b2⟩
    rw [HQ.out]
    have F2 := Lib.hid (F1.out.step b2)
    have S2 := Lib.hid (S1.out.below b2)
    clear c0 c1 c2 z0
    obtain ⟨z0, c0, c1, c2⟩ := F2.out.bx
    obtain ⟨t0, e0, e1, f0, f1⟩ := S2.out
    go_wp2_with fail
    exact bodyPost_ret (v := .tuple #[.agg #[.int .i64 0, .int .i64 0], .int .i64 2]) (by simp [results, Try.results16, go_sem, e0, e1, t0]) rfl ⟨ret_val (by rw [R.out]), (F2.out.bel.setCell (by simp) _).setCell (by simp) _⟩
  · by_cases hg : q < -Q - 1
    · have R := Lib.hid (spn_far V.out (k := k) (by rw [FK.out]; exact decide_eq_true (by omega)))
      have d1 : decide (q > Q) = false := by simpa using hf
      have d2 : decide (q < -Q - 1) = true := by simpa using hg
      go_enter Try.func16, Try.ntmps16
      go_wp2_with fail
      rw [HW0.out]
      go_at_call 43
      refine (Valid_any o p _ (Fx.hsr F0)).mono ?_
      rintro e w1 ⟨rfl, b1⟩
      rw [hv.out]
      have F1 := Lib.hid (F0.out.step b1)
      have S1 := Lib.hid (S0.out.below b1)
      clear c0 c1 c2 z0
      obtain ⟨z0, c0, c1, c2⟩ := F1.out.bx
      go_wp2_with fail
      go_at_call 51
      refine (FloorB k (n : Int) _ k1 k2 (by omega) (by omega)).mono ?_
      rintro e w2 ⟨rfl, b2⟩
      rw [HQ.out]
      have F2 := Lib.hid (F1.out.step b2)
      have S2 := Lib.hid (S1.out.below b2)
      clear c0 c1 c2 z0
      obtain ⟨z0, c0, c1, c2⟩ := F2.out.bx
      obtain ⟨t0, e0, e1, f0, f1⟩ := S2.out
      go_wp2_with fail
      exact bodyPost_ret (v := .tuple #[.agg #[.int .i64 0, .int .i64 0], .int .i64 2]) (by simp [results, Try.results16, go_sem, e0, e1, t0]) rfl ⟨ret_val (by rw [R.out]), (F2.out.bel.setCell (by simp) _).setCell (by simp) _⟩
    · have B := Lib.hid (V.out.far_b (k := k) (by rw [FK.out]; exact decide_eq_false (by omega)))
      have d1 : decide (q > Q) = false := by simpa using hf
      have d2 : decide (q < -Q - 1) = false := by simpa using hg
      obtain ⟨⟨u, v⟩, huv⟩ : ∃ s, pl ⟨o, p, l⟩ k = s := ⟨_, rfl⟩
      have HP := Lib.hid huv
      have HL : Hid (u < v) := Lib.hid (by have := V.out.pl_lt k; rw [huv] at this; exact this)
      clear huv
      rcases HU : line u with _ | _
      · have R := Lib.hid (spn_no HP.out (.inl HU) HL.out)
        go_enter Try.func16, Try.ntmps16
        go_wp2_with fail
        rw [HW0.out]
        go_at_call 43
        refine (Valid_any o p _ (Fx.hsr F0)).mono ?_
        rintro e w1 ⟨rfl, b1⟩
        rw [hv.out]
        have F1 := Lib.hid (F0.out.step b1)
        have S1 := Lib.hid (S0.out.below b1)
        clear c0 c1 c2 z0
        obtain ⟨z0, c0, c1, c2⟩ := F1.out.bx
        go_wp2_with fail
        go_at_call 51
        refine (FloorB k (n : Int) _ k1 k2 (by omega) (by omega)).mono ?_
        rintro e w2 ⟨rfl, b2⟩
        rw [HQ.out]
        have F2 := Lib.hid (F1.out.step b2)
        have S2 := Lib.hid (S1.out.below b2)
        clear c0 c1 c2 z0
        obtain ⟨z0, c0, c1, c2⟩ := F2.out.bx
        obtain ⟨t0, e0, e1, f0, f1⟩ := S2.out
        go_wp2_with fail
        go_at_call 50
        refine (at_at _ (Fx.hsr F2) V B HP).mono ?_
        rintro e w3 ⟨rfl, b3⟩
        have F3 := Lib.hid (F2.out.step b3)
        have S3 := Lib.hid (S2.out.below b3)
        have F4 := Lib.hid (F3.out.step (bal w3 (.cells #[.int .i64 u, .int .i64 v] 35)))
        have S4 := Lib.hid (S3.out.below (bal w3 (.cells #[.int .i64 u, .int .i64 v] 35)))
        have U4 := Lib.hid (Sb.new w3 u v 35)
        clear c0 c1 c2 z0 t0 e0 e1 f0 f1
        obtain ⟨W4, hW4⟩ : ∃ W4, w3.alloc (.cells #[.int .i64 u, .int .i64 v] 35) = W4 := ⟨_, rfl⟩
        rw [hW4] at F4 S4 U4
        have HW4 := Lib.hid hW4
        clear hW4
        obtain ⟨z0, c0, c1, c2⟩ := F4.out.bx
        obtain ⟨t0, e0, e1, f0, f1⟩ := S4.out
        obtain ⟨i0, j0, j1, g0, g1⟩ := U4.out
        go_wp2_with fail
        rw [HW4.out]
        go_at_call 48
        refine (gline_any u _).mono ?_
        rintro e w5 ⟨rfl, rfl⟩
        rw [HU]
        go_wp2_with fail
        exact bodyPost_ret (v := .tuple #[.agg #[.int .i64 0, .int .i64 0], .int .i64 2]) (by simp [results, Try.results16, go_sem, e0, e1, t0]) rfl ⟨ret_val (by rw [R.out]), (F4.out.bel.setCell (by simp) _).setCell (by simp) _⟩
      · rcases HV : line v with _ | _
        · have R := Lib.hid (spn_no HP.out (.inr HV) HL.out)
          go_enter Try.func16, Try.ntmps16
          go_wp2_with fail
          rw [HW0.out]
          go_at_call 43
          refine (Valid_any o p _ (Fx.hsr F0)).mono ?_
          rintro e w1 ⟨rfl, b1⟩
          rw [hv.out]
          have F1 := Lib.hid (F0.out.step b1)
          have S1 := Lib.hid (S0.out.below b1)
          clear c0 c1 c2 z0
          obtain ⟨z0, c0, c1, c2⟩ := F1.out.bx
          go_wp2_with fail
          go_at_call 51
          refine (FloorB k (n : Int) _ k1 k2 (by omega) (by omega)).mono ?_
          rintro e w2 ⟨rfl, b2⟩
          rw [HQ.out]
          have F2 := Lib.hid (F1.out.step b2)
          have S2 := Lib.hid (S1.out.below b2)
          clear c0 c1 c2 z0
          obtain ⟨z0, c0, c1, c2⟩ := F2.out.bx
          obtain ⟨t0, e0, e1, f0, f1⟩ := S2.out
          go_wp2_with fail
          go_at_call 50
          refine (at_at _ (Fx.hsr F2) V B HP).mono ?_
          rintro e w3 ⟨rfl, b3⟩
          have F3 := Lib.hid (F2.out.step b3)
          have S3 := Lib.hid (S2.out.below b3)
          have F4 := Lib.hid (F3.out.step (bal w3 (.cells #[.int .i64 u, .int .i64 v] 35)))
          have S4 := Lib.hid (S3.out.below (bal w3 (.cells #[.int .i64 u, .int .i64 v] 35)))
          have U4 := Lib.hid (Sb.new w3 u v 35)
          clear c0 c1 c2 z0 t0 e0 e1 f0 f1
          obtain ⟨W4, hW4⟩ : ∃ W4, w3.alloc (.cells #[.int .i64 u, .int .i64 v] 35) = W4 := ⟨_, rfl⟩
          rw [hW4] at F4 S4 U4
          have HW4 := Lib.hid hW4
          clear hW4
          obtain ⟨z0, c0, c1, c2⟩ := F4.out.bx
          obtain ⟨t0, e0, e1, f0, f1⟩ := S4.out
          obtain ⟨i0, j0, j1, g0, g1⟩ := U4.out
          go_wp2_with fail
          rw [HW4.out]
          go_at_call 48
          refine (gline_any u _).mono ?_
          rintro e w5 ⟨rfl, rfl⟩
          rw [HU]
          go_wp2_with fail
          go_at_call 48
          refine (gline_any v _).mono ?_
          rintro e w5 ⟨rfl, rfl⟩
          rw [HV]
          go_wp2_with fail
          exact bodyPost_ret (v := .tuple #[.agg #[.int .i64 0, .int .i64 0], .int .i64 2]) (by simp [results, Try.results16, go_sem, e0, e1, t0]) rfl ⟨ret_val (by rw [R.out]), (F4.out.bel.setCell (by simp) _).setCell (by simp) _⟩
        · have R := Lib.hid (spn_yes HP.out HU HV)
          go_enter Try.func16, Try.ntmps16
          go_wp2_with fail
          rw [HW0.out]
          go_at_call 43
          refine (Valid_any o p _ (Fx.hsr F0)).mono ?_
          rintro e w1 ⟨rfl, b1⟩
          rw [hv.out]
          have F1 := Lib.hid (F0.out.step b1)
          have S1 := Lib.hid (S0.out.below b1)
          clear c0 c1 c2 z0
          obtain ⟨z0, c0, c1, c2⟩ := F1.out.bx
          go_wp2_with fail
          go_at_call 51
          refine (FloorB k (n : Int) _ k1 k2 (by omega) (by omega)).mono ?_
          rintro e w2 ⟨rfl, b2⟩
          rw [HQ.out]
          have F2 := Lib.hid (F1.out.step b2)
          have S2 := Lib.hid (S1.out.below b2)
          clear c0 c1 c2 z0
          obtain ⟨z0, c0, c1, c2⟩ := F2.out.bx
          obtain ⟨t0, e0, e1, f0, f1⟩ := S2.out
          go_wp2_with fail
          go_at_call 50
          refine (at_at _ (Fx.hsr F2) V B HP).mono ?_
          rintro e w3 ⟨rfl, b3⟩
          have F3 := Lib.hid (F2.out.step b3)
          have S3 := Lib.hid (S2.out.below b3)
          have F4 := Lib.hid (F3.out.step (bal w3 (.cells #[.int .i64 u, .int .i64 v] 35)))
          have S4 := Lib.hid (S3.out.below (bal w3 (.cells #[.int .i64 u, .int .i64 v] 35)))
          have U4 := Lib.hid (Sb.new w3 u v 35)
          clear c0 c1 c2 z0 t0 e0 e1 f0 f1
          obtain ⟨W4, hW4⟩ : ∃ W4, w3.alloc (.cells #[.int .i64 u, .int .i64 v] 35) = W4 := ⟨_, rfl⟩
          rw [hW4] at F4 S4 U4
          have HW4 := Lib.hid hW4
          clear hW4
          obtain ⟨z0, c0, c1, c2⟩ := F4.out.bx
          obtain ⟨t0, e0, e1, f0, f1⟩ := S4.out
          obtain ⟨i0, j0, j1, g0, g1⟩ := U4.out
          go_wp2_with fail
          rw [HW4.out]
          go_at_call 48
          refine (gline_any u _).mono ?_
          rintro e w5 ⟨rfl, rfl⟩
          rw [HU]
          go_wp2_with fail
          go_at_call 48
          refine (gline_any v _).mono ?_
          rintro e w5 ⟨rfl, rfl⟩
          rw [HV]
          go_wp2_with fail
          exact bodyPost_ret (v := .tuple #[.agg #[.int .i64 u, .int .i64 v], .int .i64 0]) (by simp [results, Try.results16, go_sem, e0, e1, t0]) rfl ⟨ret_val (by rw [R.out]), (F4.out.bel.setCell (by simp) _).setCell (by simp) _⟩
end Go.Proofs.Ytainibnjpkbfpaa.Cv
