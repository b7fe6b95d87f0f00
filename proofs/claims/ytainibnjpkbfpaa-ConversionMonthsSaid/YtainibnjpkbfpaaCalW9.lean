/- Walks: the reference's Granule and Reach. -/
import Derived.Test.YtainibnjpkbfpaaCalW8
namespace Go.Proofs.Ytainibnjpkbfpaa.Cv
set_option linter.unusedVariables false
set_option linter.unusedSimpArgs false
open Go.RowKit Wl

theorem grk_eq {o p k q : Int} {l : List (Int × Int)} {n : Nat} (hn : n = l.length) (hq : k / (n : Int) = q) : grk ⟨o, p, l⟩ k = decide (-17592186044416 ≤ k ∧ k ≤ 17592186044416 ∧ -35184372088832 ≤ p * q ∧ p * q ≤ 35184372088832) := by
  unfold grk
  show decide (-17592186044416 ≤ k ∧ k ≤ 17592186044416 ∧ -35184372088832 ≤ p * (k / (l.length : Int)) ∧ p * (k / (l.length : Int)) ≤ 35184372088832) = _
  rw [← hn, hq]
/-- The granule, or the span of two zeros. -/
def gz (c : Cal) (k : Int) : Int × Int := if grk c k = true then pl c k else (0, 0)
set_option maxRecDepth 20000 in
set_option maxHeartbeats 3200000 in
theorem rGranule_any {A : Option Addr} {n cp : Nat} {o p : Int} {l : List (Int × Int)} (k : Int) (w : World) (h : Hid (Sr w A n cp l)) (hv : Hid (Vc ⟨o, p, l⟩)) (k1 : -9223372036854775808 ≤ k) (k2 : k ≤ 9223372036854775807) :
    Calls Try.prog 28 #[.agg #[.int .i64 o, .int .i64 p, .slice A n cp], .int .i64 k] w fun e w' => e = .returned (.tuple #[.agg #[.int .i64 (gz ⟨o, p, l⟩ k).1, .int .i64 (gz ⟨o, p, l⟩ k).2], .bool (grk ⟨o, p, l⟩ k)]) ∧ Below w.heap.size w w' := by
  have hnc := h.out.nc
  have hc63 := h.out.c63
  have hl := Lib.hid h.out.len
  have hn1 : 1 ≤ n := by have : 1 ≤ l.length := hv.out.n1; have := hl.out; omega
  have hn2 : n ≤ 5000 := by have : l.length ≤ 5000 := hv.out.n2; have := hl.out; omega
  have o1 : -2199023255552 ≤ o := hv.out.o1
  have o2 : o ≤ 2199023255552 := hv.out.o2
  have p1 : 1 ≤ p := hv.out.p1
  have p2 : p ≤ 12622780800 := hv.out.p2
  obtain ⟨q, hq⟩ : ∃ q, k / (n : Int) = q := ⟨_, rfl⟩
  have r0 := Int.emod_nonneg k (show (n : Int) ≠ 0 by omega)
  have r1 := Int.emod_lt_of_pos k (show (0 : Int) < n by omega)
  have r2 := Int.mul_ediv_add_emod k (n : Int)
  obtain ⟨i, hi⟩ := Int.eq_ofNat_of_zero_le r0
  have hin : i < n := by omega
  rw [hq] at r2
  rw [hi] at r2
  have HP : Hid (pl ⟨o, p, l⟩ k = ((gt l i).1 + (o + p * q), (gt l i).2 + (o + p * q))) := Lib.hid (by
    unfold pl
    show ((gt l (k % (l.length : Int)).toNat).1 + (o + p * (k / (l.length : Int))), (gt l (k % (l.length : Int)).toNat).2 + (o + p * (k / (l.length : Int)))) = _
    rw [← hl.out, hq, hi]; rfl)
  obtain ⟨x, hx⟩ : ∃ x, (gt l i).1 = x := ⟨_, rfl⟩
  obtain ⟨y, hy⟩ : ∃ y, (gt l i).2 = y := ⟨_, rfl⟩
  have hil : i < l.length := by have := hl.out; omega
  have x0 : (i : Int) ≤ (gt l i).1 := hv.out.lo hil
  have xy : (gt l i).1 < (gt l i).2 := hv.out.lt i hil
  have y1 : (gt l i).2 ≤ p := hv.out.up hil
  rw [hx] at HP x0 xy
  rw [hy] at HP xy y1
  have HX := Lib.hid hx
  have HY := Lib.hid hy
  have HQ := Lib.hid hq
  have HI := Lib.hid hi
  have HG := Lib.hid (grk_eq (o := o) (p := p) (k := k) hl.out hq)
  obtain ⟨W0, hW0⟩ : ∃ W0, (w.alloc (.cells #[.int .i64 o, .int .i64 p, .slice A n cp] 24)).alloc (.cells #[.int .i64 0, .int .i64 0] 35) = W0 := ⟨_, rfl⟩
  have hb0 : Below w.heap.size w W0 := hW0 ▸ (bal _ _).trans ((bal _ _).mono (by simp))
  have bx : Bx W0 w.heap.size o p A n cp := hW0 ▸ (Bx.new _ _ _ _ _ _ _).below (bal _ _)
  have sb : Sb W0 (w.heap.size + 1) 0 0 := hW0 ▸ (by have := Sb.new (w.alloc (.cells #[.int .i64 o, .int .i64 p, .slice A n cp] 24)) 0 0 35; simpa using this)
  have h0 := Lib.hid (h.out.below hb0)
  have HW0 := Lib.hid hW0
  have BX := Lib.hid bx
  have SB := Lib.hid sb
  clear hW0 sb
  obtain ⟨z0, c0, c1, c2⟩ := bx
  obtain ⟨t0, e0, e1, f0, f1⟩ := SB.out
  clear hx hy hq hi r0 r1 hil
  have NO : grk ⟨o, p, l⟩ k = false → Hid (grk ⟨o, p, l⟩ k = false ∧ gz ⟨o, p, l⟩ k = (0, 0)) := fun h => Lib.hid ⟨h, by unfold gz; rw [h]; rfl⟩
  have fin : ∀ {w2 : World}, Below W0.heap.size W0 w2 → Below w.heap.size w w2 := fun hb => hb0.trans (hb.mono hb0.size)
  by_cases ha : k < -17592186044416
  · have R := NO (by rw [HG.out, decide_eq_false_iff_not]; omega)
    clear NO r2
    go_enter Try.func28, Try.ntmps28
    go_wp2_with fail
    rw [HW0.out]
    exact bodyPost_ret (v := .tuple #[.agg #[.int .i64 0, .int .i64 0], .bool false]) (by simp [results, Try.results28, go_sem, e0, e1, t0]) rfl ⟨ret_val (by rw [R.out.1, R.out.2]), fin (Below.refl _ _)⟩
  · have ha' : decide (k < -17592186044416) = false := by simp; omega
    by_cases hb : 17592186044416 < k
    · have R := NO (by rw [HG.out, decide_eq_false_iff_not]; omega)
      clear NO r2
      go_enter Try.func28, Try.ntmps28
      go_wp2_with fail
      rw [HW0.out]
      exact bodyPost_ret (v := .tuple #[.agg #[.int .i64 0, .int .i64 0], .bool false]) (by simp [results, Try.results28, go_sem, e0, e1, t0]) rfl ⟨ret_val (by rw [R.out.1, R.out.2]), fin (Below.refl _ _)⟩
    · have qb : -17592186049416 ≤ q ∧ q ≤ 17592186049416 := by
        have np : (1 : Int) ≤ n := by omega
        rcases Int.lt_or_le q 0 with h3 | h3
        · have a2 : q * (n : Int) ≤ q * 1 := Int.mul_le_mul_of_nonpos_left (by omega) np
          rw [Int.mul_comm] at a2
          omega
        · have a2 : q * 1 ≤ q * (n : Int) := Int.mul_le_mul_of_nonneg_left np h3
          rw [Int.mul_comm q (n : Int)] at a2
          omega
      obtain ⟨qb1, qb2⟩ := qb
      have hb' : decide (17592186044416 < k) = false := by simp; omega
      clear r2
      by_cases hbig : -9223372036854775808 ≤ p * q ∧ p * q ≤ 9223372036854775807
      · obtain ⟨hm1, hm2⟩ := hbig
        by_cases hc : p * q < -35184372088832
        · have R := NO (by rw [HG.out, decide_eq_false_iff_not]; omega)
          have hc' : decide (p * q < -35184372088832) = true := by simp; omega
          clear NO
          go_enter Try.func28, Try.ntmps28
          go_wp2_with fail
          rw [HW0.out]
          go_at_call 58
          refine (rDivB k (n : Int) _ k1 k2 (by omega) (by omega)).mono ?_
          rintro e w1 ⟨rfl, b1⟩
          rw [HQ.out, HI.out]
          obtain ⟨z1, d0, d1, d2⟩ := BX.out.below b1
          have s1 := Lib.hid (SB.out.below b1)
          have h1 := Lib.hid (h0.out.below b1)
          clear c0 c1 c2 t0 e0 e1 f0 f1
          go_wp2_with fail
          go_at_call 59
          refine (rMulB p q _ (by omega) (by omega) (by omega) (by omega) hm1 hm2).mono ?_
          rintro e w2 ⟨rfl, b2⟩
          obtain ⟨t0, e0, e1, f0, f1⟩ := s1.out.below b2
          have b12 := b1.trans (b2.mono b1.size)
          obtain ⟨z2, d0, d1, d2⟩ := (BX.out.below b1).below b2
          have h2 := Lib.hid (h1.out.below b2)
          go_wp2_with fail
          exact bodyPost_ret (v := .tuple #[.agg #[.int .i64 0, .int .i64 0], .bool false]) (by simp [results, Try.results28, go_sem, e0, e1, t0]) rfl ⟨ret_val (by rw [R.out.1, R.out.2]), ((fin b12).setCell (by simp) _).setCell (by simp) _⟩
        · have hc' : decide (p * q < -35184372088832) = false := by simp; omega
          by_cases hd : 35184372088832 < p * q
          · have R := NO (by rw [HG.out, decide_eq_false_iff_not]; omega)
            have hd' : decide (35184372088832 < p * q) = true := by simp; omega
            clear NO
            go_enter Try.func28, Try.ntmps28
            go_wp2_with fail
            rw [HW0.out]
            go_at_call 58
            refine (rDivB k (n : Int) _ k1 k2 (by omega) (by omega)).mono ?_
            rintro e w1 ⟨rfl, b1⟩
            rw [HQ.out, HI.out]
            obtain ⟨z1, d0, d1, d2⟩ := BX.out.below b1
            have s1 := Lib.hid (SB.out.below b1)
            have h1 := Lib.hid (h0.out.below b1)
            clear c0 c1 c2 t0 e0 e1 f0 f1
            go_wp2_with fail
            go_at_call 59
            refine (rMulB p q _ (by omega) (by omega) (by omega) (by omega) hm1 hm2).mono ?_
            rintro e w2 ⟨rfl, b2⟩
            obtain ⟨t0, e0, e1, f0, f1⟩ := s1.out.below b2
            have b12 := b1.trans (b2.mono b1.size)
            obtain ⟨z2, d0, d1, d2⟩ := (BX.out.below b1).below b2
            have h2 := Lib.hid (h1.out.below b2)
            go_wp2_with fail
            exact bodyPost_ret (v := .tuple #[.agg #[.int .i64 0, .int .i64 0], .bool false]) (by simp [results, Try.results28, go_sem, e0, e1, t0]) rfl ⟨ret_val (by rw [R.out.1, R.out.2]), ((fin b12).setCell (by simp) _).setCell (by simp) _⟩
          · have R : Hid (grk ⟨o, p, l⟩ k = true ∧ gz ⟨o, p, l⟩ k = (x + (p * q + o), y + (p * q + o))) := Lib.hid (by
              have : grk ⟨o, p, l⟩ k = true := by rw [HG.out]; exact decide_eq_true (by omega)
              refine ⟨this, ?_⟩
              unfold gz
              rw [this, if_pos rfl, HP.out, Int.add_comm o (p * q)])
            have hd' : decide (35184372088832 < p * q) = false := by simp; omega
            clear NO
            go_enter Try.func28, Try.ntmps28
            go_wp2_with fail
            rw [HW0.out]
            go_at_call 58
            refine (rDivB k (n : Int) _ k1 k2 (by omega) (by omega)).mono ?_
            rintro e w1 ⟨rfl, b1⟩
            rw [HQ.out, HI.out]
            obtain ⟨z1, d0, d1, d2⟩ := BX.out.below b1
            have s1 := Lib.hid (SB.out.below b1)
            have h1 := Lib.hid (h0.out.below b1)
            clear c0 c1 c2 t0 e0 e1 f0 f1
            go_wp2_with fail
            go_at_call 59
            refine (rMulB p q _ (by omega) (by omega) (by omega) (by omega) hm1 hm2).mono ?_
            rintro e w2 ⟨rfl, b2⟩
            obtain ⟨t0, e0, e1, f0, f1⟩ := s1.out.below b2
            have b12 := b1.trans (b2.mono b1.size)
            obtain ⟨z2, d0, d1, d2⟩ := (BX.out.below b1).below b2
            have h2 := Lib.hid (h1.out.below b2)
            obtain ⟨g, of_, rfl, hg, a0, a1⟩ := h2.out.at_ hin
            rw [HX.out] at a0
            rw [HY.out] at a1
            go_wp2_with fail
            have hS := Abv.cells w2
            refine wp_region_abv_tail 17 (by kernel_rfl) (by kernel_rfl) ?_
            simp only [List.take_succ_cons, List.take_zero, List.drop_succ_cons, List.drop_zero]
            repeat (go_big_quiet_step ((fail)))
            refine wpQuiet_nil ?_
            rintro w3 hw3
            clear hS
            obtain ⟨t0, e0, e1, f0, f1⟩ := (s1.out.below b2).below hw3
            have b13 := b12.trans (hw3.mono b12.size)
            go_wp2_with fail
            exact bodyPost_ret (v := .tuple #[.agg #[.int .i64 (x + (p * q + o)), .int .i64 (y + (p * q + o))], .bool true]) (by simp [results, Try.results28, go_sem, e0, e1, t0]) rfl ⟨ret_val (by rw [R.out.1, R.out.2]), ((fin b13).setCell (by simp) _).setCell (by simp) _⟩
      · have R := NO (by rw [HG.out, decide_eq_false_iff_not]; omega)
        clear NO
        go_enter Try.func28, Try.ntmps28
        go_wp2_with fail
        rw [HW0.out]
        go_at_call 58
        refine (rDivB k (n : Int) _ k1 k2 (by omega) (by omega)).mono ?_
        rintro e w1 ⟨rfl, b1⟩
        rw [HQ.out, HI.out]
        obtain ⟨z1, d0, d1, d2⟩ := BX.out.below b1
        have s1 := Lib.hid (SB.out.below b1)
        have h1 := Lib.hid (h0.out.below b1)
        clear c0 c1 c2 t0 e0 e1 f0 f1
        go_wp2_with fail
        go_at_call 59
        refine (rMulX p q _ (by omega) (by omega) (by omega) (by omega) hbig).mono ?_
        rintro e w2 ⟨rfl, b2⟩
        obtain ⟨t0, e0, e1, f0, f1⟩ := s1.out.below b2
        have b12 := b1.trans (b2.mono b1.size)
        go_wp2_with fail
        exact bodyPost_ret (v := .tuple #[.agg #[.int .i64 0, .int .i64 0], .bool false]) (by simp [results, Try.results28, go_sem, e0, e1, t0]) rfl ⟨ret_val (by rw [R.out.1, R.out.2]), ((fin b12).setCell (by simp) _).setCell (by simp) _⟩
end Go.Proofs.Ytainibnjpkbfpaa.Cv
