/- Walks: near, at. -/
import Derived.Test.YtainibnjpkbfpaaCalW6
namespace Go.Proofs.Ytainibnjpkbfpaa.Cv
set_option linter.unusedVariables false
set_option linter.unusedSimpArgs false
open Go.RowKit Wl

theorem qn_bd {x p n : Int} (h1 : -70368744177664 ≤ x) (h2 : x ≤ 70368744177664) (p1 : 1 ≤ p) (p2 : p ≤ 12622780800) (n1 : 1 ≤ n) (np : n ≤ p) :
    -1125899906842624 ≤ (x / p) * n ∧ (x / p) * n ≤ 1125899906842624 ∧ -1125899906842624 ≤ p * (x / p) ∧ p * (x / p) ≤ 1125899906842624 ∧ -1125899906842624 ≤ x / p ∧ x / p ≤ 1125899906842624 := by
  have r0 := Int.emod_nonneg x (show p ≠ 0 by omega)
  have r1 := Int.emod_lt_of_pos x (show 0 < p by omega)
  have r2 := Int.mul_ediv_add_emod x p
  rcases Int.lt_or_le (x / p) 0 with h | h
  · have a1 : (x / p) * p ≤ (x / p) * n := Int.mul_le_mul_of_nonpos_left (by omega) np
    have a2 : (x / p) * n ≤ (x / p) * 1 := Int.mul_le_mul_of_nonpos_left (by omega) n1
    rw [Int.mul_comm (x / p) p] at a1
    omega
  · have a1 : (x / p) * n ≤ (x / p) * p := Int.mul_le_mul_of_nonneg_left np h
    have a2 : (x / p) * 1 ≤ (x / p) * n := Int.mul_le_mul_of_nonneg_left n1 h
    rw [Int.mul_comm (x / p) p] at a1
    omega
theorem nr_eq {o p : Int} {l : List (Int × Int)} {x q r : Int} {n : Nat} (hn : n = l.length) (hq : (x - o) / p = q) (hr : (x - o) % p = r) : nr ⟨o, p, l⟩ x = q * (n : Int) + (idx l r n : Int) := by
  unfold nr
  show (l.length : Int) * ((x - o) / p) + (idx l ((x - o) % p) l.length : Int) = _
  rw [← hn, hq, hr, Int.mul_comm]
theorem idx_y {l : List (Int × Int)} {r : Int} {j : Nat} (h : (gt l j).1 ≤ r) : idx l r (j + 1) = j := by rw [idx, if_pos h]
theorem idx_n {l : List (Int × Int)} {r : Int} {j : Nat} (h : ¬ (gt l j).1 ≤ r) : idx l r (j + 1) = idx l r j := by rw [idx, if_neg h]
set_option maxHeartbeats 1600000 in
theorem near_any {A : Option Addr} {n cp : Nat} {o p : Int} {l : List (Int × Int)} (x : Int) (w : World) (h : Hid (Sr w A n cp l)) (hv : Hid (Vc ⟨o, p, l⟩)) (k1 : -35184372088832 ≤ x) (k2 : x ≤ 35184372088832) :
    Calls Try.prog 55 #[.agg #[.int .i64 o, .int .i64 p, .slice A n cp], .int .i64 x] w fun e w' => e = .returned (.int .i64 (nr ⟨o, p, l⟩ x)) ∧ Below w.heap.size w w' := by
  have hnc := h.out.nc
  have hc63 := h.out.c63
  have hl := Lib.hid h.out.len
  have hn1 : 1 ≤ n := by have : 1 ≤ l.length := hv.out.n1; have := hl.out; omega
  have hn2 : n ≤ 5000 := by have : l.length ≤ 5000 := hv.out.n2; have := hl.out; omega
  have o1 : -2199023255552 ≤ o := hv.out.o1
  have o2 : o ≤ 2199023255552 := hv.out.o2
  have p1 : 1 ≤ p := hv.out.p1
  have p2 : p ≤ 12622780800 := hv.out.p2
  have np : (n : Int) ≤ p := by have : (l.length : Int) ≤ p := hv.out.np; have := hl.out; omega
  obtain ⟨m1, m2, _, _, _, _⟩ := qn_bd (x := x - o) (p := p) (n := n) (by omega) (by omega) p1 p2 (by omega) np
  obtain ⟨q, hq⟩ : ∃ q, (x - o) / p = q := ⟨_, rfl⟩
  obtain ⟨r, hr⟩ : ∃ r, (x - o) % p = r := ⟨_, rfl⟩
  have HN := Lib.hid (nr_eq hl.out hq hr)
  rw [hq] at m1 m2
  have HQ := Lib.hid hq
  have HR := Lib.hid hr
  obtain ⟨W0, hW0⟩ : ∃ W0, w.alloc (.cells #[.int .i64 o, .int .i64 p, .slice A n cp] 24) = W0 := ⟨_, rfl⟩
  have hb0 : Below w.heap.size w W0 := hW0 ▸ bal _ _
  have bx : Bx W0 w.heap.size o p A n cp := hW0 ▸ Bx.new _ _ _ _ _ _ _
  have h0 := Lib.hid (h.out.below hb0)
  have HW0 := Lib.hid hW0
  have BX := Lib.hid bx
  clear hW0 hq hr
  obtain ⟨z0, c0, c1, c2⟩ := bx
  go_enter Try.func55, Try.ntmps55
  go_wp2_with fail
  rw [HW0.out]
  go_at_call 77
  refine (DivB (x - o) p _ (by omega) (by omega) p1 (by omega)).mono ?_
  rintro e w1 ⟨rfl, b1⟩
  rw [HQ.out, HR.out]
  obtain ⟨z1, d0, d1, d2⟩ := BX.out.below b1
  have h1 := Lib.hid (h0.out.below b1)
  have bw1 := hb0.trans (b1.mono hb0.size)
  clear c0 c1 c2 b1
  go_wp2_with fail
  go_loopw [8, 25] (fun kv iv wr => ∃ (j : Nat), j ≤ n ∧ iv = .int .i64 j ∧ kv = .int .i64 (idx l r j : Nat) ∧ Below w1.heap.size w1 wr) (fun _ i _ => (n - intOf i).toNat)
  case atStart => exact ⟨0, by omega, rfl, rfl, Below.refl _ _⟩
  case round =>
    obtain ⟨j, hj, rfl, rfl, bw⟩ := hrel
    have hz := bw.size
    by_cases hlt : j < n
    · obtain ⟨g, of_, rfl, hg, a0, a1⟩ := (h1.out.below bw).at_ hlt
      obtain ⟨y, hy⟩ : ∃ y, (gt l j).1 = y := ⟨_, rfl⟩
      obtain ⟨y', hy'⟩ : ∃ y, (gt l j).2 = y := ⟨_, rfl⟩
      rw [hy] at a0
      rw [hy'] at a1
      have HY := Lib.hid hy
      obtain ⟨ix, hix⟩ : ∃ ix, idx l r j = ix := ⟨_, rfl⟩
      have HIX := Lib.hid hix
      rw [hix]
      clear hy hy' hix
      by_cases hs : y ≤ r
      · have R := Lib.hid (idx_y (l := l) (r := r) (j := j) (by rw [HY.out]; exact hs))
        have hs' : decide (y ≤ r) = true := by simpa using hs
        go_wp2_with fail
        go_roundw
        case rel => exact ⟨j + 1, by omega, by go_num, by rw [R.out], bel_alloc bw (Nat.le_refl _) _⟩
        case measure => simp [intOf]; omega
      · have R := Lib.hid (idx_n (l := l) (r := r) (j := j) (by rw [HY.out]; exact hs))
        have hs' : decide (y ≤ r) = false := by simpa using hs
        go_wp2_with fail
        go_roundw
        case rel => exact ⟨j + 1, by omega, by go_num, by rw [R.out, HIX.out], bel_alloc bw (Nat.le_refl _) _⟩
        case measure => simp [intOf]; omega
    · obtain rfl : j = n := by omega
      have hix2 := idx_le l r j
      obtain ⟨ix, hix⟩ : ∃ ix, idx l r j = ix := ⟨_, rfl⟩
      rw [hix] at hix2 HN ⊢
      have zz := (bw.cell (p := ⟨w.heap.size, 2, none⟩) z1).trans d2
      have zlt : w.heap.size < wr.heap.size := by omega
      clear hix
      go_wp2_with fail
      go_ret
      exact ⟨ret_int (by rw [HN.out]), bw1.trans (bw.mono bw1.size)⟩
set_option maxHeartbeats 1600000 in
theorem at_any {A : Option Addr} {n cp : Nat} {o p : Int} {l : List (Int × Int)} (k : Int) (w : World) (h : Hid (Sr w A n cp l)) (hv : Hid (Vc ⟨o, p, l⟩)) (k1 : -4611686018427387904 ≤ k) (k2 : k ≤ 4611686018427387904)
    (m1 : -1125899906842624 ≤ p * (k / (l.length : Int))) (m2 : p * (k / (l.length : Int)) ≤ 1125899906842624) :
    Calls Try.prog 50 #[.agg #[.int .i64 o, .int .i64 p, .slice A n cp], .int .i64 k] w fun e w' => e = .returned (.agg #[.int .i64 (pl ⟨o, p, l⟩ k).1, .int .i64 (pl ⟨o, p, l⟩ k).2]) ∧ Below w.heap.size w w' := by
  have hnc := h.out.nc
  have hc63 := h.out.c63
  have hl := Lib.hid h.out.len
  have hn1 : 1 ≤ n := by have : 1 ≤ l.length := hv.out.n1; have := hl.out; omega
  have hn2 : n ≤ 5000 := by have : l.length ≤ 5000 := hv.out.n2; have := hl.out; omega
  have o1 : -2199023255552 ≤ o := hv.out.o1
  have o2 : o ≤ 2199023255552 := hv.out.o2
  have p1 : 1 ≤ p := hv.out.p1
  have p2 : p ≤ 12622780800 := hv.out.p2
  rw [← hl.out] at m1 m2
  obtain ⟨q, hq⟩ : ∃ q, k / (n : Int) = q := ⟨_, rfl⟩
  have r0 := Int.emod_nonneg k (show (n : Int) ≠ 0 by omega)
  have r1 := Int.emod_lt_of_pos k (show (0 : Int) < n by omega)
  have r2 := Int.mul_ediv_add_emod k (n : Int)
  obtain ⟨i, hi⟩ := Int.eq_ofNat_of_zero_le r0
  have hin : i < n := by omega
  rw [hq] at m1 m2 r2
  rw [hi] at r2
  have hki : k - (n : Int) * q = (i : Int) := by omega
  have nq1 : -9223372036854775808 ≤ (n : Int) * q := by omega
  have nq2 : (n : Int) * q ≤ 9223372036854775807 := by omega
  have HP : Hid (pl ⟨o, p, l⟩ k = ((gt l i).1 + (o + p * q), (gt l i).2 + (o + p * q))) := Lib.hid (by
    unfold pl
    show ((gt l (k % (l.length : Int)).toNat).1 + (o + p * (k / (l.length : Int))), (gt l (k % (l.length : Int)).toNat).2 + (o + p * (k / (l.length : Int)))) = _
    rw [← hl.out, hq, hi]; rfl)
  obtain ⟨x, hx⟩ : ∃ x, (gt l i).1 = x := ⟨_, rfl⟩
  obtain ⟨y, hy⟩ : ∃ y, (gt l i).2 = y := ⟨_, rfl⟩
  have hil : i < l.length := by have := hl.out; omega
  have x0 : (i : Int) ≤ (gt l i).1 := hv.out.lo hil
  have xy : (gt l i).1 < (gt l i).2 := hv.out.lt i hil
  have y1 : (gt l i).2 ≤ p := hv.out.up hil
  rw [hx] at HP x0 xy
  rw [hy] at HP xy y1
  have HX := Lib.hid hx
  have HY := Lib.hid hy
  have HQ := Lib.hid hq
  obtain ⟨W0, hW0⟩ : ∃ W0, (w.alloc (.cells #[.int .i64 o, .int .i64 p, .slice A n cp] 24)).alloc (.cells #[.int .i64 0, .int .i64 0] 35) = W0 := ⟨_, rfl⟩
  have hb0 : Below w.heap.size w W0 := hW0 ▸ (bal _ _).trans ((bal _ _).mono (by simp))
  have bx : Bx W0 w.heap.size o p A n cp := hW0 ▸ (Bx.new _ _ _ _ _ _ _).below (bal _ _)
  have sb : Sb W0 (w.heap.size + 1) 0 0 := hW0 ▸ (by have := Sb.new (w.alloc (.cells #[.int .i64 o, .int .i64 p, .slice A n cp] 24)) 0 0 35; simpa using this)
  have h0 := Lib.hid (h.out.below hb0)
  have HW0 := Lib.hid hW0
  clear hW0 hx hy hq hi r0 r1 hil r2
  obtain ⟨z0, c0, c1, c2⟩ := bx
  go_enter Try.func50, Try.ntmps50
  go_wp2_with fail
  rw [HW0.out]
  go_at_call 51
  refine (FloorB k (n : Int) _ (by omega) (by omega) (by omega) (by omega)).mono ?_
  rintro e w1 ⟨rfl, b1⟩
  rw [HQ.out]
  obtain ⟨t0, e0, e1, f0, f1⟩ := sb.below b1
  have h1 := Lib.hid (h0.out.below b1)
  obtain ⟨g, of_, rfl, hg, a0, a1⟩ := h1.out.at_ hin
  rw [HX.out] at a0
  rw [HY.out] at a1
  have hb1 := hb0.trans (b1.mono hb0.size)
  have d0 := (b1.cell (p := ⟨w.heap.size, 0, none⟩) z0).trans c0
  have d1 := (b1.cell (p := ⟨w.heap.size, 1, none⟩) z0).trans c1
  have d2 := (b1.cell (p := ⟨w.heap.size, 2, none⟩) z0).trans c2
  have zz := b1.size
  have z1 : w.heap.size < w1.heap.size := by omega
  clear c0 c1 c2 sb b1
  go_wp2_with fail
  exact bodyPost_ret (v := .agg #[.int .i64 (x + (o + p * q)), .int .i64 (y + (o + p * q))]) (by simp [results, Try.results50, go_sem, e0, e1, t0]) rfl ⟨ret_val (by rw [HP.out]), bel_alloc ((hb1.setCell (by simp) _).setCell (by simp) _) (Nat.le_refl _) _⟩
end Go.Proofs.Ytainibnjpkbfpaa.Cv
