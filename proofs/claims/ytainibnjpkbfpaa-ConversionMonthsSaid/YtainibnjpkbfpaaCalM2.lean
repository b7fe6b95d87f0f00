/- Plain: how far granules lie, which are in reach, inside and covering. -/
import Derived.Test.YtainibnjpkbfpaaCalM
namespace Go.Proofs.Ytainibnjpkbfpaa.Cv
set_option linter.unusedVariables false
set_option linter.unusedSimpArgs false

section
variable {c : Cal}
theorem Vc.per (h : Vc c) (k : Int) : pl c (k + c.l.length) = ((pl c k).1 + c.p, (pl c k).2 + c.p) := by
  obtain ⟨q, i, hi, rfl, _⟩ := split_k h.n1 k
  have e : (c.l.length * q + (i : Int) + c.l.length) = c.l.length * (q + 1) + (i : Int) := by rw [Int.mul_add]; omega
  rw [e, pl_at h.n1 _ hi, pl_at h.n1 _ hi, Int.mul_add]
  ext <;> dsimp only <;> omega
theorem Vc.step_le (h : Vc c) (k : Int) : (pl c (k + 1)).1 ≤ (pl c k).1 + c.p := by
  have h1 := congrArg Prod.fst (h.per k)
  dsimp only at h1
  rcases Int.lt_or_le (k + 1) (k + c.l.length) with h2 | h2
  · have := h.pl_lt1 h2; omega
  · have := h.n1
    rw [show k + 1 = k + (c.l.length : Int) by omega]; omega
theorem Vc.len_le (h : Vc c) (k : Int) : (pl c k).2 ≤ (pl c k).1 + c.p := by
  have := h.pl_nx k; have := h.step_le k; omega
/-- A number of a granule that is not too great. -/
structure Bk (c : Cal) (k : Int) : Prop where
  m1 : -1125899906842624 ≤ c.p * (k / c.l.length)
  m2 : c.p * (k / c.l.length) ≤ 1125899906842624
  k1 : -1125899906842624 ≤ k
  k2 : k ≤ 1125899906842624
theorem Vc.nq (h : Vc c) (q b : Int) (hb : 0 ≤ b) (h1 : -b ≤ c.p * q) (h2 : c.p * q ≤ b) : -b ≤ c.l.length * q ∧ c.l.length * q ≤ b := by
  have np := h.np
  rcases Int.lt_or_le q 0 with h3 | h3
  · have a1 : q * c.p ≤ q * c.l.length := Int.mul_le_mul_of_nonpos_left (by omega) np
    have a2 : q * c.l.length ≤ q * 0 := Int.mul_le_mul_of_nonpos_left (by omega) (by omega)
    rw [Int.mul_comm q c.p, Int.mul_comm q (c.l.length : Int)] at a1
    rw [Int.mul_comm q (c.l.length : Int)] at a2
    omega
  · have a1 : q * c.l.length ≤ q * c.p := Int.mul_le_mul_of_nonneg_left np h3
    have a2 : q * 0 ≤ q * c.l.length := Int.mul_le_mul_of_nonneg_left (by omega) h3
    rw [Int.mul_comm q c.p, Int.mul_comm q (c.l.length : Int)] at a1
    rw [Int.mul_comm q (c.l.length : Int)] at a2
    omega
theorem Vc.bd (h : Vc c) {k : Int} (b : Int) (hb : 0 ≤ b) (h1 : -b ≤ (pl c k).1) (h2 : (pl c k).1 ≤ b) :
    -(b + 2211646036352) ≤ c.p * (k / c.l.length) ∧ c.p * (k / c.l.length) ≤ b + 2199023255552 ∧ -(b + 2211646036352) ≤ k ∧ k ≤ b + 2211646036352 + 5000 := by
  obtain ⟨q, i, hi, rfl, hq, _⟩ := split_k h.n1 k
  rw [← hq]
  rw [pl_at h.n1 q hi] at h1 h2
  dsimp only at h1 h2
  have := h.lo hi
  have := h.up hi
  have := h.lt i hi
  have := h.p2
  have := h.o1
  have := h.o2
  have := h.n2
  have h3 := h.nq q (b + 2211646036352) (by omega) (by omega) (by omega)
  omega
theorem Vc.bk (h : Vc c) {k : Int} (h1 : -70368744177664 ≤ (pl c k).1) (h2 : (pl c k).1 ≤ 70368744177664) : Bk c k := by
  obtain ⟨a1, a2, a3, a4⟩ := h.bd 70368744177664 (by omega) (by omega) (by omega)
  exact ⟨by omega, by omega, by omega, by omega⟩
theorem Vc.nr_lo (h : Vc c) (x : Int) : x - c.p < (pl c (nr c x)).1 := by
  have := (h.near x).2; have := h.step_le (nr c x); omega
theorem Vc.bk_nr (h : Vc c) {x : Int} (h1 : -35184372088832 ≤ x) (h2 : x ≤ 35184372088832) : Bk c (nr c x) := by
  have a := h.near x
  have b := h.nr_lo x
  have := h.p2
  exact h.bk (by omega) (by omega)
/-- A granule is on the line, and in reach. -/
def onl (c : Cal) (k : Int) : Bool := decide (-4398046511104 ≤ (pl c k).1 ∧ (pl c k).2 ≤ 4398046511104)
def rch (c : Cal) (k : Int) : Bool := decide (-4398046511103 ≤ (pl c k).1 ∧ (pl c k).2 ≤ 4398046511103)
theorem rch_p {k : Int} (h : rch c k = true) : -4398046511103 ≤ (pl c k).1 ∧ (pl c k).2 ≤ 4398046511103 := by unfold rch at h; exact decide_eq_true_iff.1 h
theorem onl_p {k : Int} (h : onl c k = true) : -4398046511104 ≤ (pl c k).1 ∧ (pl c k).2 ≤ 4398046511104 := by unfold onl at h; exact decide_eq_true_iff.1 h
theorem onl_n {k : Int} (h : onl c k = false) : ¬ (-4398046511104 ≤ (pl c k).1 ∧ (pl c k).2 ≤ 4398046511104) := by unfold onl at h; exact decide_eq_false_iff_not.1 h
theorem rch_onl {k : Int} (h : rch c k = true) : onl c k = true := by
  have := rch_p h
  unfold onl; exact decide_eq_true (by omega)
theorem Vc.bk_onl (h : Vc c) {k : Int} (hr : onl c k = true) : Bk c k := by
  have a := onl_p hr
  have := h.pl_lt k
  exact h.bk (by omega) (by omega)
theorem Vc.bk_rch (h : Vc c) {k : Int} (hr : rch c k = true) : Bk c k := h.bk_onl (rch_onl hr)
/-- Numbers that are far away. -/
def farK (c : Cal) (k : Int) : Bool := decide (k / c.l.length > 8796093022208 / c.p ∨ k / c.l.length < -(8796093022208 / c.p) - 1)
theorem Vc.far_n (h : Vc c) {k : Int} (hf : farK c k = true) : onl c k = false := by
  unfold farK at hf
  rw [decide_eq_true_iff] at hf
  obtain ⟨q, i, hi, rfl, hq, _⟩ := split_k h.n1 k
  rw [← hq] at hf
  unfold onl
  rw [pl_at h.n1 q hi, decide_eq_false_iff_not]
  dsimp only
  have a1 := h.lo hi
  have a2 := h.up hi
  have a3 := h.lt i hi
  have a4 := h.o1
  have a5 := h.o2
  have p1 := h.p1
  have p2 := h.p2
  have r0 := Int.emod_nonneg 8796093022208 (show c.p ≠ 0 by omega)
  have r1 := Int.emod_lt_of_pos 8796093022208 (show 0 < c.p by omega)
  have r2 := Int.mul_ediv_add_emod 8796093022208 c.p
  rcases hf with hf | hf
  · have : c.p * (8796093022208 / c.p + 1) ≤ c.p * q := Int.mul_le_mul_of_nonneg_left (by omega) (by omega)
    rw [Int.mul_add] at this
    omega
  · have : c.p * q ≤ c.p * (-(8796093022208 / c.p) - 2) := Int.mul_le_mul_of_nonneg_left (by omega) (by omega)
    rw [Int.mul_sub, Int.mul_neg] at this
    omega
theorem Vc.far_b (h : Vc c) {k : Int} (hf : farK c k = false) : Bk c k := by
  unfold farK at hf
  rw [decide_eq_false_iff_not] at hf
  obtain ⟨q, i, hi, rfl, hq, _⟩ := split_k h.n1 k
  rw [← hq] at hf
  have p1 := h.p1
  have p2 := h.p2
  have r0 := Int.emod_nonneg 8796093022208 (show c.p ≠ 0 by omega)
  have r1 := Int.emod_lt_of_pos 8796093022208 (show 0 < c.p by omega)
  have r2 := Int.mul_ediv_add_emod 8796093022208 c.p
  have b1 : c.p * q ≤ c.p * (8796093022208 / c.p) := Int.mul_le_mul_of_nonneg_left (by omega) (by omega)
  have b2 : c.p * (-(8796093022208 / c.p) - 1) ≤ c.p * q := Int.mul_le_mul_of_nonneg_left (by omega) (by omega)
  rw [Int.mul_sub, Int.mul_neg] at b2
  have h3 := h.nq q 8808715803008 (by omega) (by omega) (by omega)
  have := h.n2
  refine ⟨?_, ?_, by omega, by omega⟩ <;> rw [← hq] <;> omega
/-- What the reference's Granule asks. -/
def grk (c : Cal) (k : Int) : Bool := decide (-17592186044416 ≤ k ∧ k ≤ 17592186044416 ∧ -35184372088832 ≤ c.p * (k / c.l.length) ∧ c.p * (k / c.l.length) ≤ 35184372088832)
theorem grk_bk (h : Vc c) {k : Int} (hg : grk c k = true) : Bk c k := by
  unfold grk at hg
  rw [decide_eq_true_iff] at hg
  exact ⟨by omega, by omega, by omega, by omega⟩
theorem Vc.grk_of (h : Vc c) {k : Int} (h1 : -8796093022208 ≤ (pl c k).1) (h2 : (pl c k).1 ≤ 8796093022208) : grk c k = true := by
  obtain ⟨a1, a2, a3, a4⟩ := h.bd 8796093022208 (by omega) (by omega) (by omega)
  unfold grk
  exact decide_eq_true (by omega)
theorem Vc.grk_nr (h : Vc c) {x : Int} (h1 : -5497558138880 ≤ x) (h2 : x ≤ 5497558138880) : grk c (nr c x) = true := by
  have a := h.near x
  have b := h.nr_lo x
  have := h.p2
  exact h.grk_of (by omega) (by omega)
theorem Vc.grk_rch (h : Vc c) {k : Int} (hr : rch c k = true) : grk c k = true := by
  have a := rch_p hr
  have := h.pl_lt k
  exact h.grk_of (by omega) (by omega)
/-- Granules inside a span, and those that cover it: the program's numbers are the reference's. -/
theorem Vc.en_1 (h : Vc c) (x : Int) : (if (pl c (nr c (x - 1))).2 > x then nr c (x - 1) - 1 else nr c (x - 1)) = en c x := by
  symm
  obtain ⟨a1, a2⟩ := h.near (x - 1)
  split
  · rename_i h1
    refine h.ends_eq ?_ ?_
    · have := h.pl_le (show nr c (x - 1) - 1 < nr c (x - 1) by omega); omega
    · rw [show nr c (x - 1) - 1 + 1 = nr c (x - 1) by omega]; omega
  · refine h.ends_eq (by omega) ?_
    have := h.pl_lt (nr c (x - 1) + 1); omega
theorem Vc.cov_1 (h : Vc c) (x : Int) : (if (pl c (nr c x)).2 ≤ x then nr c x + 1 else nr c x) = en c x + 1 := by
  unfold en
  split
  · rw [if_neg (by omega)]
  · rw [if_pos (by omega)]; omega
end
end Go.Proofs.Ytainibnjpkbfpaa.Cv
