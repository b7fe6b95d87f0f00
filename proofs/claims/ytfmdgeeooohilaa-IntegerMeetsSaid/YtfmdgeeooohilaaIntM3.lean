/- Plain mathematics: the inverse modulo n, by Euclid's algorithm. -/
import Derived.Test.YtfmdgeeooohilaaIntM2
namespace Go.Proofs.Ytfmdgeeooohilaa.M
set_option linter.unusedVariables false
set_option linter.unusedSimpArgs false

def isInv (a n v : Int) : Prop := 0 ≤ v ∧ v < n ∧ n ∣ a * v - 1
noncomputable def inv (a n : Int) : Int := Classical.epsilon (isInv a n)
theorem dvd_cancel {n a x : Int} (h : Nat.gcd a.natAbs n.natAbs = 1) (hd : n ∣ a * x) : n ∣ x := by
  rw [← Int.natAbs_dvd_natAbs] at hd ⊢
  rw [Int.natAbs_mul] at hd
  exact Nat.Coprime.dvd_of_dvd_mul_left (by rw [Nat.Coprime, Nat.gcd_comm]; exact h) hd
theorem small_dvd {n x : Int} (h1 : -n < x) (h2 : x < n) (hd : n ∣ x) : x = 0 :=
  Int.eq_zero_of_dvd_of_natAbs_lt_natAbs hd (by omega)
theorem inv_eq {a n v : Int} (hg : Nat.gcd a.natAbs n.natAbs = 1) (h : isInv a n v) : inv a n = v := by
  have h' : isInv a n (inv a n) := Classical.epsilon_spec ⟨v, h⟩
  have hd : n ∣ a * (inv a n - v) := by
    have := Int.dvd_sub h'.2.2 h.2.2
    rw [show a * inv a n - 1 - (a * v - 1) = a * (inv a n - v) by rw [Int.mul_sub]; omega] at this
    exact this
  have := small_dvd (n := n) (x := inv a n - v) (by have := h.1; have := h.2.1; have := h'.1; have := h'.2.1; omega) (by have := h.1; have := h.2.1; have := h'.1; have := h'.2.1; omega) (dvd_cancel hg hd)
  omega

/-- What holds at the head of each round of Euclid's algorithm. -/
structure Euc (a n r s x y : Int) : Prop where
  n1 : 1 ≤ n
  r0 : 0 ≤ r
  s0 : 0 ≤ s
  dr : n ∣ r - a * x
  ds : n ∣ s - a * y
  sum : (x.natAbs : Int) * s + (y.natAbs : Int) * r = n
  opp : (0 ≤ x ∧ y ≤ 0) ∨ (x ≤ 0 ∧ 0 ≤ y)
  gcd : Nat.gcd r.natAbs s.natAbs = 1
theorem Euc.start {a n : Int} (ha : 0 ≤ a) (hn : 1 ≤ n) (hg : Nat.gcd a.natAbs n.natAbs = 1) : Euc a n a n 1 0 :=
  ⟨hn, ha, by omega, by simp, by simp, by simp, by omega, hg⟩
theorem opp_abs {x y q : Int} (hq : 0 ≤ q) (h : (0 ≤ x ∧ y ≤ 0) ∨ (x ≤ 0 ∧ 0 ≤ y)) : ((x - q * y).natAbs : Int) = (x.natAbs : Int) + q * (y.natAbs : Int) := by
  rcases h with ⟨h1, h2⟩ | ⟨h1, h2⟩
  · have h3 : q * y ≤ 0 := Int.mul_nonpos_of_nonneg_of_nonpos hq h2
    rw [show ((y.natAbs : Nat) : Int) = -y by omega, Int.mul_neg]; omega
  · have h3 : 0 ≤ q * y := Int.mul_nonneg hq h2
    rw [show ((y.natAbs : Nat) : Int) = y by omega]; omega
/-- The round's numbers: what is subtracted, and that all stays within n. -/
theorem Euc.round {a n r s x y : Int} (h : Euc a n r s x y) (hs : 1 ≤ s) :
    0 ≤ r / s * s ∧ r / s * s ≤ r ∧ ((r / s * y).natAbs : Int) ≤ n ∧ ((x - r / s * y).natAbs : Int) ≤ n ∧ Euc a n s (r - r / s * s) y (x - r / s * y) ∧ r - r / s * s < s := by
  have hq : 0 ≤ r / s := Int.ediv_nonneg h.r0 (by omega)
  have hm : s * (r / s) + r % s = r := Int.mul_ediv_add_emod r s
  have hm1 := Int.emod_nonneg r (show s ≠ 0 by omega)
  have hm2 := Int.emod_lt_of_pos r (show 0 < s by omega)
  have hc : r / s * s = s * (r / s) := Int.mul_comm ..
  have hqs : 0 ≤ r / s * s := Int.mul_nonneg hq (by omega)
  have ha := opp_abs hq h.opp
  have hsum : ((x - r / s * y).natAbs : Int) * s + (y.natAbs : Int) * (r - r / s * s) = n := by
    rw [ha, Int.add_mul, Int.mul_sub, Int.mul_right_comm, Int.mul_comm (y.natAbs : Int) (r / s * s), ← h.sum]; omega
  have hy0 : 0 ≤ (y.natAbs : Int) * (r - r / s * s) := Int.mul_nonneg (by omega) (by omega)
  have hle : ((x - r / s * y).natAbs : Int) ≤ n := by
    have h1 : ((x - r / s * y).natAbs : Int) * 1 ≤ ((x - r / s * y).natAbs : Int) * s := Int.mul_le_mul_of_nonneg_left hs (by omega)
    omega
  have hqy : ((r / s * y).natAbs : Int) ≤ n := by
    have : ((r / s * y).natAbs : Int) = r / s * (y.natAbs : Int) := by rw [Int.natAbs_mul, Int.natCast_mul]; rw [show ((r / s).natAbs : Int) = r / s by omega]
    rw [this]
    have : 0 ≤ (x.natAbs : Int) := by omega
    omega
  refine ⟨hqs, by omega, hqy, hle, ⟨h.n1, h.s0, by omega, h.ds, ?_, by rw [Int.add_comm]; exact hsum, ?_, ?_⟩, by omega⟩
  · have := Int.dvd_sub h.dr (Int.dvd_trans h.ds (Int.dvd_mul_left (r / s) _))
    rw [show r - r / s * s - a * (x - r / s * y) = r - a * x - r / s * (s - a * y) by rw [Int.mul_sub, Int.mul_sub, Int.mul_left_comm a (r / s) y]; omega]
    exact this
  · rcases h.opp with ⟨h1, h2⟩ | ⟨h1, h2⟩
    · have h3 : r / s * y ≤ 0 := Int.mul_nonpos_of_nonneg_of_nonpos hq h2
      omega
    · have h3 : 0 ≤ r / s * y := Int.mul_nonneg hq h2
      omega
  · have hr := h.r0
    have e : (r - r / s * s).natAbs = r.natAbs % s.natAbs := by
      have : r - r / s * s = r % s := by omega
      rw [this]
      obtain ⟨R, hR⟩ := Int.eq_ofNat_of_zero_le h.r0
      obtain ⟨S, hS⟩ := Int.eq_ofNat_of_zero_le h.s0
      rw [hR, hS, ← Int.natCast_emod, Int.natAbs_natCast, Int.natAbs_natCast, Int.natAbs_natCast]
    rw [e, Nat.gcd_comm, ← Nat.gcd_rec, Nat.gcd_comm]; exact h.gcd
theorem Euc.bound {a n r s x y : Int} (h : Euc a n r s x y) (hs : 1 ≤ s) : (x.natAbs : Int) ≤ n := by
  have h1 : (x.natAbs : Int) * 1 ≤ (x.natAbs : Int) * s := Int.mul_le_mul_of_nonneg_left hs (by omega)
  have h2 : 0 ≤ (y.natAbs : Int) * r := Int.mul_nonneg (by omega) h.r0
  have := h.sum
  omega
theorem Euc.last {a n r x y : Int} (h : Euc a n r 0 x y) (hg : Nat.gcd a.natAbs n.natAbs = 1) : inv a n = x % n := by
  have hr : r = 1 := by have := h.gcd; have := h.r0; simp at *; omega
  have hn := h.n1
  refine inv_eq hg ⟨Int.emod_nonneg _ (by omega), Int.emod_lt_of_pos _ (by omega), ?_⟩
  have h1 := h.dr
  rw [hr] at h1
  have e : x % n = x - n * (x / n) := by have := Int.mul_ediv_add_emod x n; omega
  have h2 : n ∣ a * (n * (x / n)) := ⟨a * (x / n), by rw [Int.mul_left_comm]⟩
  have h3 := Int.dvd_neg.2 (Int.dvd_add h1 h2)
  rw [e, show a * (x - n * (x / n)) - 1 = -(1 - a * x + a * (n * (x / n))) by rw [Int.mul_sub]; omega]
  exact h3

end Go.Proofs.Ytfmdgeeooohilaa.M
