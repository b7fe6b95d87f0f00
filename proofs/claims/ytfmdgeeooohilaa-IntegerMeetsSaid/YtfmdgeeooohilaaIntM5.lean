/- Plain law of two congruences: a number is found from its remainders. -/
import Derived.Test.YtfmdgeeooohilaaIntM4
namespace Go.Proofs.Ytfmdgeeooohilaa.M
set_option linter.unusedVariables false
set_option linter.unusedSimpArgs false

theorem Euc.fin {a n r x y : Int} (h : Euc a n r 0 x y) : isInv a n (x % n) := by
  have hr : r = 1 := by have := h.gcd; have := h.r0; simp at *; omega
  have hn := h.n1
  refine ⟨Int.emod_nonneg _ (by omega), Int.emod_lt_of_pos _ (by omega), ?_⟩
  have h1 := h.dr
  rw [hr] at h1
  have e : x % n = x - n * (x / n) := by have := Int.mul_ediv_add_emod x n; omega
  have h2 : n ∣ a * (n * (x / n)) := ⟨a * (x / n), by rw [Int.mul_left_comm]⟩
  have h3 := Int.dvd_neg.2 (Int.dvd_add h1 h2)
  rw [e, show a * (x - n * (x / n)) - 1 = -(1 - a * x + a * (n * (x / n))) by rw [Int.mul_sub]; omega]
  exact h3
theorem Euc.ends {a n : Int} : ∀ (f : Nat) (r s x y : Int), s.toNat ≤ f → Euc a n r s x y → ∃ v, isInv a n v
  | 0, r, s, x, y, hs, h => by
    have : s = 0 := by have := h.s0; omega
    subst this; exact ⟨_, h.fin⟩
  | f + 1, r, s, x, y, hs, h => by
    by_cases hz : s = 0
    · subst hz; exact ⟨_, h.fin⟩
    · obtain ⟨_, _, _, _, E, q⟩ := h.round (by have := h.s0; omega)
      exact Euc.ends f _ _ _ _ (by have := E.s0; omega) E
theorem inv_is {a n : Int} (ha : 0 ≤ a) (hn : 1 ≤ n) (hg : Nat.gcd a.natAbs n.natAbs = 1) : isInv a n (inv a n) := by
  obtain ⟨v, hv⟩ := Euc.ends _ _ _ _ _ (Nat.le_refl _) (Euc.start ha hn hg)
  rw [inv_eq hg hv]; exact hv

theorem Two.solves {m n l g k : Int} (t : Two m n l g k) (X : Int) : mt (X % m) m (X % n) n = ((X % l, l), true) := by
  have m1 := t.m1
  have n1 := t.n1
  have g1 := t.g1
  have k1 := t.k1
  have l1 := t.l1
  have hgm : g ∣ m := ⟨_, t.gu.symm⟩
  have hgn : g ∣ n := ⟨_, t.gk.symm⟩
  rw [t.yes (by rw [Int.emod_emod, Int.emod_emod, Int.emod_emod_of_dvd _ hgm, Int.emod_emod_of_dvd _ hgn]), Int.emod_emod, Int.emod_emod]
  obtain ⟨r1, r2, r3, r4⟩ := t.rest ((X % n - X % m) / g)
  have x1 := Int.emod_nonneg X (show m ≠ 0 by omega)
  have x2 := Int.emod_lt_of_pos X (show 0 < m by omega)
  have hi := (inv_is (a := m / g % k) (n := k) (Int.emod_nonneg _ (by omega)) k1 t.co).2.2
  have hq : g ∣ X % n - X % m := by
    have := dvd_sub_emod X n
    have h2 := dvd_sub_emod X m
    have := Int.dvd_sub (Int.dvd_trans hgm h2) (Int.dvd_trans hgn this)
    rw [show X - X % m - (X - X % n) = X % n - X % m by omega] at this
    exact this
  obtain ⟨q, hq⟩ := hq
  have hqe : (X % n - X % m) / g = q := by rw [hq]; exact Int.mul_ediv_cancel_left _ (by omega)
  rw [hqe] at r1 r2 r3 r4 ⊢
  have hr : k ∣ q % k * inv (m / g % k) k - M.rest m g k q := dvd_sub_emod _ _
  obtain ⟨A, hA⟩ : ∃ A, m / g = A := ⟨_, rfl⟩
  obtain ⟨i, hI⟩ : ∃ i, inv (m / g % k) k = i := ⟨_, rfl⟩
  obtain ⟨R, hR⟩ : ∃ R, M.rest m g k q = R := ⟨_, rfl⟩
  have hm : g * A = m := by rw [← hA]; exact t.gu
  have co := t.co
  rw [hI, hR] at hr
  rw [hI, hA] at hi
  rw [hR] at r1 r2 r3 r4 ⊢
  rw [hA] at co
  have d1 : k ∣ A - A % k := dvd_sub_emod A k
  have d2 : k ∣ q - q % k := dvd_sub_emod q k
  have dk : k ∣ A * R - q := by
    have e1 := Int.dvd_trans hr (Int.dvd_mul_left A _)
    have e2 := Int.dvd_trans d1 (Int.dvd_mul_right _ (q % k * i))
    have e3 := Int.dvd_trans hi (Int.dvd_mul_right _ (q % k))
    have := Int.dvd_sub (Int.dvd_sub (Int.dvd_add e2 e3) e1) d2
    rw [show (A - A % k) * (q % k * i) + (A % k * i - 1) * (q % k) - A * (q % k * i - R) - (q - q % k) = A * R - q by grind] at this
    exact this
  have dn : n ∣ X % m + m * R - X := by
    have e1 : n ∣ g * (A * R - q) := by rw [← t.gk]; exact Int.mul_dvd_mul_left _ dk
    rw [Int.mul_sub, ← hq, ← Int.mul_assoc, hm] at e1
    have := Int.dvd_sub e1 (dvd_sub_emod X n)
    rw [show m * R - (X % n - X % m) - (X - X % n) = X % m + m * R - X by omega] at this
    exact this
  have hu : X % m + m * R - X = m * (R - X / m) := by
    have := Int.mul_ediv_add_emod X m
    rw [Int.mul_sub]; omega
  have dl : l ∣ X % m + m * R - X := by
    rw [hu] at dn ⊢
    rw [← hm, ← t.gk, Int.mul_assoc] at dn
    have h3 : k ∣ A * (R - X / (g * A)) := Int.dvd_of_mul_dvd_mul_left (by omega) dn
    rw [hm] at h3
    have h4 : k ∣ A % k * (R - X / m) := by
      have := Int.dvd_sub h3 (Int.dvd_trans d1 (Int.dvd_mul_right _ (R - X / m)))
      rw [show A * (R - X / m) - (A - A % k) * (R - X / m) = A % k * (R - X / m) by grind] at this
      exact this
    have h5 := dvd_cancel co h4
    rw [← t.mkl]
    exact Int.mul_dvd_mul_left _ h5
  have hz := emod_eq_of_dvd dl
  rw [Int.emod_eq_of_lt (by omega) (by omega)] at hz
  rw [hz]

end Go.Proofs.Ytfmdgeeooohilaa.M
