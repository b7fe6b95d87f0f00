/- Plain laws of divisors and multiples: no program in sight. -/
import Derived.Test.YtfmdgeeooohilaaIntL
namespace Go.Proofs.Ytfmdgeeooohilaa.M
set_option linter.unusedVariables false
set_option linter.unusedSimpArgs false

theorem gc_comm (a b : Int) : gc a b = gc b a := by unfold gc; rw [Nat.gcd_comm]
theorem gc_neg (a b : Int) : gc (-a) b = gc a b := by unfold gc; rw [Int.natAbs_neg]
theorem gc_zero {a b : Int} (h1 : -9223372036854775808 ≤ a) (h2 : a ≤ 9223372036854775807) (h3 : -9223372036854775808 ≤ b) (h4 : b ≤ 9223372036854775807) (h : gc a b = 0) :
    (a = 0 ∨ a = -9223372036854775808) ∧ (b = 0 ∨ b = -9223372036854775808) := by
  by_cases hN : Nat.gcd a.natAbs b.natAbs ≤ 9223372036854775807
  · rw [gc_ok hN] at h
    have h0 : Nat.gcd a.natAbs b.natAbs = 0 := by omega
    have := Nat.gcd_eq_zero_iff.1 h0
    omega
  · have d1 := Nat.gcd_dvd_left a.natAbs b.natAbs
    have d2 := Nat.gcd_dvd_right a.natAbs b.natAbs
    constructor
    · rcases Nat.eq_zero_or_pos a.natAbs with h | h
      · omega
      · have := Nat.le_of_dvd h d1; omega
    · rcases Nat.eq_zero_or_pos b.natAbs with h | h
      · omega
      · have := Nat.le_of_dvd h d2; omega
theorem gc_some {a b : Int} (h : gc a b ≠ 0) : 0 < gc a b ∧ gc a b ≤ 9223372036854775807 ∧ gc a b ∣ a ∧ gc a b ∣ b ∧ ∀ d : Int, d ∣ a → d ∣ b → d ∣ gc a b := by
  by_cases hN : Nat.gcd a.natAbs b.natAbs ≤ 9223372036854775807
  · rw [gc_ok hN] at h ⊢
    refine ⟨by omega, by omega, ?_, ?_, fun d h1 h2 => ?_⟩
    · rw [← Int.natAbs_dvd_natAbs, Int.natAbs_natCast]; exact Nat.gcd_dvd_left _ _
    · rw [← Int.natAbs_dvd_natAbs, Int.natAbs_natCast]; exact Nat.gcd_dvd_right _ _
    · rw [← Int.natAbs_dvd_natAbs, Int.natAbs_natCast]
      exact Nat.dvd_gcd (Int.natAbs_dvd_natAbs.2 h1) (Int.natAbs_dvd_natAbs.2 h2)
  · exact absurd (gc_big hN) h
theorem dvd_tmod {a d : Int} (h : d ∣ a) : a.tmod d = 0 := Int.tmod_eq_zero_of_dvd h
theorem dvd_emod {a d : Int} (h : d ∣ a) : a % d = 0 := Int.emod_eq_zero_of_dvd h

theorem lc_cases {a b : Int} (h1 : 1 ≤ a) (h2 : a ≤ 9223372036854775807) (h3 : 1 ≤ b) (h4 : b ≤ 9223372036854775807) : 1 ≤ gc a b ∧ gc a b ≤ a ∧ gc a b ≤ b ∧
    ((∃ l, lc a b = (l, 0) ∧ 1 ≤ l ∧ l ≤ 9223372036854775807 ∧ l % a = 0 ∧ l % b = 0 ∧ l / a = b / gc a b) ∨ (lc a b = (0, 9) ∧ ml (a / gc a b) b = (0, 9))) := by
  have p1 := gc_pos (b := b) h1 h2
  have p2 := gc_pos' (a := a) h3 h4
  obtain ⟨_, _, d1, d2, _⟩ := gc_some (a := a) (b := b) (by omega)
  refine ⟨p1.1, p1.2, p2.2, ?_⟩
  rw [lc_ok (by omega)]
  obtain ⟨g, hg⟩ : ∃ g, gc a b = g := ⟨_, rfl⟩
  rw [hg] at p1 p2 d1 d2 ⊢
  obtain ⟨a', ha⟩ := d1
  obtain ⟨b', hb⟩ := d2
  have e1 : a / g = a' := by rw [ha]; exact Int.mul_ediv_cancel_left _ (by omega)
  have e2 : b / g = b' := by rw [hb]; exact Int.mul_ediv_cancel_left _ (by omega)
  have e3 : a' * b = a * b' := by rw [ha, hb, Int.mul_left_comm, Int.mul_assoc]
  have b1 : 1 ≤ b' := by rw [← e2]; exact Int.le_ediv_of_mul_le (by omega) (by omega)
  have l1 : 1 * 1 ≤ a * b' := Int.mul_le_mul h1 b1 (by omega) (by omega)
  by_cases hf : -9223372036854775808 ≤ a * b' ∧ a * b' ≤ 9223372036854775807
  · left
    rw [e2, ml_ok hf]
    refine ⟨_, rfl, by omega, hf.2, Int.mul_emod_right _ _, ?_, Int.mul_ediv_cancel_left _ (by omega)⟩
    rw [← e3]; exact Int.mul_emod_left _ _
  · right
    rw [e1, e2, ml_big hf, ml_big (by rw [e3]; exact hf)]
    exact ⟨rfl, rfl⟩

end Go.Proofs.Ytfmdgeeooohilaa.M
