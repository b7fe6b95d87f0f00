/- Plain laws of floor division, divisors and multiples: no program in sight. -/
import Derived.Test.YtfmdgeeooohilaaIntM3
namespace Go.Proofs.Ytfmdgeeooohilaa.M
set_option linter.unusedVariables false
set_option linter.unusedSimpArgs false

theorem dv_law {a b : Int} (hb : b ≠ 0) : dq a b * b + dr a b = a ∧ ((0 < b ∧ 0 ≤ dr a b ∧ dr a b < b) ∨ (b < 0 ∧ dr a b ≤ 0 ∧ b < dr a b)) := by
  rcases Int.lt_or_le 0 b with h | h
  · rw [dq_pos h, dr_pos h]
    have := ediv_mul_emod a b
    have h1 := Int.emod_nonneg a hb
    have h2 := Int.emod_lt_of_pos a h
    exact ⟨by rw [Int.mul_comm]; exact this, .inl ⟨h, h1, h2⟩⟩
  · have hn : b < 0 := by omega
    rw [dq_neg hn, dr_neg hn]
    have := ediv_mul_emod (-a) (-b)
    have h1 := Int.emod_nonneg (-a) (show -b ≠ 0 by omega)
    have h2 := Int.emod_lt_of_pos (-a) (show 0 < -b by omega)
    rw [Int.neg_mul, Int.mul_comm] at this
    exact ⟨by omega, .inr ⟨hn, by omega, by omega⟩⟩
theorem dq_bd {a b : Int} (h1 : -9223372036854775808 ≤ a) (h2 : a ≤ 9223372036854775807) (hb : b ≠ 0) (hx : ¬ (a = -9223372036854775808 ∧ b = -1)) :
    -9223372036854775808 ≤ dq a b ∧ dq a b ≤ 9223372036854775807 := by
  rcases Int.lt_or_le 0 b with h | h
  · rw [dq_pos h]
    have e1 : -9223372036854775808 ≤ a / b := Int.le_ediv_of_mul_le h (by omega)
    have e2 : a / b < 9223372036854775808 := Int.ediv_lt_of_lt_mul h (by omega)
    omega
  · rw [dq_neg (by omega)]
    have e1 : -9223372036854775808 ≤ (-a) / (-b) := Int.le_ediv_of_mul_le (by omega) (by omega)
    have e2 : (-a) / (-b) < 9223372036854775808 := Int.ediv_lt_of_lt_mul (by omega) (by omega)
    omega
theorem dv_step {a b : Int} (hb : b ≠ 0) : dq (a + b) b = dq a b + 1 ∧ dr (a + b) b = dr a b := by
  rcases Int.lt_or_le 0 b with h | h
  · rw [dq_pos h, dr_pos h, dq_pos h, dr_pos h]
    constructor
    · conv => lhs; rw [show a + b = a + 1 * b by omega]
      rw [Int.add_mul_ediv_right _ _ hb]
    · conv => lhs; rw [show a + b = a + 1 * b by omega]
      rw [Int.add_mul_emod_self_right]
  · have hn : b < 0 := by omega
    rw [dq_neg hn, dr_neg hn, dq_neg hn, dr_neg hn]
    constructor
    · conv => lhs; rw [show -(a + b) = -a + 1 * (-b) by omega]
      rw [Int.add_mul_ediv_right _ _ (by omega)]
    · conv => lhs; rw [show -(a + b) = -a + 1 * (-b) by omega]
      rw [Int.add_mul_emod_self_right]
theorem dq_cases {a b : Int} (hb : b ≠ 0) : (a.tmod b = 0 ∧ a.tdiv b = dq a b) ∨ (a.tmod b ≠ 0 ∧ ((a < 0 ∧ 0 < b) ∨ (0 ≤ a ∧ b < 0)) ∧ a.tdiv b = dq a b + 1) ∨
    (a.tmod b ≠ 0 ∧ ((a < 0 ∧ b < 0) ∨ (0 ≤ a ∧ 0 < b)) ∧ a.tdiv b = dq a b) := by
  rcases Int.lt_or_le 0 b with h | h
  · rw [dq_pos h]
    rcases Int.lt_or_le a 0 with ha | ha
    · rw [tdiv_neg (by omega) h, tmod_neg (by omega) h]
      by_cases hr : (-a) % b = 0
      · have := ediv_neg0 h hr; left; exact ⟨by omega, by omega⟩
      · have := ediv_neg1 h hr; right; left; exact ⟨by omega, by omega, by omega⟩
    · rw [Int.tdiv_eq_ediv_of_nonneg ha, Int.tmod_eq_emod_of_nonneg ha]
      by_cases hr : a % b = 0
      · left; exact ⟨hr, rfl⟩
      · right; right; exact ⟨hr, by omega, rfl⟩
  · have hn : b < 0 := by omega
    obtain ⟨c, hbc⟩ : ∃ c, b = -c := ⟨-b, by omega⟩
    have hc : 0 < c := by omega
    rw [dq_neg hn, hbc, Int.neg_neg, Int.tdiv_neg, Int.tmod_neg]
    rcases Int.lt_or_le a 0 with ha | ha
    · rw [tdiv_neg (by omega) hc, tmod_neg (by omega) hc]
      by_cases hr : (-a) % c = 0
      · left; exact ⟨by omega, by omega⟩
      · right; right; exact ⟨by omega, by omega, by omega⟩
    · rw [Int.tdiv_eq_ediv_of_nonneg ha, Int.tmod_eq_emod_of_nonneg ha]
      by_cases hr : a % c = 0
      · have := ediv_neg0 (a := -a) hc (by rw [Int.neg_neg]; exact hr); rw [Int.neg_neg] at this; left; exact ⟨hr, by omega⟩
      · have := ediv_neg1 (a := -a) hc (by rw [Int.neg_neg]; exact hr); rw [Int.neg_neg] at this; right; left; exact ⟨hr, by omega, by omega⟩

end Go.Proofs.Ytfmdgeeooohilaa.M
