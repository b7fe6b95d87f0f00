/- Plain mathematics of floor division: no program in sight. -/
namespace Go.Proofs.Ytainibnjpkbfpaa.M
set_option linter.unusedVariables false
set_option linter.unusedSimpArgs false

theorem tdiv_neg {a b : Int} (_ha : a ≤ 0) (_hb : 0 < b) : a.tdiv b = -((-a) / b) := by
  have h := Int.neg_tdiv (-a) b
  rw [Int.neg_neg] at h
  rw [h, Int.tdiv_eq_ediv_of_nonneg (by omega)]
theorem tmod_neg {a b : Int} (_ha : a ≤ 0) (_hb : 0 < b) : a.tmod b = -((-a) % b) := by
  have h := Int.neg_tmod (-a) b
  rw [Int.neg_neg] at h
  rw [h, Int.tmod_eq_emod_of_nonneg (by omega)]

theorem ediv_mul_emod (a b : Int) : b * (a / b) + a % b = a := Int.mul_ediv_add_emod a b

/-- The floor of a negative dividend out of what '/' and '%' of its opposite are. -/
theorem ediv_neg0 {a b : Int} (hb : 0 < b) (h : (-a) % b = 0) : a / b = -((-a) / b) ∧ a % b = 0 := by
  have h1 := ediv_mul_emod (-a) b
  have e : a = b * (-((-a) / b)) := by rw [Int.mul_neg]; omega
  constructor
  · conv => lhs; rw [e]
    exact Int.mul_ediv_cancel_left _ (by omega)
  · conv => lhs; rw [e]
    exact Int.mul_emod_right _ _
theorem ediv_neg1 {a b : Int} (hb : 0 < b) (h : (-a) % b ≠ 0) : a / b = -((-a) / b) - 1 ∧ a % b = b - (-a) % b := by
  have h1 := ediv_mul_emod (-a) b
  have h2 := Int.emod_nonneg (-a) (show b ≠ 0 by omega)
  have h3 := Int.emod_lt_of_pos (-a) hb
  have e : a = (b - (-a) % b) + b * (-((-a) / b) - 1) := by rw [Int.mul_sub, Int.mul_neg]; omega
  constructor
  · conv => lhs; rw [e]
    rw [Int.add_mul_ediv_left _ _ (by omega), Int.ediv_eq_zero_of_lt (by omega) (by omega)]; omega
  · conv => lhs; rw [e]
    rw [Int.add_mul_emod_self_left, Int.emod_eq_of_lt (by omega) (by omega)]

end Go.Proofs.Ytainibnjpkbfpaa.M
