/- Plain mathematics of checked integers: quotients by any divisor, products, common divisors. -/
import Derived.Test.YtainibnjpkbfpaaIntM
namespace Go.Proofs.Ytainibnjpkbfpaa.M
set_option linter.unusedVariables false
set_option linter.unusedSimpArgs false

/-- The floor quotient and the remainder, for any divisor but 0. -/
def dq (a b : Int) : Int := if 0 < b then a / b else (-a) / (-b)
def dr (a b : Int) : Int := if 0 < b then a % b else -((-a) % (-b))
def dv (a b : Int) : (Int × Int) × Int := if b = 0 then ((0, 0), 10) else if a = -9223372036854775808 ∧ b = -1 then ((0, 0), 9) else ((dq a b, dr a b), 0)
theorem dv_zero (a : Int) : dv a 0 = ((0, 0), 10) := by simp [dv]
theorem dv_big : dv (-9223372036854775808) (-1) = ((0, 0), 9) := by simp [dv]
theorem dv_ok {a b : Int} (h : b ≠ 0) (k : ¬ (a = -9223372036854775808 ∧ b = -1)) : dv a b = ((dq a b, dr a b), 0) := by simp only [dv, if_neg h, if_neg k]
theorem dq_pos {a b : Int} (h : 0 < b) : dq a b = a / b := by simp only [dq, if_pos h]
theorem dr_pos {a b : Int} (h : 0 < b) : dr a b = a % b := by simp only [dr, if_pos h]
theorem dq_neg {a b : Int} (h : b < 0) : dq a b = (-a) / (-b) := by simp only [dq, if_neg (show ¬ 0 < b by omega)]
theorem dr_neg {a b : Int} (h : b < 0) : dr a b = -((-a) % (-b)) := by simp only [dr, if_neg (show ¬ 0 < b by omega)]
/-- A product that fits, or 0 and the error. -/
def ml (a b : Int) : Int × Int := if -9223372036854775808 ≤ a * b ∧ a * b ≤ 9223372036854775807 then (a * b, 0) else (0, 9)
theorem ml_ok {a b : Int} (h : -9223372036854775808 ≤ a * b ∧ a * b ≤ 9223372036854775807) : ml a b = (a * b, 0) := by simp only [ml, if_pos h]
theorem ml_big {a b : Int} (h : ¬ (-9223372036854775808 ≤ a * b ∧ a * b ≤ 9223372036854775807)) : ml a b = (0, 9) := by simp only [ml, if_neg h]
/-- The greatest common divisor, as far as it is an int. -/
def gc (a b : Int) : Int := if Nat.gcd a.natAbs b.natAbs ≤ 9223372036854775807 then (Nat.gcd a.natAbs b.natAbs : Int) else 0
theorem gc_ok {a b : Int} (h : Nat.gcd a.natAbs b.natAbs ≤ 9223372036854775807) : gc a b = (Nat.gcd a.natAbs b.natAbs : Int) := by simp only [gc, if_pos h]
theorem gc_big {a b : Int} (h : ¬ Nat.gcd a.natAbs b.natAbs ≤ 9223372036854775807) : gc a b = 0 := by simp only [gc, if_neg h]
theorem gc_pos {a b : Int} (ha : 1 ≤ a) (ha2 : a ≤ 9223372036854775807) : 1 ≤ gc a b ∧ gc a b ≤ a := by
  have h1 : 0 < Nat.gcd a.natAbs b.natAbs := Nat.gcd_pos_of_pos_left _ (by omega)
  have h2 : Nat.gcd a.natAbs b.natAbs ≤ a.natAbs := Nat.gcd_le_left _ (by omega)
  rw [gc_ok (by omega)]; omega
theorem gc_pos' {a b : Int} (hb : 1 ≤ b) (hb2 : b ≤ 9223372036854775807) : 1 ≤ gc a b ∧ gc a b ≤ b := by
  have h1 : 0 < Nat.gcd a.natAbs b.natAbs := Nat.gcd_pos_of_pos_right _ (by omega)
  have h2 : Nat.gcd a.natAbs b.natAbs ≤ b.natAbs := Nat.gcd_le_right _ (by omega)
  rw [gc_ok (by omega)]; omega
def lc (a b : Int) : Int × Int := if a < 1 ∨ b < 1 then (0, 2) else ml a (b / gc a b)
theorem lc_2 {a b : Int} (h : a < 1 ∨ b < 1) : lc a b = (0, 2) := by simp only [lc, if_pos h]
theorem lc_ok {a b : Int} (h : ¬ (a < 1 ∨ b < 1)) : lc a b = ml a (b / gc a b) := by simp only [lc, if_neg h]

/-- The product of the absolute values. -/
theorem abs_mul_pos {a b : Int} (h : (0 ≤ a ∧ 0 ≤ b) ∨ (a < 0 ∧ b < 0)) : ((a.natAbs * b.natAbs : Nat) : Int) = a * b := by
  rcases h with ⟨h1, h2⟩ | ⟨h1, h2⟩
  · rw [Int.natCast_mul, show ((a.natAbs : Nat) : Int) = a by omega, show ((b.natAbs : Nat) : Int) = b by omega]
  · rw [Int.natCast_mul, show ((a.natAbs : Nat) : Int) = -a by omega, show ((b.natAbs : Nat) : Int) = -b by omega, Int.neg_mul_neg]
theorem abs_mul_neg {a b : Int} (h : (0 ≤ a ∧ b < 0) ∨ (a < 0 ∧ 0 ≤ b)) : ((a.natAbs * b.natAbs : Nat) : Int) = -(a * b) := by
  rcases h with ⟨h1, h2⟩ | ⟨h1, h2⟩
  · rw [Int.natCast_mul, show ((a.natAbs : Nat) : Int) = a by omega, show ((b.natAbs : Nat) : Int) = -b by omega, Int.mul_neg]
  · rw [Int.natCast_mul, show ((a.natAbs : Nat) : Int) = -a by omega, show ((b.natAbs : Nat) : Int) = b by omega, Int.neg_mul]

end Go.Proofs.Ytainibnjpkbfpaa.M
