/- The shifted dividend as the machine's words reckon it. -/
import Derived.Test.YtfmdgeeooohilaaIntD
import Derived.Lib.BitFns
import Derived.Laws.Bits64
import Derived.Laws.Bits64b
namespace Go.Proofs.Ytfmdgeeooohilaa
set_option linter.unusedVariables false
set_option linter.unusedSimpArgs false

theorem M.bl : ∀ (f x : Nat), x < 2 ^ f → x ≠ 0 → 1 ≤ Lib.bitLenAux f x ∧ Lib.bitLenAux f x ≤ f ∧ 2 ^ (Lib.bitLenAux f x - 1) ≤ x ∧ x < 2 ^ Lib.bitLenAux f x
  | 0, x, h, h0 => by simp at h; omega
  | f + 1, x, h, h0 => by
    have hx : x / 2 < 2 ^ f := by rw [Nat.pow_succ] at h; omega
    rw [show Lib.bitLenAux (f + 1) x = 1 + Lib.bitLenAux f (x / 2) by simp only [Lib.bitLenAux, if_neg h0]]
    by_cases h1 : x / 2 = 0
    · rw [h1]
      have : Lib.bitLenAux f 0 = 0 := by cases f <;> simp [Lib.bitLenAux]
      rw [this]
      exact ⟨by omega, by omega, by simp; omega, by simp; omega⟩
    · obtain ⟨a, b, c, d⟩ := M.bl f (x / 2) hx h1
      obtain ⟨k, hk⟩ : ∃ k, Lib.bitLenAux f (x / 2) = k + 1 := ⟨Lib.bitLenAux f (x / 2) - 1, by omega⟩
      rw [hk] at a b c d ⊢
      simp only [Nat.add_sub_cancel] at c
      have e1 : 2 ^ (1 + (k + 1) - 1) = 2 ^ k * 2 := by rw [show 1 + (k + 1) - 1 = k + 1 by omega, Nat.pow_succ]
      have e2 : 2 ^ (1 + (k + 1)) = 2 ^ (k + 1) * 2 := by rw [Nat.add_comm, Nat.pow_succ]
      exact ⟨by omega, by omega, by rw [e1]; omega, by rw [e2]; omega⟩

theorem M.mask (Z : Nat) (h : Z < 18446744073709551616) : bits .and .u64 (Z : Int) 4294967295 = ((Z % 4294967296 : Nat) : Int) := by
  have := bits_and_u64_nat Z 4294967295 h (by omega)
  rw [show ((4294967295 : Nat) : Int) = 4294967295 from rfl] at this
  rw [this, show (4294967295 : Nat) = 2 ^ 32 - 1 from rfl, Nat.and_two_pow_sub_one_eq_mod]

theorem M.cast_eq (hi lo P A K B C D : Nat) (h : (hi * K + lo) * P = (A * B + C) * B + D) : ((hi : Int) * (K : Int) + lo) * P = ((A : Int) * (B : Int) + C) * B + D := by exact_mod_cast h
theorem M.shifted (hi lo y : Nat) (h1 : hi < y) (h2 : lo < 18446744073709551616) (h3 : y < 18446744073709551616) : ∃ (s : Nat) (Y H L u Z c1 c0 y1 y0 p : Int), s ≤ 63 ∧ (64 - (Lib.bitLen y : Int)) = s ∧ (2 : Int) ^ s = p ∧
    IntKind.u64.wrap ((y : Int) * p) = Y ∧ Y / 4294967296 = y1 ∧ bits .and .u64 Y 4294967295 = y0 ∧ IntKind.u64.wrap ((hi : Int) * p) = H ∧ (lo : Int) / 2 ^ (64 - s) = L ∧ bits .or .u64 H L = u ∧
    IntKind.u64.wrap ((lo : Int) * p) = Z ∧ Z / 4294967296 = c1 ∧ bits .and .u64 Z 4294967295 = c0 ∧ Y = y1 * 4294967296 + y0 ∧ 2147483648 ≤ y1 ∧ y1 < 4294967296 ∧ 0 ≤ y0 ∧ y0 < 4294967296 ∧ M.Sh hi lo y s p Y u c1 c0 := by
  obtain ⟨b1, b2, b3, b4⟩ := M.bl 64 y h3 (by omega)
  have hbl : Lib.bitLen y = Lib.bitLenAux 64 y := rfl
  obtain ⟨k, hk⟩ : ∃ k, Lib.bitLenAux 64 y = k + 1 := ⟨Lib.bitLenAux 64 y - 1, by omega⟩
  rw [hk] at hbl b1 b2 b3 b4
  simp only [Nat.add_sub_cancel] at b3
  obtain ⟨s, hs⟩ : ∃ s, s = 63 - k := ⟨_, rfl⟩
  obtain ⟨P, hP⟩ : ∃ P, 2 ^ s = P := ⟨_, rfl⟩
  obtain ⟨R, hR⟩ : ∃ R, 2 ^ (64 - s) = R := ⟨_, rfl⟩
  have hPR : P * R = 18446744073709551616 := by rw [← hP, ← hR, ← Nat.pow_add, show s + (64 - s) = 64 by omega]
  have hP0 : 0 < P := by rw [← hP]; exact Nat.two_pow_pos _
  have hR0 : 0 < R := by rw [← hR]; exact Nat.two_pow_pos _
  have hyR : y < R := by rw [← hR, show 64 - s = k + 1 by omega]; exact b4
  have hyP : y * P < 18446744073709551616 := by rw [← hPR, Nat.mul_comm P R]; exact Nat.mul_lt_mul_of_pos_right hyR hP0
  have hyL : 9223372036854775808 ≤ y * P := by
    have e : 2 ^ k * P = 9223372036854775808 := by rw [← hP, ← Nat.pow_add, show k + s = 63 by omega]
    rw [← e]; exact Nat.mul_le_mul_right _ b3
  have hhP : hi * P + P ≤ y * P := by
    have : (hi + 1) * P ≤ y * P := Nat.mul_le_mul_right _ (by omega)
    rw [Nat.add_mul, Nat.one_mul] at this; exact this
  have hL : lo / R < P := by
    rw [Nat.div_lt_iff_lt_mul hR0, hPR]; exact h2
  have hdm := Nat.div_add_mod lo R
  have hmR := Nat.mod_lt lo hR0
  have hZ : lo % R * P < 18446744073709551616 := by rw [← hPR, Nat.mul_comm P R]; exact Nat.mul_lt_mul_of_pos_right hmR hP0
  have hloP : lo * P = (lo / R) * 18446744073709551616 + lo % R * P := by
    rw [← hPR]
    calc lo * P = (R * (lo / R) + lo % R) * P := by rw [hdm]
      _ = _ := by rw [Nat.add_mul]; congr 1; rw [Nat.mul_comm R, Nat.mul_assoc, Nat.mul_comm R P]
  have hwz : lo * P % 18446744073709551616 = lo % R * P := by rw [hloP]; omega
  have hor : hi * P ||| lo / R = hi * P + lo / R := by
    rw [← hP, Nat.mul_comm, ← Nat.two_pow_add_eq_or_of_lt (by rw [hP]; exact hL)]
  refine ⟨s, (y * P : Nat), (hi * P : Nat), (lo / R : Nat), (hi * P + lo / R : Nat), (lo % R * P : Nat), (lo % R * P / 4294967296 : Nat), (lo % R * P % 4294967296 : Nat), (y * P / 4294967296 : Nat), (y * P % 4294967296 : Nat), (P : Nat), by omega, by rw [hbl]; omega, by rw [← hP]; simp, ?_, by simp, M.mask _ hyP, ?_, ?_, ?_, ?_, by simp, M.mask _ hZ, by omega, by omega, by omega, by omega, by omega, ?_⟩
  · rw [IntKind.wrap_u64, ← Int.natCast_mul]; omega
  · rw [IntKind.wrap_u64, ← Int.natCast_mul]; omega
  · rw [← hR]; simp
  · rw [bits_or_u64_nat _ _ (by omega) (by omega), hor]
  · rw [IntKind.wrap_u64, ← Int.natCast_mul]; omega
  · refine ⟨by omega, by simp, by omega, by omega, by omega, by omega, by omega, by omega, by omega, by omega, ?_⟩
    have e : hi * 18446744073709551616 * P = hi * P * 18446744073709551616 := by rw [Nat.mul_right_comm]
    have : (hi * 18446744073709551616 + lo) * P = hi * P * 18446744073709551616 + ((lo / R) * 18446744073709551616 + lo % R * P) := by rw [Nat.add_mul, e, hloP]
    have h5 : (hi * 18446744073709551616 + lo) * P = ((hi * P + lo / R) * 4294967296 + lo % R * P / 4294967296) * 4294967296 + lo % R * P % 4294967296 := by
      rw [this]; omega
    exact M.cast_eq hi lo P (hi * P + lo / R) 18446744073709551616 4294967296 _ _ h5

theorem M.shiftedI (hi lo y : Int) (h0 : 0 ≤ hi) (h1 : hi < y) (h2 : 0 ≤ lo) (h3 : lo ≤ 18446744073709551615) (h4 : y ≤ 18446744073709551615) : ∃ (s : Nat) (Y H L u Z c1 c0 y1 y0 p : Int), s ≤ 63 ∧ (64 - (Lib.bitLen y.toNat : Int)) = s ∧ (2 : Int) ^ s = p ∧
    IntKind.u64.wrap (y * p) = Y ∧ Y / 4294967296 = y1 ∧ bits .and .u64 Y 4294967295 = y0 ∧ IntKind.u64.wrap (hi * p) = H ∧ lo / 2 ^ (64 - s) = L ∧ bits .or .u64 H L = u ∧
    IntKind.u64.wrap (lo * p) = Z ∧ Z / 4294967296 = c1 ∧ bits .and .u64 Z 4294967295 = c0 ∧ Y = y1 * 4294967296 + y0 ∧ 2147483648 ≤ y1 ∧ y1 < 4294967296 ∧ 0 ≤ y0 ∧ y0 < 4294967296 ∧ M.Sh hi lo y s p Y u c1 c0 := by
  obtain ⟨HI, rfl⟩ := Int.eq_ofNat_of_zero_le h0
  obtain ⟨LO, rfl⟩ := Int.eq_ofNat_of_zero_le h2
  obtain ⟨YY, rfl⟩ := Int.eq_ofNat_of_zero_le (show 0 ≤ y by omega)
  exact M.shifted HI LO YY (by omega) (by omega) (by omega)

end Go.Proofs.Ytfmdgeeooohilaa
