/- Plain mathematics of a long division by digits of 32 bits: no program in sight. -/
namespace Go.Proofs.Ytfmdgeeooohilaa.M
set_option linter.unusedVariables false
set_option linter.unusedSimpArgs false

/-- What holds of a digit that is tried: Y = y1 * 2^32 + y0 is the divisor, u the rest so far, c the next digit. -/
structure Dig (Y y1 y0 u c q r : Int) : Prop where
  hY : Y = y1 * 4294967296 + y0
  y1a : 2147483648 ≤ y1
  y1b : y1 < 4294967296
  y0a : 0 ≤ y0
  y0b : y0 < 4294967296
  u0 : 0 ≤ u
  uY : u < Y
  c0 : 0 ≤ c
  cB : c < 4294967296
  q0 : 0 ≤ q
  qB : q ≤ 4294967297
  r0 : 0 ≤ r
  rB : r < 4294967296
  qr : q * y1 + r = u
  up : u * 4294967296 + c < (q + 1) * Y
theorem Dig.start {Y y1 y0 u c : Int} (hY : Y = y1 * 4294967296 + y0) (y1a : 2147483648 ≤ y1) (y1b : y1 < 4294967296) (y0a : 0 ≤ y0) (y0b : y0 < 4294967296) (u0 : 0 ≤ u) (uY : u < Y) (c0 : 0 ≤ c) (cB : c < 4294967296) :
    Dig Y y1 y0 u c (u / y1) (u - u / y1 * y1) := by
  have h1 := Int.mul_ediv_add_emod u y1
  have h2 := Int.emod_nonneg u (show y1 ≠ 0 by omega)
  have h3 := Int.emod_lt_of_pos u (show 0 < y1 by omega)
  have h4 : u / y1 * y1 = y1 * (u / y1) := Int.mul_comm ..
  have q0 : 0 ≤ u / y1 := Int.ediv_nonneg u0 (by omega)
  have qB : u / y1 ≤ 4294967297 := by
    apply Int.le_of_lt_add_one
    apply Int.ediv_lt_of_lt_mul (by omega)
    omega
  refine ⟨hY, y1a, y1b, y0a, y0b, u0, uY, c0, cB, q0, qB, by omega, by omega, by omega, ?_⟩
  have e : (u / y1 + 1) * Y = (u / y1 * y1 + y1) * 4294967296 + (u / y1 + 1) * y0 := by rw [hY]; grind
  have p0 : 0 ≤ (u / y1 + 1) * y0 := Int.mul_nonneg (by omega) y0a
  omega
/-- A digit that is too great. -/
theorem Dig.great {Y y1 y0 u c q r : Int} (h : Dig Y y1 y0 u c q r) (ht : 4294967296 ≤ q ∨ 4294967296 * r + c < q * y0) : u * 4294967296 + c < q * Y ∧ 1 ≤ q := by
  obtain ⟨hY, y1a, y1b, y0a, y0b, u0, uY, c0, cB, q0, qB, r0, rB, qr, up⟩ := h
  have hlt : u * 4294967296 + c < q * Y := by
    rcases ht with ht | ht
    · have : 4294967296 * Y ≤ q * Y := Int.mul_le_mul_of_nonneg_right ht (by omega)
      omega
    · have e : q * Y = q * y1 * 4294967296 + q * y0 := by rw [hY]; grind
      omega
  refine ⟨hlt, ?_⟩
  by_cases h0 : q = 0
  · subst h0; omega
  · omega
theorem Dig.next {Y y1 y0 u c q r : Int} (h : Dig Y y1 y0 u c q r) (ht : 4294967296 ≤ q ∨ 4294967296 * r + c < q * y0) (hr : r + y1 < 4294967296) : Dig Y y1 y0 u c (q - 1) (r + y1) := by
  obtain ⟨g1, g2⟩ := h.great ht
  obtain ⟨hY, y1a, y1b, y0a, y0b, u0, uY, c0, cB, q0, qB, r0, rB, qr, up⟩ := h
  have e : (q - 1) * y1 = q * y1 - y1 := by grind
  exact ⟨hY, y1a, y1b, y0a, y0b, u0, uY, c0, cB, by omega, by omega, by omega, hr, by omega, by rw [show q - 1 + 1 = q by omega]; exact g1⟩
/-- The digit is found: what is left is a rest. -/
theorem Dig.fits {Y y1 y0 u c q r : Int} (h : Dig Y y1 y0 u c q r) (h1 : q < 4294967296) (h2 : q * y0 ≤ 4294967296 * r + c) : 0 ≤ u * 4294967296 + c - q * Y ∧ u * 4294967296 + c - q * Y < Y ∧ 0 ≤ q ∧ q ≤ 4294967296 := by
  obtain ⟨hY, y1a, y1b, y0a, y0b, u0, uY, c0, cB, q0, qB, r0, rB, qr, up⟩ := h
  have e : q * Y = q * y1 * 4294967296 + q * y0 := by rw [hY]; grind
  have e2 : (q + 1) * Y = q * Y + Y := by grind
  exact ⟨by omega, by omega, q0, by omega⟩
theorem Dig.stops {Y y1 y0 u c q r : Int} (h : Dig Y y1 y0 u c q r) (ht : 4294967296 ≤ q ∨ 4294967296 * r + c < q * y0) (hr : 4294967296 ≤ r + y1) :
    0 ≤ u * 4294967296 + c - (q - 1) * Y ∧ u * 4294967296 + c - (q - 1) * Y < Y ∧ 0 ≤ q - 1 ∧ q - 1 ≤ 4294967296 := by
  obtain ⟨g1, g2⟩ := h.great ht
  obtain ⟨hY, y1a, y1b, y0a, y0b, u0, uY, c0, cB, q0, qB, r0, rB, qr, up⟩ := h
  have e : (q - 1) * Y = (q * y1 - y1) * 4294967296 + (q - 1) * y0 := by rw [hY]; grind
  have b : (q - 1) * y0 ≤ 4294967296 * 4294967295 := Int.mul_le_mul (by omega) (by omega) y0a (by omega)
  have e2 : q * Y = (q - 1) * Y + Y := by grind
  exact ⟨by omega, by omega, by omega, by omega⟩
/-- The product that the test reckons stays within 64 bits. -/
theorem Dig.small {Y y1 y0 u c q r : Int} (h : Dig Y y1 y0 u c q r) (h1 : q < 4294967296) : 0 ≤ q * y0 ∧ q * y0 < 18446744073709551616 := by
  have b : q * y0 ≤ 4294967295 * 4294967295 := Int.mul_le_mul (by omega) (by have := h.y0b; omega) h.y0a (by omega)
  exact ⟨Int.mul_nonneg h.q0 h.y0a, by omega⟩

/-- The dividend, shifted, as three digits; and what the two rests say of its remainder. -/
structure Sh (hi lo y s p : Int) (Y u c1 c0 : Int) : Prop where
  p1 : 1 ≤ p
  pY : y * p = Y
  lo63 : 9223372036854775808 ≤ Y
  hi64 : Y < 18446744073709551616
  u0 : 0 ≤ u
  uY : u < Y
  c1a : 0 ≤ c1
  c1b : c1 < 4294967296
  c0a : 0 ≤ c0
  c0b : c0 < 4294967296
  val : (hi * 18446744073709551616 + lo) * p = (u * 4294967296 + c1) * 4294967296 + c0
theorem Sh.rest {hi lo y s p Y u c1 c0 q1 q0 : Int} (h : Sh hi lo y s p Y u c1 c0) (hy : 1 ≤ y)
    (h2a : 0 ≤ (u * 4294967296 + c1 - q1 * Y) * 4294967296 + c0 - q0 * Y) (h2b : (u * 4294967296 + c1 - q1 * Y) * 4294967296 + c0 - q0 * Y < Y) :
    ((u * 4294967296 + c1 - q1 * Y) * 4294967296 + c0 - q0 * Y) / p = (hi * 18446744073709551616 + lo) % y := by
  have p1 := h.p1
  obtain ⟨m, hm⟩ : ∃ m, (hi * 18446744073709551616 + lo) - (q1 * 4294967296 + q0) * y = m := ⟨_, rfl⟩
  have e : (u * 4294967296 + c1 - q1 * Y) * 4294967296 + c0 - q0 * Y = m * p := by
    have := h.val
    rw [← hm, ← h.pY]
    grind
  rw [e] at h2a h2b ⊢
  rw [Int.mul_ediv_cancel _ (by omega)]
  have m0 : 0 ≤ m := by
    by_cases h0 : 0 ≤ m
    · exact h0
    · have : m * p ≤ -1 * p := Int.mul_le_mul_of_nonneg_right (by omega) (by omega)
      omega
  have m1 : m < y := by
    by_cases h0 : m < y
    · exact h0
    · have : y * p ≤ m * p := Int.mul_le_mul_of_nonneg_right (by omega) (by omega)
      have := h.pY
      omega
  have : (hi * 18446744073709551616 + lo) = m + (q1 * 4294967296 + q0) * y := by omega
  rw [this, Int.add_mul_emod_self_right, Int.emod_eq_of_lt m0 m1]

end Go.Proofs.Ytfmdgeeooohilaa.M
