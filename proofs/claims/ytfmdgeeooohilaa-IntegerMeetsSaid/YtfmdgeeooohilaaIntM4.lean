/- Plain mathematics of two congruences: no program in sight. -/
import Derived.Test.YtfmdgeeooohilaaIntL2
namespace Go.Proofs.Ytfmdgeeooohilaa.M
set_option linter.unusedVariables false
set_option linter.unusedSimpArgs false

theorem gc_coprime {m n : Int} (hm : 1 ≤ m) (hm2 : m ≤ 9223372036854775807) (hn : 1 ≤ n) : Nat.gcd (m / gc m n).natAbs (n / gc m n).natAbs = 1 := by
  obtain ⟨A, rfl⟩ := Int.eq_ofNat_of_zero_le (show 0 ≤ m by omega)
  obtain ⟨B, rfl⟩ := Int.eq_ofNat_of_zero_le (show 0 ≤ n by omega)
  have hp : 0 < Nat.gcd A B := Nat.gcd_pos_of_pos_left _ (by omega)
  have hle : Nat.gcd A B ≤ A := Nat.gcd_le_left _ (by omega)
  rw [gc_ok (by simp only [Int.natAbs_natCast]; omega)]
  simp only [Int.natAbs_natCast]
  rw [← Int.natCast_ediv, ← Int.natCast_ediv, Int.natAbs_natCast, Int.natAbs_natCast]
  exact Nat.coprime_div_gcd_div_gcd hp
theorem gcd_mod {a k : Int} (ha : 0 ≤ a) (hk : 1 ≤ k) (h : Nat.gcd a.natAbs k.natAbs = 1) : Nat.gcd (a % k).natAbs k.natAbs = 1 := by
  obtain ⟨A, rfl⟩ := Int.eq_ofNat_of_zero_le ha
  obtain ⟨K, rfl⟩ := Int.eq_ofNat_of_zero_le (show 0 ≤ k by omega)
  rw [← Int.natCast_emod, Int.natAbs_natCast, Int.natAbs_natCast]
  rw [Int.natAbs_natCast, Int.natAbs_natCast] at h
  rw [← Nat.gcd_rec, Nat.gcd_comm]; exact h

/-- What is known of two moduli whose least common multiple is an int. -/
structure Two (m n l g k : Int) : Prop where
  m1 : 1 ≤ m
  m2 : m ≤ 9223372036854775807
  n1 : 1 ≤ n
  n2 : n ≤ 9223372036854775807
  g1 : 1 ≤ g
  gm : g ≤ m
  gn : g ≤ n
  k1 : 1 ≤ k
  kn : k ≤ n
  gk : g * k = n
  mkl : m * k = l
  gu : g * (m / g) = m
  u1 : 1 ≤ m / g
  um : m / g ≤ m
  l1 : 1 ≤ l
  l2 : l ≤ 9223372036854775807
  kg : n / g = k
  lc : lc m n = (l, 0)
  gc : gc m n = g
  co : Nat.gcd (m / g % k).natAbs k.natAbs = 1
theorem two {m n : Int} (hm : 1 ≤ m) (hm2 : m ≤ 9223372036854775807) (hn : 1 ≤ n) (hn2 : n ≤ 9223372036854775807) : (∃ l g k, Two m n l g k) ∨ M.lc m n = (0, 9) := by
  obtain ⟨g1, g2, g3, hc⟩ := lc_cases hm hm2 hn hn2
  rcases hc with ⟨l, hl, l1, l2, _, _, _⟩ | ⟨h, _⟩
  · left
    obtain ⟨_, _, d1, d2, _⟩ := gc_some (a := m) (b := n) (by omega)
    refine ⟨l, M.gc m n, n / M.gc m n, ⟨hm, hm2, hn, hn2, g1, g2, g3, Int.le_ediv_of_mul_le (by omega) (by omega), Int.ediv_le_self _ (by omega), Int.mul_ediv_cancel' d2, ?_, Int.mul_ediv_cancel' d1, Int.le_ediv_of_mul_le (by omega) (by omega), Int.ediv_le_self _ (by omega), l1, l2, rfl, hl, rfl, ?_⟩⟩
    · rw [lc_ok (by omega)] at hl
      by_cases hf : -9223372036854775808 ≤ m * (n / M.gc m n) ∧ m * (n / M.gc m n) ≤ 9223372036854775807
      · rw [ml_ok hf] at hl; injection hl
      · rw [ml_big hf] at hl; injection hl with _ e; omega
    · exact gcd_mod (Int.ediv_nonneg (by omega) (by omega)) (Int.le_ediv_of_mul_le (by omega) (by omega)) (gc_coprime hm hm2 hn)
  · right; exact h

theorem emod_eq_of_dvd {a b n : Int} (h : n ∣ a - b) : a % n = b % n := by
  have := Int.emod_emod_of_dvd
  exact Int.emod_eq_emod_iff_emod_sub_eq_zero.2 (Int.emod_eq_zero_of_dvd h)
theorem dvd_of_emod_eq {a b n : Int} (h : a % n = b % n) : n ∣ a - b :=
  Int.dvd_of_emod_eq_zero (Int.emod_eq_emod_iff_emod_sub_eq_zero.1 h)
theorem dvd_sub_emod (a n : Int) : n ∣ a - a % n := ⟨a / n, by have := Int.mul_ediv_add_emod a n; omega⟩

/-- How far the second remainder is from the first one, modulo n. -/
theorem Two.far {m n l g k : Int} (t : Two m n l g k) (x y : Int) :
    0 ≤ (y - x % n) % n ∧ (y - x % n) % n < n ∧ ((y - x % n) % n % g = 0 ↔ x % g = y % g) ∧
    (x % g = y % g → (y - x % n) % n / g % k = (y - x) / g % k ∧ (y - x).tdiv g = (y - x) / g) := by
  have gn : g ∣ n := ⟨k, t.gk.symm⟩
  have e1 : n ∣ (y - x % n) % n - (y - x) := by
    have h1 := Int.dvd_neg.2 (dvd_sub_emod (y - x % n) n)
    have h2 := dvd_sub_emod x n
    have := Int.dvd_add h1 h2
    rw [show -(y - x % n - (y - x % n) % n) + (x - x % n) = (y - x % n) % n - (y - x) by omega] at this
    exact this
  have hg := Int.dvd_trans gn e1
  have n1 := t.n1
  refine ⟨Int.emod_nonneg _ (by omega), Int.emod_lt_of_pos _ (by omega), ?_, fun hx => ?_⟩
  · rw [emod_eq_of_dvd hg]
    constructor
    · intro h; exact (Int.emod_eq_emod_iff_emod_sub_eq_zero.2 h).symm
    · intro h; exact Int.emod_eq_emod_iff_emod_sub_eq_zero.1 h.symm
  · have hd : g ∣ y - x := dvd_of_emod_eq hx.symm
    obtain ⟨q, hq⟩ := hd
    obtain ⟨c, hc⟩ := e1
    have g0 : g ≠ 0 := by have := t.g1; omega
    constructor
    · have : (y - x % n) % n = g * (q + k * c) := by
        rw [Int.mul_add, ← Int.mul_assoc, t.gk]; omega
      rw [this, hq, Int.mul_ediv_cancel_left _ g0, Int.mul_ediv_cancel_left _ g0, Int.add_mul_emod_self_left]
    · rw [hq, Int.mul_ediv_cancel_left _ g0, Int.mul_tdiv_cancel_left _ g0]

/-- The least solution's distance from the first remainder, in units of m. -/
noncomputable def rest (m g k d : Int) : Int := d % k * inv (m / g % k) k % k
theorem Two.rest {m n l g k : Int} (t : Two m n l g k) (d : Int) : 0 ≤ rest m g k d ∧ rest m g k d < k ∧ 0 ≤ m * rest m g k d ∧ m * rest m g k d ≤ l - m := by
  have k1 := t.k1
  have m1 := t.m1
  have h0 : 0 ≤ M.rest m g k d := Int.emod_nonneg _ (by omega)
  have h1 : M.rest m g k d < k := Int.emod_lt_of_pos _ (by omega)
  refine ⟨h0, h1, Int.mul_nonneg (by omega) h0, ?_⟩
  have : m * M.rest m g k d ≤ m * (k - 1) := Int.mul_le_mul_of_nonneg_left (by omega) (by omega)
  rw [Int.mul_sub, t.mkl] at this; omega

noncomputable def mt (a m b n : Int) : (Int × Int) × Bool :=
  if (M.lc m n).2 ≠ 0 then ((0, 0), false)
  else if a % m % M.gc m n = b % n % M.gc m n then ((a % m + m * M.rest m (M.gc m n) (n / M.gc m n) ((b % n - a % m) / M.gc m n), (M.lc m n).1), true)
  else ((0, 0), false)
theorem mt_big {a m b n : Int} (h : (M.lc m n).2 ≠ 0) : mt a m b n = ((0, 0), false) := by simp only [mt, if_pos h]
theorem Two.no {m n l g k : Int} (t : Two m n l g k) {a b : Int} (h : ¬ a % m % g = b % n % g) : mt a m b n = ((0, 0), false) := by
  have hg := t.gc
  simp only [mt]
  rw [t.lc, hg, if_neg (by simp), if_neg h]
theorem Two.yes {m n l g k : Int} (t : Two m n l g k) {a b : Int} (h : a % m % g = b % n % g) : mt a m b n = ((a % m + m * M.rest m g k ((b % n - a % m) / g), l), true) := by
  have hg := t.gc
  simp only [mt]
  rw [t.lc, hg, t.kg, if_neg (by simp), if_pos h]

end Go.Proofs.Ytfmdgeeooohilaa.M
