/- Walk of integer.Meet. -/
import Derived.Test.YtfmdgeeooohilaaIntD2
import Derived.Test.YtfmdgeeooohilaaIntM5
import Derived.Test.YtfmdgeeooohilaaIntW7
namespace Go.Proofs.Ytfmdgeeooohilaa
set_option linter.unusedVariables false
set_option linter.unusedSimpArgs false
open Go.RowKit

theorem Div64_any (hi lo y : Int) (w : World) (h1 : 0 ≤ hi) (h2 : hi < y) (h3 : 0 ≤ lo) (h4 : lo ≤ 18446744073709551615) (h5 : y ≤ 18446744073709551615) :
    Calls Try.prog 33 #[.int .u64 hi, .int .u64 lo, .int .u64 y] w fun e w' => (∃ q, e = .returned (.tuple #[.int .u64 q, .int .u64 ((hi * 18446744073709551616 + lo) % y)])) ∧ ∃ n, w' = w.drewN n := by
  by_cases h0 : hi = 0
  · subst h0
    refine (Div64_small lo y w h3 h4 (by omega) h5).mono ?_
    rintro e w' ⟨he, hw⟩
    exact ⟨⟨_, he.trans (by rw [Int.zero_mul, Int.zero_add])⟩, hw⟩
  · exact (Div64_long hi lo y w (by omega) h2 h3 h4 h5).mono fun _ _ ⟨he, hw⟩ => ⟨he, 0, hw ▸ rfl⟩

theorem ret_mt {a m b n p l : Int} {v : Bool} (h : M.mt a m b n = ((p, l), v)) : Ending.returned (.tuple #[.int .i64 p, .int .i64 l, .bool v]) = .returned (.tuple #[.int .i64 (M.mt a m b n).1.1, .int .i64 (M.mt a m b n).1.2, .bool (M.mt a m b n).2]) := by rw [h]

/-- The two halves of a product below k * k. -/
theorem M.halves {d i k : Int} (d0 : 0 ≤ d) (dk : d < k) (i0 : 0 ≤ i) (ik : i < k) (k2 : k ≤ 9223372036854775807) :
    ∃ hi lo : Int, 0 ≤ hi ∧ hi < k ∧ 0 ≤ lo ∧ lo ≤ 18446744073709551615 ∧ hi * 18446744073709551616 + lo = d * i ∧ hi = ((d.toNat * i.toNat / 18446744073709551616 : Nat) : Int) ∧ lo = ((d.toNat * i.toNat % 18446744073709551616 : Nat) : Int) := by
  have e : ((d.toNat * i.toNat : Nat) : Int) = d * i := by rw [Int.natCast_mul, Int.toNat_of_nonneg d0, Int.toNat_of_nonneg i0]
  have b : d * i ≤ (k - 1) * 9223372036854775806 := Int.mul_le_mul (by omega) (by omega) i0 (by omega)
  refine ⟨_, _, by omega, by omega, by omega, by omega, ?_, rfl, rfl⟩
  omega

set_option maxHeartbeats 2000000 in
theorem Meet_any (a m b n : Int) (w : World) (h1 : -9223372036854775808 ≤ a) (h2 : a ≤ 9223372036854775807) (h3 : -9223372036854775808 ≤ m) (h4 : m ≤ 9223372036854775807) (h5 : -9223372036854775808 ≤ b) (h6 : b ≤ 9223372036854775807) (h7 : -9223372036854775808 ≤ n) (h8 : n ≤ 9223372036854775807) :
    Calls Try.prog 17 #[.int .i64 a, .int .i64 m, .int .i64 b, .int .i64 n] w fun e w' => e = .returned (.tuple #[.int .i64 (M.mt a m b n).1.1, .int .i64 (M.mt a m b n).1.2, .bool (M.mt a m b n).2]) ∧ ∃ j, w' = w.drewN j := by
  have HC : (∃ e, M.lc m n = (0, e) ∧ e ≠ 0) ∨ ∃ l g k, M.Two m n l g k := by
    by_cases hb : m < 1 ∨ n < 1
    · left; exact ⟨2, M.lc_2 hb, by omega⟩
    · rcases M.two (m := m) (n := n) (by omega) h4 (by omega) h8 with h | h
      · right; exact h
      · left; exact ⟨9, h, by omega⟩
  rcases HC with ⟨e, hl, he⟩ | ⟨l, g, k, t⟩
  · have R := Lib.hid (M.mt_big (a := a) (b := b) (by rw [hl]; exact he))
    have L := Lib.hid hl
    have e0 : (e != 0) = true := by simp [he]
    clear hl he
    go_enter Try.func17, Try.ntmps17
    go_wp2_with (go_at_call 15; refine (Lcm_at _ h3 h4 h7 h8 L).mono ?_; rintro e w' ⟨rfl, n1, rfl⟩)
    go_ret3
    exact ⟨ret_mt R.out, _, rfl⟩
  · have TT := Lib.hid t
    obtain ⟨m1, m2, n1, n2, g1, gm, gn, k1, kn, gk, mkl, gu, u1, um, l1, l2, kg, lc, gc, co⟩ := t
    have L := Lib.hid lc
    have G := Lib.hid gc
    have CO := Lib.hid co
    clear gk mkl gu lc gc co
    obtain ⟨X, hX⟩ : ∃ X, a % m = X := ⟨_, rfl⟩
    obtain ⟨Y, hY⟩ : ∃ Y, b % n = Y := ⟨_, rfl⟩
    obtain ⟨XN, hXN⟩ : ∃ XN, X % n = XN := ⟨_, rfl⟩
    obtain ⟨r, hr⟩ : ∃ r, (Y - XN) % n = r := ⟨_, rfl⟩
    have x0 : 0 ≤ X := by rw [← hX]; exact Int.emod_nonneg _ (by omega)
    have x1 : X < m := by rw [← hX]; exact Int.emod_lt_of_pos _ (by omega)
    have y0 : 0 ≤ Y := by rw [← hY]; exact Int.emod_nonneg _ (by omega)
    have y1 : Y < n := by rw [← hY]; exact Int.emod_lt_of_pos _ (by omega)
    have xn0 : 0 ≤ XN := by rw [← hXN]; exact Int.emod_nonneg _ (by omega)
    have xn1 : XN < n := by rw [← hXN]; exact Int.emod_lt_of_pos _ (by omega)
    have r0 : 0 ≤ r := by rw [← hr]; exact Int.emod_nonneg _ (by omega)
    have r1 : r < n := by rw [← hr]; exact Int.emod_lt_of_pos _ (by omega)
    have far := TT.out.far X Y
    rw [hXN, hr] at far
    obtain ⟨_, _, far3, far4⟩ := far
    have FF := Lib.hid (And.intro hX (And.intro hY (And.intro hXN hr)))
    by_cases hg : X % g = Y % g
    · obtain ⟨f1, f2⟩ := far4 hg
      have rg : (r % g != 0) = false := by simp [far3.2 hg]
      have R := Lib.hid (TT.out.yes (a := a) (b := b) (by rw [hX, hY]; exact hg))
      obtain ⟨s1, s2, s3, s4⟩ := TT.out.rest ((Y - X) / g)
      obtain ⟨E, hE⟩ : ∃ E, r / g = E := ⟨_, rfl⟩
      obtain ⟨D, hD⟩ : ∃ D, E % k = D := ⟨_, rfl⟩
      obtain ⟨A, hA⟩ : ∃ A, m / g = A := ⟨_, rfl⟩
      obtain ⟨A', hA'⟩ : ∃ A', A % k = A' := ⟨_, rfl⟩
      have e0 : 0 ≤ E := by rw [← hE]; exact Int.ediv_nonneg r0 (by omega)
      have e1 : E ≤ r := by rw [← hE]; exact Int.ediv_le_self _ r0
      have D0 : 0 ≤ D := by rw [← hD]; exact Int.emod_nonneg _ (by omega)
      have D1 : D < k := by rw [← hD]; exact Int.emod_lt_of_pos _ (by omega)
      have A0 : 0 ≤ A' := by rw [← hA']; exact Int.emod_nonneg _ (by omega)
      have A1 : A' < k := by rw [← hA']; exact Int.emod_lt_of_pos _ (by omega)
      have hco : Hid (Nat.gcd A'.natAbs k.natAbs = 1) := Lib.hid (by have := CO.out; rw [hA, hA'] at this; exact this)
      obtain ⟨i, hi⟩ : ∃ i, M.inv A' k = i := ⟨_, rfl⟩
      have hinv := M.inv_is (a := A') (n := k) A0 k1 hco.out
      rw [hi] at hinv
      obtain ⟨i0, i1, _⟩ := hinv
      obtain ⟨RS, hRS⟩ : ∃ RS, M.rest m g k ((Y - X) / g) = RS := ⟨_, rfl⟩
      have hprod : Hid ((D * i) % k = RS) := Lib.hid (by
        rw [← hRS]; unfold M.rest; rw [← f1, hE, hD, hA, hA', hi])
      rw [hRS] at s1 s2 s3 s4
      obtain ⟨hi', lo, q1, q2, q3, q4, q5, q6, q7⟩ := M.halves D0 D1 i0 i1 (by omega)
      have HI : Hid (∀ w, Calls Try.prog 32 #[.int .i64 A', .int .i64 k] w fun e w' => e = .returned (.int .i64 i) ∧ ∃ j, w' = w.drewN j) := Lib.hid fun w => hi ▸ inverse_any A' k w A0 (by omega) k1 (by omega) hco
      have HM : Hid (∀ w, Calls Try.prog 31 #[.int .u64 D, .int .u64 i] w fun e w' => e = .returned (.tuple #[.int .u64 hi', .int .u64 lo]) ∧ w = w') := Lib.hid fun w => by
        have := Try.bits_Mul64 D.toNat i.toNat (by omega) (by omega) w
        rw [Int.toNat_of_nonneg D0, Int.toNat_of_nonneg i0, ← q6, ← q7] at this
        exact this.mono fun _ _ ⟨he, hw⟩ => ⟨he, hw.symm⟩
      have HD : Hid (∀ w, Calls Try.prog 33 #[.int .u64 hi', .int .u64 lo, .int .u64 k] w fun e w' => (∃ q, e = .returned (.tuple #[.int .u64 q, .int .u64 RS])) ∧ ∃ j, w' = w.drewN j) := Lib.hid fun w => by
        have := Div64_any hi' lo k w q1 q2 q3 q4 (by omega)
        rw [q5, hprod.out] at this; exact this
      have R' : Hid (M.mt a m b n = ((X + m * RS, l), true)) := Lib.hid (by have := R.out; rw [hX, hY, hRS] at this; exact this)
      have rle : r ≤ 9223372036854775807 := by omega
      have q6' : hi' ≤ 18446744073709551615 := by omega
      clear f1 f2 far3 far4 hg hi hRS q5 q6 q7 R hX hY hXN hr
      go_enter Try.func17, Try.ntmps17
      go_wp2_with fail
      refine (Lcm_at _ h3 h4 h7 h8 L).mono ?_; rintro e w' ⟨rfl, j1, rfl⟩
      go_wp2_with fail
      refine (Gcd_at _ h3 h4 h7 h8 G).mono ?_; rintro e w' ⟨rfl, j2, rfl⟩
      go_wp2_with fail
      refine (Mod_at (r := X) _ h1 h2 m1 h4 FF.out.1).mono ?_; rintro e w' ⟨rfl, j3, rfl⟩
      go_wp2_with fail
      refine (Mod_at (r := Y) _ h5 h6 n1 h8 FF.out.2.1).mono ?_; rintro e w' ⟨rfl, j4, rfl⟩
      go_wp2_with fail
      refine (Mod_at (r := XN) _ (by omega) (by omega) n1 h8 FF.out.2.2.1).mono ?_; rintro e w' ⟨rfl, j5, rfl⟩
      go_wp2_with fail
      refine (Mod_at (r := r) _ (by omega) (by omega) n1 h8 FF.out.2.2.2).mono ?_; rintro e w' ⟨rfl, j6, rfl⟩
      go_wp2_with fail
      go_quiet ((first | (go_at_call 32; first | exact q_drew (HI.out _) | exact q0_drew (HI.out _)) | (go_at_call 31; first | exact q_same (HM.out _) | exact q0_same (HM.out _))))
      go_wp2_with fail
      refine (HD.out _).mono ?_; rintro e w' ⟨⟨q, rfl⟩, j7, rfl⟩
      go_wp2
      go_ret3
      exact ⟨ret_mt R'.out, _, rfl⟩
    · have rg : (r % g != 0) = true := by
        have : r % g ≠ 0 := fun h => hg (far3.1 h)
        simp [this]
      have R := Lib.hid (TT.out.no (a := a) (b := b) (by rw [hX, hY]; exact hg))
      clear far3 far4 hg hX hY hXN hr
      go_enter Try.func17, Try.ntmps17
      go_wp2_with fail
      refine (Lcm_at _ h3 h4 h7 h8 L).mono ?_; rintro e w' ⟨rfl, j1, rfl⟩
      go_wp2_with fail
      refine (Gcd_at _ h3 h4 h7 h8 G).mono ?_; rintro e w' ⟨rfl, j2, rfl⟩
      go_wp2_with fail
      refine (Mod_at (r := X) _ h1 h2 m1 h4 FF.out.1).mono ?_; rintro e w' ⟨rfl, j3, rfl⟩
      go_wp2_with fail
      refine (Mod_at (r := Y) _ h5 h6 n1 h8 FF.out.2.1).mono ?_; rintro e w' ⟨rfl, j4, rfl⟩
      go_wp2_with fail
      refine (Mod_at (r := XN) _ (by omega) (by omega) n1 h8 FF.out.2.2.1).mono ?_; rintro e w' ⟨rfl, j5, rfl⟩
      go_wp2_with fail
      refine (Mod_at (r := r) _ (by omega) (by omega) n1 h8 FF.out.2.2.2).mono ?_; rintro e w' ⟨rfl, j6, rfl⟩
      go_wp2
      go_ret3
      exact ⟨ret_mt R.out, _, rfl⟩

end Go.Proofs.Ytfmdgeeooohilaa
