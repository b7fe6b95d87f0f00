/- Walk of the reference's congruences, and of the law of congruences. -/
import Derived.Test.YtfmdgeeooohilaaIntR3
import Derived.Test.YtfmdgeeooohilaaIntW10
namespace Go.Proofs.Ytfmdgeeooohilaa
set_option linter.unusedVariables false
set_option linter.unusedSimpArgs false
open Go.RowKit

set_option maxHeartbeats 2000000 in
theorem rMeet_any (a m b n : Int) (w : World) (h1 : -9223372036854775808 ≤ a) (h2 : a ≤ 9223372036854775807) (h3 : -9223372036854775808 ≤ m) (h4 : m ≤ 9223372036854775807) (h5 : -9223372036854775808 ≤ b) (h6 : b ≤ 9223372036854775807) (h7 : -9223372036854775808 ≤ n) (h8 : n ≤ 9223372036854775807) :
    Calls Try.prog 18 #[.int .i64 a, .int .i64 m, .int .i64 b, .int .i64 n] w fun e w' => e = .returned (.tuple #[.int .i64 (M.mt a m b n).1.1, .int .i64 (M.mt a m b n).1.2, .bool (M.mt a m b n).2]) ∧ ∃ j, w' = w.drewN j := by
  have HC : (∃ e, M.lc m n = (0, e) ∧ e ≠ 0) ∨ ∃ l g k, M.Two m n l g k := by
    by_cases hb : m < 1 ∨ n < 1
    · left; exact ⟨2, M.lc_2 hb, by omega⟩
    · rcases M.two (m := m) (n := n) (by omega) h4 (by omega) h8 with h | h
      · right; exact h
      · left; exact ⟨9, h, by omega⟩
  rcases HC with ⟨e, hl, he⟩ | ⟨l, g, k, t⟩
  · have R := Lib.hid (M.mt_big (a := a) (b := b) (by rw [hl]; exact he))
    have L := Lib.hid hl
    have e0 : (e != 0) = true := by simp [he]
    clear hl he
    go_enter Try.func18, Try.ntmps18
    go_wp2_with (go_at_call 34; refine (rLcm_at _ h3 h4 h7 h8 L).mono ?_; rintro e w' ⟨rfl, n1, rfl⟩)
    go_ret3
    exact ⟨ret_mt R.out, _, rfl⟩
  · have TT := Lib.hid t
    obtain ⟨m1, m2, n1, n2, g1, gm, gn, k1, kn, gk, mkl, gu, u1, um, l1, l2, kg, lc, gc, co⟩ := t
    have L := Lib.hid lc
    have HG : Hid (∀ w, Calls Try.prog 35 #[.int .i64 m, .int .i64 n] w fun e w' => e = .returned (.int .i64 g) ∧ ∃ j, w' = w.drewN j) := Lib.hid fun w => gc ▸ rGcd_pos m n w m1 h4 n1 h8
    have CO := Lib.hid co
    clear gk mkl gu lc gc co
    obtain ⟨X, hX⟩ : ∃ X, a % m = X := ⟨_, rfl⟩
    obtain ⟨Y, hY⟩ : ∃ Y, b % n = Y := ⟨_, rfl⟩
    obtain ⟨XG, hXG⟩ : ∃ XG, X % g = XG := ⟨_, rfl⟩
    obtain ⟨YG, hYG⟩ : ∃ YG, Y % g = YG := ⟨_, rfl⟩
    have x0 : 0 ≤ X := by rw [← hX]; exact Int.emod_nonneg _ (by omega)
    have x1 : X < m := by rw [← hX]; exact Int.emod_lt_of_pos _ (by omega)
    have y0 : 0 ≤ Y := by rw [← hY]; exact Int.emod_nonneg _ (by omega)
    have y1 : Y < n := by rw [← hY]; exact Int.emod_lt_of_pos _ (by omega)
    obtain ⟨_, _, _, far4⟩ := TT.out.far X Y
    have FF := Lib.hid (And.intro hX (And.intro hY (And.intro hXG hYG)))
    by_cases hg : X % g = Y % g
    · obtain ⟨_, f2⟩ := far4 hg
      have rg : (XG != YG) = false := by rw [← hXG, ← hYG, hg]; simp
      have R := Lib.hid (TT.out.yes (a := a) (b := b) (by rw [hX, hY]; exact hg))
      obtain ⟨s1, s2, s3, s4⟩ := TT.out.rest ((Y - X) / g)
      obtain ⟨Q, hQ⟩ : ∃ Q, (Y - X) / g = Q := ⟨_, rfl⟩
      rw [hQ] at f2 s1 s2 s3 s4
      obtain ⟨D, hD⟩ : ∃ D, Q % k = D := ⟨_, rfl⟩
      obtain ⟨A, hA⟩ : ∃ A, m / g = A := ⟨_, rfl⟩
      obtain ⟨A', hA'⟩ : ∃ A', A % k = A' := ⟨_, rfl⟩
      have Q0 : -9223372036854775808 ≤ Q := by rw [← hQ]; exact Int.le_ediv_of_mul_le (by omega) (by omega)
      have Q1 : Q ≤ 9223372036854775807 := by
        have : Q < 9223372036854775808 := by rw [← hQ]; exact Int.ediv_lt_of_lt_mul (by omega) (by omega)
        omega
      have D0 : 0 ≤ D := by rw [← hD]; exact Int.emod_nonneg _ (by omega)
      have D1 : D < k := by rw [← hD]; exact Int.emod_lt_of_pos _ (by omega)
      have A0 : 0 ≤ A' := by rw [← hA']; exact Int.emod_nonneg _ (by omega)
      have A1 : A' < k := by rw [← hA']; exact Int.emod_lt_of_pos _ (by omega)
      have hco : Hid (Nat.gcd A'.natAbs k.natAbs = 1) := Lib.hid (by have := CO.out; rw [hA, hA'] at this; exact this)
      obtain ⟨i, hi⟩ : ∃ i, M.inv A' k = i := ⟨_, rfl⟩
      have hinv := M.inv_is (a := A') (n := k) A0 k1 hco.out
      rw [hi] at hinv
      obtain ⟨i0, i1, _⟩ := hinv
      obtain ⟨RS, hRS⟩ : ∃ RS, M.rest m g k Q = RS := ⟨_, rfl⟩
      have hprod : D * i % k = RS := by
        rw [← hRS]; unfold M.rest; rw [hD, hA, hA', hi]
      rw [hRS] at s1 s2 s3 s4
      have uA : A ≤ 9223372036854775807 := by rw [← hA]; omega
      have uA1 : 1 ≤ A := by rw [← hA]; exact u1
      have HQ : Hid (∀ w, Calls Try.prog 36 #[.int .i64 Q, .int .i64 k] w fun e w' => e = .returned (.int .i64 D) ∧ ∃ j, w' = w.drewN j) := Lib.hid fun w => rMod_at w Q0 Q1 k1 (by omega) hD
      have HA : Hid (∀ w, Calls Try.prog 36 #[.int .i64 A, .int .i64 k] w fun e w' => e = .returned (.int .i64 A') ∧ ∃ j, w' = w.drewN j) := Lib.hid fun w => rMod_at w (by omega) uA k1 (by omega) hA'
      have HI : Hid (∀ w, Calls Try.prog 38 #[.int .i64 A', .int .i64 k] w fun e w' => e = .returned (.int .i64 i) ∧ ∃ j, w' = w.drewN j) := Lib.hid fun w => hi ▸ rinverse_any A' k w A0 A1 (by omega) hco
      have HT : Hid (∀ w, Calls Try.prog 37 #[.int .i64 D, .int .i64 i, .int .i64 k] w fun e w' => e = .returned (.int .i64 RS) ∧ w = w') := Lib.hid fun w => hprod ▸ times_any D i k w D0 D1 i0 (by omega) (by omega)
      have R' : Hid (M.mt a m b n = ((X + m * RS, l), true)) := Lib.hid (by have := R.out; rw [hX, hY, hQ, hRS] at this; exact this)
      have yx0 : -9223372036854775808 ≤ Y - X := by omega
      have yx1 : Y - X ≤ 9223372036854775807 := by omega
      clear far4 hg hi hRS R hX hY hXG hYG hprod hQ hD hA'
      go_enter Try.func18, Try.ntmps18
      go_wp2_with fail
      refine (rLcm_at _ h3 h4 h7 h8 L).mono ?_; rintro e w' ⟨rfl, j1, rfl⟩
      go_wp2_with fail
      refine (HG.out _).mono ?_; rintro e w' ⟨rfl, j2, rfl⟩
      go_wp2_with fail
      refine (rMod_at (r := X) _ h1 h2 m1 h4 FF.out.1).mono ?_; rintro e w' ⟨rfl, j3, rfl⟩
      go_wp2_with fail
      refine (rMod_at (r := Y) _ h5 h6 n1 h8 FF.out.2.1).mono ?_; rintro e w' ⟨rfl, j4, rfl⟩
      go_wp2_with fail
      refine (rMod_at (r := XG) _ (by omega) (by omega) g1 (by omega) FF.out.2.2.1).mono ?_; rintro e w' ⟨rfl, j5, rfl⟩
      go_wp2_with fail
      refine (rMod_at (r := YG) _ (by omega) (by omega) g1 (by omega) FF.out.2.2.2).mono ?_; rintro e w' ⟨rfl, j6, rfl⟩
      go_wp2_with fail
      go_quiet ((first
        | (go_at_call_of 36 (Value.int IntKind.i64 Q); first | exact q_drew (HQ.out _) | exact q0_drew (HQ.out _))
        | (go_at_call_of 36 (Value.int IntKind.i64 A); first | exact q_drew (HA.out _) | exact q0_drew (HA.out _))
        | (go_at_call 38; first | exact q_drew (HI.out _) | exact q0_drew (HI.out _))
        | (go_at_call 37; first | exact q_same (HT.out _) | exact q0_same (HT.out _))))
      go_wp2
      go_ret3
      exact ⟨ret_mt R'.out, _, by first | rfl | rw [World.drewN_drewN]⟩
    · have rg : (XG != YG) = true := by rw [← hXG, ← hYG]; simp [hg]
      have R := Lib.hid (TT.out.no (a := a) (b := b) (by rw [hX, hY]; exact hg))
      clear far4 hg hX hY hXG hYG
      go_enter Try.func18, Try.ntmps18
      go_wp2_with fail
      refine (rLcm_at _ h3 h4 h7 h8 L).mono ?_; rintro e w' ⟨rfl, j1, rfl⟩
      go_wp2_with fail
      refine (HG.out _).mono ?_; rintro e w' ⟨rfl, j2, rfl⟩
      go_wp2_with fail
      refine (rMod_at (r := X) _ h1 h2 m1 h4 FF.out.1).mono ?_; rintro e w' ⟨rfl, j3, rfl⟩
      go_wp2_with fail
      refine (rMod_at (r := Y) _ h5 h6 n1 h8 FF.out.2.1).mono ?_; rintro e w' ⟨rfl, j4, rfl⟩
      go_wp2_with fail
      refine (rMod_at (r := XG) _ (by omega) (by omega) g1 (by omega) FF.out.2.2.1).mono ?_; rintro e w' ⟨rfl, j5, rfl⟩
      go_wp2_with fail
      refine (rMod_at (r := YG) _ (by omega) (by omega) g1 (by omega) FF.out.2.2.2).mono ?_; rintro e w' ⟨rfl, j6, rfl⟩
      go_wp2
      go_ret3
      exact ⟨ret_mt R.out, _, rfl⟩

theorem IntegerMeets_walk (a m b n : Int) (w : World) (h1 : -9223372036854775808 ≤ a) (h2 : a ≤ 9223372036854775807) (h3 : -9223372036854775808 ≤ m) (h4 : m ≤ 9223372036854775807) (h5 : -9223372036854775808 ≤ b) (h6 : b ≤ 9223372036854775807) (h7 : -9223372036854775808 ≤ n) (h8 : n ≤ 9223372036854775807) :
    Calls Try.prog 5 #[.int .i64 a, .int .i64 m, .int .i64 b, .int .i64 n] w fun e w' => e = .returned (.bool true) ∧ Below w.heap.size w w' := by
  obtain ⟨⟨⟨p, l⟩, v⟩, hx⟩ : ∃ x, M.mt a m b n = x := ⟨_, rfl⟩
  have T1 : ∀ w, Calls Try.prog 17 #[.int .i64 a, .int .i64 m, .int .i64 b, .int .i64 n] w fun e w' => e = .returned (.tuple #[.int .i64 p, .int .i64 l, .bool v]) ∧ ∃ j, w' = w.drewN j := fun w => by
    have := Meet_any a m b n w h1 h2 h3 h4 h5 h6 h7 h8; rw [hx] at this; exact this
  have T2 : ∀ w, Calls Try.prog 18 #[.int .i64 a, .int .i64 m, .int .i64 b, .int .i64 n] w fun e w' => e = .returned (.tuple #[.int .i64 p, .int .i64 l, .bool v]) ∧ ∃ j, w' = w.drewN j := fun w => by
    have := rMeet_any a m b n w h1 h2 h3 h4 h5 h6 h7 h8; rw [hx] at this; exact this
  have H1 := Lib.hid T1
  have H2 := Lib.hid T2
  clear T1 T2 hx
  cases v
  all_goals
    go_enter Try.func5, Try.ntmps5
    go_wp2_with (first
      | (go_at_call 13; refine (awake_any _).mono ?_; rintro e w1 ⟨rfl, hb1⟩)
      | (go_at_call 17; refine (H1.out _).mono ?_; rintro e w' ⟨rfl, n1, rfl⟩)
      | (go_at_call 18; refine (H2.out _).mono ?_; rintro e w' ⟨rfl, n2, rfl⟩))
    go_ret
    exact ⟨rfl, bdrewN hb1⟩

end Go.Proofs.Ytfmdgeeooohilaa
