/- Walk of the law of solutions. -/
import Derived.Test.YtfmdgeeooohilaaIntMt
namespace Go.Proofs.Ytfmdgeeooohilaa
set_option linter.unusedVariables false
set_option linter.unusedSimpArgs false
open Go.RowKit

theorem Meet_at {a m b n p l : Int} {v : Bool} (w : World) (h1 : -9223372036854775808 ≤ a) (h2 : a ≤ 9223372036854775807) (h3 : -9223372036854775808 ≤ m) (h4 : m ≤ 9223372036854775807) (h5 : -9223372036854775808 ≤ b) (h6 : b ≤ 9223372036854775807) (h7 : -9223372036854775808 ≤ n) (h8 : n ≤ 9223372036854775807)
    (h : Hid (M.mt a m b n = ((p, l), v))) :
    Calls Try.prog 17 #[.int .i64 a, .int .i64 m, .int .i64 b, .int .i64 n] w fun e w' => e = .returned (.tuple #[.int .i64 p, .int .i64 l, .bool v]) ∧ ∃ j, w' = w.drewN j :=
  (Meet_any a m b n w h1 h2 h3 h4 h5 h6 h7 h8).mono fun _ _ ⟨he, hw⟩ => ⟨he.trans (ret_mt h.out).symm, hw⟩

set_option maxHeartbeats 1000000 in
theorem IntegerSolves_walk (x m n : Int) (w : World) (h1 : -9223372036854775808 ≤ x) (h2 : x ≤ 9223372036854775807) (h3 : -9223372036854775808 ≤ m) (h4 : m ≤ 9223372036854775807) (h7 : -9223372036854775808 ≤ n) (h8 : n ≤ 9223372036854775807) :
    Calls Try.prog 6 #[.int .i64 x, .int .i64 m, .int .i64 n] w fun e w' => e = .returned (.bool true) ∧ Below w.heap.size w w' := by
  by_cases hb : m < 1 ∨ n < 1
  · have hb' : m < 1 ∨ (1 ≤ m ∧ n < 1) := by omega
    clear hb
    rcases hb' with hm | ⟨hm, hn⟩
    all_goals
      go_enter Try.func6, Try.ntmps6
      go_wp2_with fail
      refine (awake_any _).mono ?_; rintro e w1 ⟨rfl, hb1⟩
      go_wp2_with fail
      refine (awake_any _).mono ?_; rintro e w2 ⟨rfl, hb2⟩
      go_wp2_with fail
      go_ret
      exact ⟨rfl, hb1.trans (hb2.mono hb1.size)⟩
  · have hm : 1 ≤ m := by omega
    have hn : 1 ≤ n := by omega
    clear hb
    obtain ⟨X, hX⟩ : ∃ X, x % m = X := ⟨_, rfl⟩
    obtain ⟨Y, hY⟩ : ∃ Y, x % n = Y := ⟨_, rfl⟩
    have x0 : 0 ≤ X := by rw [← hX]; exact Int.emod_nonneg _ (by omega)
    have x1 : X < m := by rw [← hX]; exact Int.emod_lt_of_pos _ (by omega)
    have y0 : 0 ≤ Y := by rw [← hY]; exact Int.emod_nonneg _ (by omega)
    have y1 : Y < n := by rw [← hY]; exact Int.emod_lt_of_pos _ (by omega)
    rcases M.two (m := m) (n := n) hm h4 hn h8 with ⟨l, g, k, t⟩ | hl
    · have l1 := t.l1
      have l2 := t.l2
      have L := Lib.hid t.lc
      obtain ⟨Z, hZ⟩ : ∃ Z, x % l = Z := ⟨_, rfl⟩
      have MT : Hid (M.mt X m Y n = ((Z, l), true)) := Lib.hid (by rw [← hX, ← hY, t.solves x, hZ])
      have FF := Lib.hid (And.intro hX (And.intro hY hZ))
      clear hX hY hZ t
      go_enter Try.func6, Try.ntmps6
      go_wp2_with (go_at_call 13; refine (awake_any _).mono ?_; rintro e w1 ⟨rfl, hb1⟩)
      refine (Mod_at (r := X) _ h1 h2 hm h4 FF.out.1).mono ?_; rintro e w' ⟨rfl, j1, rfl⟩
      go_wp2_with fail
      refine (Mod_at (r := Y) _ h1 h2 hn h8 FF.out.2.1).mono ?_; rintro e w' ⟨rfl, j2, rfl⟩
      go_wp2_with fail
      refine (Meet_at _ (by omega) (by omega) h3 h4 (by omega) (by omega) h7 h8 MT).mono ?_; rintro e w' ⟨rfl, j3, rfl⟩
      go_wp2_with fail
      refine (Lcm_at _ h3 h4 h7 h8 L).mono ?_; rintro e w' ⟨rfl, j4, rfl⟩
      go_wp2_with fail
      refine (Mod_at (r := Z) _ h1 h2 l1 l2 FF.out.2.2).mono ?_; rintro e w' ⟨rfl, j5, rfl⟩
      go_wp2_with fail
      go_ret
      exact ⟨rfl, bdrewN hb1⟩
    · have L := Lib.hid hl
      have MT : Hid (M.mt X m Y n = ((0, 0), false)) := Lib.hid (M.mt_big (by rw [hl]; simp))
      have FF := Lib.hid (And.intro hX hY)
      clear hX hY hl
      go_enter Try.func6, Try.ntmps6
      go_wp2_with (go_at_call 13; refine (awake_any _).mono ?_; rintro e w1 ⟨rfl, hb1⟩)
      refine (Mod_at (r := X) _ h1 h2 hm h4 FF.out.1).mono ?_; rintro e w' ⟨rfl, j1, rfl⟩
      go_wp2_with fail
      refine (Mod_at (r := Y) _ h1 h2 hn h8 FF.out.2).mono ?_; rintro e w' ⟨rfl, j2, rfl⟩
      go_wp2_with fail
      refine (Meet_at _ (by omega) (by omega) h3 h4 (by omega) (by omega) h7 h8 MT).mono ?_; rintro e w' ⟨rfl, j3, rfl⟩
      go_wp2_with fail
      refine (Lcm_at _ h3 h4 h7 h8 L).mono ?_; rintro e w' ⟨rfl, j4, rfl⟩
      go_wp2_with fail
      go_ret
      exact ⟨rfl, bdrewN hb1⟩

end Go.Proofs.Ytfmdgeeooohilaa
