/- Walk of the law of divisors. -/
import Derived.Test.YtfmdgeeooohilaaIntW7
namespace Go.Proofs.Ytfmdgeeooohilaa
set_option linter.unusedVariables false
set_option linter.unusedSimpArgs false
open Go.RowKit

set_option maxRecDepth 400000 in
set_option maxHeartbeats 2000000 in
theorem IntegerDivisors_walk (a b d : Int) (w : World) (h1 : -9223372036854775808 ≤ a) (h2 : a ≤ 9223372036854775807) (h3 : -9223372036854775808 ≤ b) (h4 : b ≤ 9223372036854775807) (h5 : -9223372036854775808 ≤ d) (h6 : d ≤ 9223372036854775807) :
    Calls Try.prog 3 #[.int .i64 a, .int .i64 b, .int .i64 d] w fun e w' => e = .returned (.bool true) ∧ Below w.heap.size w w' := by
  obtain ⟨g, hg⟩ : ∃ g, M.gc a b = g := ⟨_, rfl⟩
  have G := Lib.hid hg
  have G2 : Hid (M.gc b a = g) := Lib.hid (by rw [M.gc_comm]; exact hg)
  have G3 : Hid (M.gc (-a) b = g) := Lib.hid (by rw [M.gc_neg]; exact hg)
  by_cases hz : g = 0
  · obtain ⟨za, zb⟩ := M.gc_zero h1 h2 h3 h4 (hg.trans hz)
    have g0 : (g == 0) = true := by simp [hz]
    have za' : (a == 0) = true ∨ ((a == 0) = false ∧ (a == -9223372036854775808) = true) := by
      rcases za with rfl | h
      · left; rfl
      · right; exact ⟨by simp [h], by simp [h]⟩
    have zb' : (b == 0) = true ∨ ((b == 0) = false ∧ (b == -9223372036854775808) = true) := by
      rcases zb with rfl | h
      · left; rfl
      · right; exact ⟨by simp [h], by simp [h]⟩
    clear za zb hg hz
    rcases za' with a0 | ⟨a0, a9⟩ <;> rcases zb' with b0 | ⟨b0, b9⟩
    all_goals
      go_enter Try.func3, Try.ntmps3
      go_wp2_with (go_at_call 13; refine (awake_any _).mono ?_; rintro e w1 ⟨rfl, hb1⟩)
      refine (Gcd_at _ h1 h2 h3 h4 G).mono ?_; rintro e w' ⟨rfl, n1, rfl⟩
      go_wp2_with fail
      refine (Gcd_at _ h3 h4 h1 h2 G2).mono ?_; rintro e w' ⟨rfl, n2, rfl⟩
      go_wp2_with fail
      go_ret
      exact ⟨rfl, bdrewN hb1⟩
  · obtain ⟨g1, g2, ga, gb, gd⟩ := M.gc_some (a := a) (b := b) (by rw [hg]; exact hz)
    rw [hg] at g1 g2 ga gb gd
    have g0 : (g == 0) = false := by simp [hz]
    have gl : decide (g < 0) = false := by simp; omega
    have ea : (a.tmod g != 0) = false := by rw [M.dvd_tmod ga]; rfl
    have eb : (b.tmod g != 0) = false := by rw [M.dvd_tmod gb]; rfl
    have D : (d == 0) = true ∨ ((d == 0) = false ∧ d ≠ 0 ∧ (d == -1) = true) ∨ ((d == 0) = false ∧ d ≠ 0 ∧ (d == -1) = false ∧ d ≠ -1 ∧ ((a.tmod d != 0) = true ∨ ((a.tmod d != 0) = false ∧ (b.tmod d != 0) = true) ∨
        ((a.tmod d != 0) = false ∧ (b.tmod d != 0) = false ∧ ((d == -9223372036854775808) = true ∨ ((d == -9223372036854775808) = false ∧ (g.tmod d == 0) = true ∧ (g % d == 0) = true))))) := by
      by_cases d0 : d = 0
      · left; simp [d0]
      · by_cases d1 : d = -1
        · right; left; exact ⟨by simp [d0], d0, by simp [d1]⟩
        · right; right
          refine ⟨by simp [d0], d0, by simp [d1], d1, ?_⟩
          by_cases e1 : a.tmod d = 0
          · right
            by_cases e2 : b.tmod d = 0
            · right
              refine ⟨by simp [e1], by simp [e2], ?_⟩
              by_cases d9 : d = -9223372036854775808
              · left; simp [d9]
              · right
                have hd := gd d (Int.dvd_of_tmod_eq_zero e1) (Int.dvd_of_tmod_eq_zero e2)
                exact ⟨by simp [d9], by simp [M.dvd_tmod hd], by simp [M.dvd_emod hd]⟩
            · left; exact ⟨by simp [e1], by simp [e2]⟩
          · left; simp [e1]
    have hA : (a != -9223372036854775808) = false ∨ ((a != -9223372036854775808) = true ∧ -9223372036854775807 ≤ a) := by
      by_cases h : a = -9223372036854775808
      · left; simp [h]
      · right; exact ⟨by simp [h], by omega⟩
    clear ga gb gd hg hz
    rcases hA with a9 | ⟨a9, a8⟩ <;> rcases D with d0 | ⟨d0, d0', d1⟩ | ⟨d0, d0', d1, d1', e1 | ⟨e1, e2⟩ | ⟨e1, e2, d9 | ⟨d9, e3, e4⟩⟩⟩
    all_goals
      go_enter Try.func3, Try.ntmps3
      go_wp2_with (go_at_call 13; refine (awake_any _).mono ?_; rintro e w1 ⟨rfl, hb1⟩)
      refine (Gcd_at _ h1 h2 h3 h4 G).mono ?_; rintro e w' ⟨rfl, n1, rfl⟩
      go_wp2_with fail
      refine (Gcd_at _ h3 h4 h1 h2 G2).mono ?_; rintro e w' ⟨rfl, n2, rfl⟩
      go_wp2_with (go_at_call 14; refine (Gcd_at _ (by omega) (by omega) h3 h4 G3).mono ?_; rintro e w' ⟨rfl, n3, rfl⟩)
      go_ret
      exact ⟨rfl, bdrewN hb1⟩

end Go.Proofs.Ytfmdgeeooohilaa
