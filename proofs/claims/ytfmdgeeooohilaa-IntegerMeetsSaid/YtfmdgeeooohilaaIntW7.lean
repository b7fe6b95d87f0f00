/- Walks of the laws of integer: divisors and multiples. -/
import Derived.Test.YtfmdgeeooohilaaIntR
import Derived.Test.YtfmdgeeooohilaaIntL2
namespace Go.Proofs.Ytfmdgeeooohilaa
set_option linter.unusedVariables false
set_option linter.unusedSimpArgs false
open Go.RowKit

theorem Gcd_at {a b g : Int} (w : World) (h1 : -9223372036854775808 ≤ a) (h2 : a ≤ 9223372036854775807) (h3 : -9223372036854775808 ≤ b) (h4 : b ≤ 9223372036854775807)
    (h : Hid (M.gc a b = g)) :
    Calls Try.prog 14 #[.int .i64 a, .int .i64 b] w fun x w' => x = .returned (.int .i64 g) ∧ ∃ n, w' = w.drewN n :=
  (Gcd_any a b w h1 h2 h3 h4).mono fun _ _ ⟨he, hw⟩ => ⟨he.trans (by rw [h.out]), hw⟩
theorem Lcm_at {a b l e : Int} (w : World) (h1 : -9223372036854775808 ≤ a) (h2 : a ≤ 9223372036854775807) (h3 : -9223372036854775808 ≤ b) (h4 : b ≤ 9223372036854775807)
    (h : Hid (M.lc a b = (l, e))) :
    Calls Try.prog 15 #[.int .i64 a, .int .i64 b] w fun x w' => x = .returned (.tuple #[.int .i64 l, .int .i64 e]) ∧ ∃ n, w' = w.drewN n :=
  (Lcm_any a b w h1 h2 h3 h4).mono fun _ _ ⟨he, hw⟩ => ⟨he.trans (by rw [h.out]), hw⟩
theorem Mul_at {a b l e : Int} (w : World) (h1 : -9223372036854775808 ≤ a) (h2 : a ≤ 9223372036854775807) (h3 : -9223372036854775808 ≤ b) (h4 : b ≤ 9223372036854775807)
    (h : Hid (M.ml a b = (l, e))) :
    Calls Try.prog 16 #[.int .i64 a, .int .i64 b] w fun x w' => x = .returned (.tuple #[.int .i64 l, .int .i64 e]) ∧ w = w' :=
  (Mul_any a b w h1 h2 h3 h4).mono fun _ _ ⟨he, hw⟩ => ⟨he.trans (by rw [h.out]), hw⟩

set_option maxHeartbeats 2000000 in
theorem IntegerMultiples_walk (a b : Int) (w : World) (h1 : -9223372036854775808 ≤ a) (h2 : a ≤ 9223372036854775807) (h3 : -9223372036854775808 ≤ b) (h4 : b ≤ 9223372036854775807) :
    Calls Try.prog 4 #[.int .i64 a, .int .i64 b] w fun e w' => e = .returned (.bool true) ∧ Below w.heap.size w w' := by
  by_cases hab : a < 1 ∨ b < 1
  · have L := Lib.hid (M.lc_2 hab)
    have hab' : a < 1 ∨ (1 ≤ a ∧ b < 1) := by omega
    clear hab
    rcases hab' with ha | ⟨ha, hb⟩
    all_goals
      go_enter Try.func4, Try.ntmps4
      go_wp2_with (first
        | (go_at_call 13; refine (awake_any _).mono ?_; rintro e w1 ⟨rfl, hb1⟩)
        | (go_at_call 15; refine (Lcm_at _ h1 h2 h3 h4 L).mono ?_; rintro e w' ⟨rfl, n1, rfl⟩))
      go_ret
      exact ⟨rfl, bdrewN hb1⟩
  · have ha : 1 ≤ a := by omega
    have hb : 1 ≤ b := by omega
    clear hab
    obtain ⟨g1, g2, g3, hc⟩ := M.lc_cases ha h2 hb h4
    obtain ⟨g, hg⟩ : ∃ g, M.gc a b = g := ⟨_, rfl⟩
    rw [hg] at g1 g2 g3 hc
    have G := Lib.hid hg
    clear hg
    have q1 : 0 ≤ a / g := Int.ediv_nonneg (by omega) (by omega)
    have q2 : a / g ≤ a := Int.ediv_le_self _ (by omega)
    have q3 : 0 ≤ b / g := Int.ediv_nonneg (by omega) (by omega)
    have q4 : b / g ≤ b := Int.ediv_le_self _ (by omega)
    rcases hc with ⟨l, hl, l1, l2, l3, l4, l5⟩ | ⟨hl, hm⟩
    · have L := Lib.hid hl
      have e3 : (l % a == 0) = true := by simp [l3]
      have e4 : (l % b == 0) = true := by simp [l4]
      have e5 : (l / a == b / g) = true := by simp [l5]
      clear hl l3 l4 l5
      go_enter Try.func4, Try.ntmps4
      go_wp2_with (first
        | (go_at_call 13; refine (awake_any _).mono ?_; rintro e w1 ⟨rfl, hb1⟩)
        | (go_at_call 15; refine (Lcm_at _ h1 h2 h3 h4 L).mono ?_; rintro e w' ⟨rfl, n1, rfl⟩)
        | (go_at_call 14; refine (Gcd_at _ h1 h2 h3 h4 G).mono ?_; rintro e w' ⟨rfl, n2, rfl⟩))
      go_quiet (fail)
      go_wp2
      go_ret
      exact ⟨rfl, bdrewN (bdrewN hb1)⟩
    · have L := Lib.hid hl
      have MM := Lib.hid hm
      clear hl hm
      go_enter Try.func4, Try.ntmps4
      go_wp2_with (first
        | (go_at_call 13; refine (awake_any _).mono ?_; rintro e w1 ⟨rfl, hb1⟩)
        | (go_at_call 15; refine (Lcm_at _ h1 h2 h3 h4 L).mono ?_; rintro e w' ⟨rfl, n1, rfl⟩)
        | (go_at_call 14; refine (Gcd_at _ h1 h2 h3 h4 G).mono ?_; rintro e w' ⟨rfl, n2, rfl⟩)
        | (go_at_call 16; refine (Mul_at _ (by omega) (by omega) h3 h4 MM).mono ?_; rintro e w' ⟨rfl, rfl⟩))
      go_ret
      exact ⟨rfl, bdrewN hb1⟩

end Go.Proofs.Ytfmdgeeooohilaa
