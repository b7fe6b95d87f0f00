/- Walk of the law of quotients. -/
import Derived.Test.YtfmdgeeooohilaaIntW5
namespace Go.Proofs.Ytfmdgeeooohilaa
set_option linter.unusedVariables false
set_option linter.unusedSimpArgs false
open Go.RowKit

theorem wrap_wrap (x y : Int) : wrap64 (wrap64 x + y) = wrap64 (x + y) := by unfold wrap64; omega
theorem wrap_id {x : Int} (h1 : -9223372036854775808 ≤ x) (h2 : x ≤ 9223372036854775807) : wrap64 x = x := by unfold wrap64; omega

set_option maxRecDepth 400000 in
set_option maxHeartbeats 2000000 in
theorem IntegerDivides_walk (a b : Int) (w : World) (h1 : -9223372036854775808 ≤ a) (h2 : a ≤ 9223372036854775807) (h3 : -9223372036854775808 ≤ b) (h4 : b ≤ 9223372036854775807) :
    Calls Try.prog 8 #[.int .i64 a, .int .i64 b] w fun e w' => e = .returned (.bool true) ∧ Below w.heap.size w w' := by
  by_cases hb : b = 0
  · subst hb
    have HA := Lib.hid (M.dv_zero a)
    go_enter Try.func8, Try.ntmps8
    go_wp2_with (first
      | (go_at_call 13; refine (awake_any _).mono ?_; rintro e w1 ⟨rfl, hb1⟩)
      | (go_at_call 22; refine (Div_at _ h1 h2 (by omega) (by omega) HA).mono ?_; rintro e w' ⟨rfl, n1, rfl⟩)
      | (go_at_call 23; refine (Floor_at _ h1 h2 (by omega) (by omega) HA).mono ?_; rintro e w' ⟨rfl, n2, rfl⟩)
      | (go_at_call 19; refine (ModD_at _ h1 h2 (by omega) (by omega) HA).mono ?_; rintro e w' ⟨rfl, n3, rfl⟩))
    go_ret
    exact ⟨rfl, bdrewN hb1⟩
  · by_cases hx : a = -9223372036854775808 ∧ b = -1
    · obtain ⟨rfl, rfl⟩ := hx
      have HA := Lib.hid M.dv_big
      go_enter Try.func8, Try.ntmps8
      go_wp2_with (first
        | (go_at_call 13; refine (awake_any _).mono ?_; rintro e w1 ⟨rfl, hb1⟩)
        | (go_at_call 22; refine (Div_at _ h1 h2 (by omega) (by omega) HA).mono ?_; rintro e w' ⟨rfl, n1, rfl⟩)
        | (go_at_call 23; refine (Floor_at _ h1 h2 (by omega) (by omega) HA).mono ?_; rintro e w' ⟨rfl, n2, rfl⟩)
        | (go_at_call 19; refine (ModD_at _ h1 h2 (by omega) (by omega) HA).mono ?_; rintro e w' ⟨rfl, n3, rfl⟩))
      go_ret
      exact ⟨rfl, bdrewN hb1⟩
    · have HA := Lib.hid (M.dv_ok hb hx)
      have B := M.dq_bd h1 h2 hb hx
      have L := M.dv_law (a := a) hb
      have T := tdiv_bd h1 h2 hb hx
      have D := M.dq_cases (a := a) hb
      obtain ⟨q, hq⟩ : ∃ q, M.dq a b = q := ⟨_, rfl⟩
      obtain ⟨r, hr⟩ : ∃ r, M.dr a b = r := ⟨_, rfl⟩
      rw [hq, hr] at HA L
      rw [hq] at B D
      obtain ⟨q1, q2⟩ := B
      obtain ⟨l1, l2⟩ := L
      obtain ⟨p, hp⟩ : ∃ p, wrap64 (q * b) = p := ⟨_, rfl⟩
      have p1 : -9223372036854775808 ≤ p := by rw [← hp]; unfold wrap64; omega
      have p2 : p ≤ 9223372036854775807 := by rw [← hp]; unfold wrap64; omega
      have hpa : wrap64 (p + r) = a := by rw [← hp, wrap_wrap, l1, wrap_id h1 h2]
      obtain ⟨t, ht⟩ : ∃ t, a.tdiv b = t := ⟨_, rfl⟩
      rw [ht] at T D
      obtain ⟨t1, t2⟩ := T
      have cx : (a == -9223372036854775808) = false ∨ ((a == -9223372036854775808) = true ∧ (b == -1) = false) := by
        by_cases h : a = -9223372036854775808
        · right; exact ⟨by simp [h], by simp; omega⟩
        · left; simp [h]
      have D' : ((a.tmod b != 0) = false ∧ (0 ≤ a → (a % b != 0) = false) ∧ t = q) ∨ ((a.tmod b != 0) = true ∧ (0 ≤ a → (a % b != 0) = true) ∧ ((a < 0 ∧ 0 < b) ∨ (0 ≤ a ∧ b < 0)) ∧ q = t - 1) ∨
          ((a.tmod b != 0) = true ∧ (0 ≤ a → (a % b != 0) = true) ∧ ((a < 0 ∧ b < 0) ∨ (0 ≤ a ∧ 0 < b)) ∧ t = q) := by
        have hm : 0 ≤ a → a % b = a.tmod b := fun h => (Int.tmod_eq_emod_of_nonneg h).symm
        rcases D with ⟨d1, d2⟩ | ⟨d1, d2, d3⟩ | ⟨d1, d2, d3⟩
        · left; exact ⟨by simp [d1], fun h => by rw [hm h]; simp [d1], d2⟩
        · right; left; exact ⟨by simp [d1], fun h => by rw [hm h]; simp [d1], d2, by omega⟩
        · right; right; exact ⟨by simp [d1], fun h => by rw [hm h]; simp [d1], d2, d3⟩
      have kb : (b == 0) = false := by simp [hb]
      have r1 : -9223372036854775808 ≤ r := by omega
      have r2 : r ≤ 9223372036854775807 := by omega
      have hfin : (wrap64 (p + r) == a) = true := by rw [hpa]; simp
      clear D hx hq hr l1 hpa
      rcases D' with ⟨k1, k2, rfl⟩ | ⟨k1, k2, k3, rfl⟩ | ⟨k1, k2, k3, rfl⟩ <;> rcases Int.lt_or_le a 0 with ka | ka <;> rcases cx with cx | ⟨cx, cx'⟩ <;> rcases l2 with ⟨l3, l4, l5⟩ | ⟨l3, l4, l5⟩
      all_goals first | (exfalso; omega) | skip
      all_goals
        first | (have k4 := k2 ka; clear k2) | clear k2
        try clear k3
        first | (have kd : decide (b < 0) = false := by simp; omega) | (have kd : decide (b < 0) = true := by simp; omega)
        first | (have ke : decide (a < 0) = false := by simp; omega) | (have ke : decide (a < 0) = true := by simp; omega)
        go_enter Try.func8, Try.ntmps8
        go_wp2_with (first
          | (go_at_call 13; refine (awake_any _).mono ?_; rintro e w1 ⟨rfl, hb1⟩)
          | (go_at_call 22; refine (Div_at _ h1 h2 h3 h4 HA).mono ?_; rintro e w' ⟨rfl, n1, rfl⟩)
          | (go_at_call 23; refine (Floor_at _ h1 h2 h3 h4 HA).mono ?_; rintro e w' ⟨rfl, n2, rfl⟩)
          | (go_at_call 19; refine (ModD_at _ h1 h2 h3 h4 HA).mono ?_; rintro e w' ⟨rfl, n3, rfl⟩))
        go_ret
        exact ⟨rfl, bdrewN hb1⟩

end Go.Proofs.Ytfmdgeeooohilaa
