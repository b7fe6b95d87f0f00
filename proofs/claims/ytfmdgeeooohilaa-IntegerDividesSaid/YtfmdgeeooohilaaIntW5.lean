/- Walks of the laws of integer: steps. -/
import Derived.Test.YtfmdgeeooohilaaIntR
import Derived.Test.YtfmdgeeooohilaaIntL
namespace Go.Proofs.Ytfmdgeeooohilaa
set_option linter.unusedVariables false
set_option linter.unusedSimpArgs false
open Go.RowKit

theorem Div_at {a b q r e : Int} (w : World) (h1 : -9223372036854775808 ≤ a) (h2 : a ≤ 9223372036854775807) (h3 : -9223372036854775808 ≤ b) (h4 : b ≤ 9223372036854775807)
    (h : Hid (M.dv a b = ((q, r), e))) :
    Calls Try.prog 22 #[.int .i64 a, .int .i64 b] w fun x w' => x = .returned (.tuple #[.int .i64 q, .int .i64 r, .int .i64 e]) ∧ ∃ n, w' = w.drewN n :=
  (Div_any a b w h1 h2 h3 h4).mono fun _ _ ⟨he, hw⟩ => ⟨he.trans (ret_dv h.out).symm, hw⟩
theorem Floor_at {a b q r e : Int} (w : World) (h1 : -9223372036854775808 ≤ a) (h2 : a ≤ 9223372036854775807) (h3 : -9223372036854775808 ≤ b) (h4 : b ≤ 9223372036854775807)
    (h : Hid (M.dv a b = ((q, r), e))) :
    Calls Try.prog 23 #[.int .i64 a, .int .i64 b] w fun x w' => x = .returned (.int .i64 q) ∧ ∃ n, w' = w.drewN n :=
  (Floor_any a b w h1 h2 h3 h4).mono fun _ _ ⟨he, hw⟩ => ⟨he.trans (by rw [h.out]), hw⟩
theorem ModD_at {a b q r e : Int} (w : World) (h1 : -9223372036854775808 ≤ a) (h2 : a ≤ 9223372036854775807) (h3 : -9223372036854775808 ≤ b) (h4 : b ≤ 9223372036854775807)
    (h : Hid (M.dv a b = ((q, r), e))) :
    Calls Try.prog 19 #[.int .i64 a, .int .i64 b] w fun x w' => x = .returned (.int .i64 r) ∧ ∃ n, w' = w.drewN n :=
  (Mod_any a b w h1 h2 h3 h4).mono fun _ _ ⟨he, hw⟩ => ⟨he.trans (by rw [h.out]), hw⟩

set_option maxHeartbeats 1000000 in
theorem IntegerSteps_walk (a b : Int) (w : World) (h1 : -9223372036854775808 ≤ a) (h2 : a ≤ 9223372036854775807) (h3 : -9223372036854775808 ≤ b) (h4 : b ≤ 9223372036854775807) :
    Calls Try.prog 10 #[.int .i64 a, .int .i64 b] w fun e w' => e = .returned (.bool true) ∧ Below w.heap.size w w' := by
  obtain ⟨⟨⟨q, r⟩, f⟩, HA⟩ : ∃ x, Hid (M.dv a b = x) := ⟨_, Lib.hid rfl⟩
  by_cases hf : -9223372036854775808 ≤ a + b ∧ a + b ≤ 9223372036854775807
  · obtain ⟨f1, f2⟩ := hf
    obtain ⟨⟨⟨s, t⟩, g⟩, HB⟩ : ∃ x, Hid (M.dv (a + b) b = x) := ⟨_, Lib.hid rfl⟩
    have K : (f != 0) = true ∨ ((f != 0) = false ∧ (g != 0) = true) ∨ ((f != 0) = false ∧ (g != 0) = false ∧ s = q + 1 ∧ t = r ∧ -9223372036854775808 ≤ q + 1 ∧ q + 1 ≤ 9223372036854775807) := by
      have HA := HA.out
      have HB := HB.out
      by_cases hb : b = 0
      · subst hb; rw [M.dv_zero] at HA; injection HA with _ e; subst e; left; rfl
      · by_cases hx : a = -9223372036854775808 ∧ b = -1
        · obtain ⟨rfl, rfl⟩ := hx; rw [M.dv_big] at HA; injection HA with _ e; subst e; left; rfl
        · rw [M.dv_ok hb hx] at HA
          injection HA with e1 e2; injection e1 with e3 e4; subst e2 e3 e4
          right
          by_cases hy : a + b = -9223372036854775808 ∧ b = -1
          · rw [hy.1, hy.2, M.dv_big] at HB; injection HB with _ e; subst e; left; exact ⟨rfl, rfl⟩
          · rw [M.dv_ok hb hy] at HB
            injection HB with e1 e2; injection e1 with e3 e4; subst e2 e3 e4
            have B := M.dq_bd f1 f2 hb hy
            rw [(M.dv_step hb).1] at B
            right; exact ⟨rfl, rfl, (M.dv_step hb).1, (M.dv_step hb).2, B.1, B.2⟩
    obtain ⟨c, hc⟩ : ∃ c, a + b = c := ⟨_, rfl⟩
    rw [hc] at f1 f2 HB
    have HAdd : Hid (∀ w, Calls Try.prog 24 #[.int .i64 a, .int .i64 b] w fun e w' => e = .returned (.tuple #[.int .i64 c, .int .i64 0]) ∧ w = w') := Lib.hid fun w => hc ▸ Add_ok a b w h1 h2 h3 h4 (by omega) (by omega)
    have HC := Lib.hid hc
    clear hc
    rcases K with k | ⟨k, k'⟩ | ⟨k, k', rfl, rfl, q1, q2⟩
    all_goals
      go_enter Try.func10, Try.ntmps10
      go_wp2_with (first
        | (go_at_call 13; refine (awake_any _).mono ?_; rintro e w1 ⟨rfl, hb1⟩)
        | (go_at_call 24; refine (HAdd.out _).mono ?_; rintro e w' ⟨rfl, rfl⟩)
        | (go_at_call_of 22 (Value.int IntKind.i64 a); refine (Div_at _ h1 h2 h3 h4 HA).mono ?_; rintro e w' ⟨rfl, n1, rfl⟩)
        | (go_at_call 22; refine (Div_at _ f1 f2 h3 h4 HB).mono ?_; rintro e w' ⟨rfl, n2, rfl⟩))
      go_ret
      exact ⟨rfl, bdrewN hb1⟩
  · have hf' : a + b < -9223372036854775808 ∨ 9223372036854775807 < a + b := by omega
    have HF := Lib.hid hf'
    clear hf hf'
    obtain ⟨⟨⟨s, t⟩, g⟩, HB⟩ : ∃ x, Hid (M.dv 0 b = x) := ⟨_, Lib.hid rfl⟩
    go_enter Try.func10, Try.ntmps10
    go_wp2_with (first
      | (go_at_call 13; refine (awake_any _).mono ?_; rintro e w1 ⟨rfl, hb1⟩)
      | (go_at_call 24; refine (Add_big _ _ _ h1 h2 h3 h4 HF.out).mono ?_; rintro e w' ⟨rfl, rfl⟩)
      | (go_at_call_of 22 (Value.int IntKind.i64 a); refine (Div_at _ h1 h2 h3 h4 HA).mono ?_; rintro e w' ⟨rfl, n1, rfl⟩)
      | (go_at_call 22; refine (Div_at _ (by omega) (by omega) h3 h4 HB).mono ?_; rintro e w' ⟨rfl, n2, rfl⟩))
    go_ret
    exact ⟨rfl, bdrewN hb1⟩

end Go.Proofs.Ytfmdgeeooohilaa
