/- Walks of the reference's fields of a day. -/
import Derived.Test.YtplgladflhglaaaJulW2
import Derived.Test.YtplgladflhglaaaCivM2
namespace Go.Proofs.Ytplgladflhglaaa
set_option linter.unusedVariables false
set_option linter.unusedSimpArgs false
open Go.RowKit

theorem M.gsum_12 {y : Int} (h : 1 ≤ y ∧ y ≤ 9999) : M.gsum y 12 = M.gsum y 1 + 334 + (if y % 4 = 0 then 1 else 0) := by
  have hl := M.leap_iff h
  have e1 : M.gsum y 12 = M.cnt y 12 1 + M.ext y := by unfold M.gsum; rw [if_pos (by omega)]
  have e2 : M.gsum y 1 = M.cnt y 1 1 := by unfold M.gsum; rw [if_neg (by omega)]; omega
  rw [e1, e2, M.cnt_11, M.cnt_hi (by omega)]
  cases hb : M.leap y
  · rw [hb] at hl
    have hl' : ¬ (y % 4 = 0 ∧ (y % 100 ≠ 0 ∨ y % 400 = 0)) := fun h => by have := hl.2 h; cases this
    by_cases h4 : y % 4 = 0
    · have e3 : M.ext y = 1 := by unfold M.ext; rw [if_pos ⟨h4, hb⟩]
      rw [if_pos h4, e3]; omega
    · have e3 : M.ext y = 0 := by unfold M.ext; rw [if_neg (fun h => h4 h.1)]
      rw [if_neg h4, e3]; omega
  · have hl' := hl.1 hb
    have e3 : M.ext y = 0 := by unfold M.ext; rw [hb, if_neg (by simp)]
    rw [if_pos hl'.1, e3]; omega
theorem M.jl_12 {y : Int} (h : 1 ≤ y ∧ y ≤ 9999) : M.jl y 12 = 31 := by rw [M.jl_of h (by omega) (by omega) (by omega)]; rfl
theorem M.vld_11 {y : Int} (h : 1 ≤ y ∧ y ≤ 9999) {m : Int} (hm : 1 ≤ m ∧ m ≤ 12) : M.vld y m 1 = true := M.vld_t ⟨by omega, by have := M.len_lo h hm; omega⟩

theorem jRight_any (x : Int) (w : World) (h1 : -719162 ≤ x) (h2 : x < 2932897) :
    Calls Try.prog 76 #[.int .i64 x] w fun e w' => e = .returned (.bool true) ∧ w = w' := by
  go_enter Try.func76, Try.ntmps76
  go_wp2; go_ret
  exact ⟨rfl, rfl⟩

set_option maxHeartbeats 2000000 in
/-- The Julian date is near. -/
theorem jDate_any (x : Int) (w : World) (h1 : -719162 ≤ x) (h2 : x < 2932897) :
    Calls Try.prog 71 #[.int .i64 x] w fun e w' => (∃ Y m d : Int, e = .returned (.tuple #[.agg #[.int .i64 Y, .int .i64 m, .int .i64 d], .int .i64 0]) ∧ 1 ≤ Y ∧ Y ≤ 9999 ∧ x + 719164 < 365 * Y + Y / 4) ∧ Below w.heap.size w w' := by
  obtain ⟨n, hn⟩ : ∃ n, x + 719164 = n := ⟨_, rfl⟩
  have hn1 : 2 ≤ n := by omega
  have hn2 : n < 3652061 := by omega
  have hx : x = n - 719164 := by omega
  subst hx
  clear hn
  go_enter Try.func71, Try.ntmps71
  go_wp2_with (go_at_call 76; refine (jRight_any _ _ h1 h2).mono ?_; rintro e w' ⟨rfl, rfl⟩)
  go_loop [4, 5, 6] (fun t y k => ∃ K : Int, 0 ≤ K ∧ K ≤ 3 ∧ k = .int .i64 K ∧ y = .int .i64 (4 * (n / 1461) + 1 + K) ∧ t = .int .i64 (n % 1461 - 365 * K) ∧ 365 * K ≤ n % 1461) (fun _ _ k => (3 - intOf k).toNat)
  case atStart => exact ⟨0, by omega, by omega, by go_num, by go_num, by go_num, by omega⟩
  case round =>
    obtain ⟨K, K0, K3, rfl, rfl, rfl, hK⟩ := hrel
    by_cases hc : K < 3 ∧ 365 ≤ n % 1461 - 365 * K
    · obtain ⟨c1, c2⟩ := hc
      go_wp2
      go_round
      case rel => exact ⟨K + 1, by omega, by omega, by go_num, by go_num, by go_num, by omega⟩
      case measure => simp [intOf]; omega
    · obtain ⟨R, hR⟩ : ∃ R, n % 1461 - 365 * K = R := ⟨_, rfl⟩
      obtain ⟨Y, hY⟩ : ∃ Y, 4 * (n / 1461) + 1 + K = Y := ⟨_, rfl⟩
      have y1 : 1 ≤ Y := by omega
      have y2 : Y ≤ 9999 := by omega
      have hlt : R < 365 + (if Y % 4 = 0 then 1 else 0) := by split <;> omega
      have hfin : n < 365 * Y + Y / 4 := by omega
      have r0 : 0 ≤ R := by omega
      have r1 : R ≤ 366 := by split at hlt <;> omega
      rw [hR] at hc ⊢
      rw [hY]
      have G12 := M.gsum_12 ⟨y1, y2⟩
      have hG : Hid (R < M.gsum Y 12 - M.gsum Y 1 + 31) := Lib.hid (by rw [G12]; omega)
      have HY := Lib.hid (And.intro y1 y2)
      clear hK hR hY G12 hlt
      have hc' : K = 3 ∨ K < 3 ∧ R < 365 := by omega
      clear hc
      rcases hc' with rfl | ⟨c1, c2⟩
      all_goals
        go_wp2
        go_loop [4, 7] (fun t m => ∃ M' : Int, 1 ≤ M' ∧ M' ≤ 12 ∧ m = .int .i64 M' ∧ t = .int .i64 (R - (M.gsum Y M' - M.gsum Y 1)) ∧ M.gsum Y M' - M.gsum Y 1 ≤ R ∧ 0 ≤ M.gsum Y M' - M.gsum Y 1) (fun _ m => (13 - intOf m).toNat)
        case atStart => exact ⟨1, by omega, by omega, by go_num, by rw [Int.sub_self, Int.sub_zero], by omega, by omega⟩
        case round =>
          obtain ⟨m, m1, m2, rfl, rfl, hm, hm0⟩ := hrel
          obtain ⟨S, hS⟩ : ∃ S, M.gsum Y m - M.gsum Y 1 = S := ⟨_, rfl⟩
          rw [hS] at hm hm0 ⊢
          obtain ⟨j1, j2⟩ := M.jl_bd Y m
          by_cases hc : M.jl Y m ≤ R - S
          · have m11 : m ≤ 11 := by
              rcases Int.lt_or_le m 12 with h | h
              · omega
              · exfalso
                obtain rfl : m = 12 := by omega
                rw [M.jl_12 HY.out] at hc
                have := hG.out; omega
            have nx : Hid (M.gsum Y (m + 1) - M.gsum Y 1 = S + M.jl Y m) := Lib.hid (by rw [M.gsum_succ HY.out ⟨m1, m11⟩]; omega)
            obtain ⟨J, hJ⟩ : ∃ J, M.jl Y m = J := ⟨_, rfl⟩
            have HL : Hid (∀ w, Calls Try.prog 66 #[.int .i64 Y, .int .i64 m] w fun e w' => e = .returned (.int .i64 J) ∧ w = w') := Lib.hid fun w => hJ ▸ jLength_any Y m w (by omega) (by omega) (by omega) (by omega)
            rw [hJ] at nx hc j1 j2
            clear hJ hS
            go_wp2_with (go_at_call 66; refine (HL.out _).mono ?_; rintro e w' ⟨rfl, rfl⟩)
            go_round
            case rel => exact ⟨m + 1, by omega, by omega, rfl, by rw [nx.out]; go_num, by rw [nx.out]; omega, by rw [nx.out]; omega⟩
            case measure => simp [intOf]; omega
          · obtain ⟨J, hJ⟩ : ∃ J, M.jl Y m = J := ⟨_, rfl⟩
            have HL : Hid (∀ w, Calls Try.prog 66 #[.int .i64 Y, .int .i64 m] w fun e w' => e = .returned (.int .i64 J) ∧ w = w') := Lib.hid fun w => hJ ▸ jLength_any Y m w (by omega) (by omega) (by omega) (by omega)
            rw [hJ] at hc j1 j2
            clear hJ hS
            go_wp2_with (go_at_call 66; refine (HL.out _).mono ?_; rintro e w' ⟨rfl, rfl⟩)
            exact bodyPost_ret (v := .tuple #[.agg #[.int .i64 Y, .int .i64 m, .int .i64 (R - S + 1)], .int .i64 0]) (by simp [results, Try.results71, go_sem]) rfl ⟨⟨Y, m, _, rfl, y1, y2, by omega⟩, (Below.refl _ _).alloc (Nat.le_refl _) _⟩

theorem first_any (y : Int) (w : World) (h1 : 1 ≤ y) (h2 : y ≤ 9999) :
    Calls Try.prog 72 #[.int .i64 y] w fun e w' => e = .returned (.int .i64 (M.cnt y 1 1)) ∧ Below w.heap.size w w' := by
  have hv := M.vld_11 ⟨h1, h2⟩ (m := 1) (by omega)
  have HG : Hid (∀ w, Calls Try.prog 55 #[.agg #[.int .i64 y, .int .i64 1, .int .i64 1]] w fun e w' => e = .returned (.tuple #[.int .i64 (M.cnt y 1 1), .bool true]) ∧ Below w.heap.size w w') := Lib.hid fun w => by
    have := Greg_yes y 1 1 w hv; rw [M.dy_t hv, hv] at this; exact this
  clear hv
  go_enter Try.func72, Try.ntmps72
  go_wp2_with (go_at_call 55; refine (HG.out _).mono ?_; rintro e w' ⟨rfl, hb⟩)
  go_ret
  exact ⟨rfl, hb⟩

end Go.Proofs.Ytplgladflhglaaa
