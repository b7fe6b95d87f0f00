/- Walk of the reference's day of a Gregorian date. -/
import Derived.Test.YtplgladflhglaaaJulW
namespace Go.Proofs.Ytplgladflhglaaa
set_option linter.unusedVariables false
set_option linter.unusedSimpArgs false
open Go.RowKit

theorem M.lp_leap {y : Int} (h : 1 ≤ y ∧ y ≤ 9999) : M.lp y = M.leap y := by
  rw [Bool.eq_iff_iff, M.leap_iff h]; simp [M.lp]
/-- The sum that the reference has made before month k. -/
def M.gsum (y k : Int) : Int := M.cnt y k 1 + (if 2 < k then M.ext y else 0)
theorem M.ext_bd (y : Int) : 0 ≤ M.ext y ∧ M.ext y ≤ 1 := by unfold M.ext; split <;> omega
theorem M.gsum_bd {y k : Int} (h : 1 ≤ y ∧ y ≤ 9999) (hk : 1 ≤ k ∧ k ≤ 12) : -719162 ≤ M.gsum y k ∧ M.gsum y k ≤ 2933264 := by
  have := M.cnt_bd (d := 1) (show 1 ≤ y ∧ y ≤ 10000 by omega) hk
  have := M.ext_bd y
  unfold M.gsum; split <;> omega
theorem M.gsum_succ {y k : Int} (h : 1 ≤ y ∧ y ≤ 9999) (hk : 1 ≤ k ∧ k ≤ 11) : M.gsum y (k + 1) = M.gsum y k + M.jl y k := by
  unfold M.gsum
  rw [M.cnt_succ h hk, M.jl_len h (by omega)]
  by_cases h2 : k = 2
  · subst h2; simp; omega
  · rw [if_neg h2]
    by_cases h3 : 2 < k
    · rw [if_pos h3, if_pos (by omega)]; omega
    · rw [if_neg h3, if_neg (by omega)]; omega
theorem M.jl_bd (y m : Int) : 0 ≤ M.jl y m ∧ M.jl y m ≤ 31 := by unfold M.jl; repeat' split <;> try omega

theorem ret_greg {y m d a : Int} {v : Bool} (h : M.dy y m d = a) (hv : M.vld y m d = v) : Ending.returned (.tuple #[.int .i64 a, .bool v]) = .returned (.tuple #[.int .i64 (M.dy y m d), .bool (M.vld y m d)]) := by rw [h, hv]

/-- A date that is none. -/
theorem Greg_no (y m d : Int) (w : World) (h1 : 0 ≤ y) (h2 : y ≤ 9999) (h3 : 0 ≤ m) (h4 : m ≤ 99) (h5 : 0 ≤ d) (h6 : d ≤ 99) (hv : M.vld y m d = false) :
    Calls Try.prog 55 #[.agg #[.int .i64 y, .int .i64 m, .int .i64 d]] w fun e w' => e = .returned (.tuple #[.int .i64 (M.dy y m d), .bool (M.vld y m d)]) ∧ Below w.heap.size w w' := by
  have R := Lib.hid (And.intro (M.dy_f hv) hv)
  have hd : ¬ (1 ≤ d ∧ d ≤ M.len y m) := fun h => by rw [M.vld_t h] at hv; cases hv
  obtain ⟨j1, j2⟩ := M.jl_bd y m
  have KEY : ((m == 2) = false ∧ M.jl y m = M.len y m) ∨ ((m == 2) = true ∧ M.lp y = true ∧ M.jl y m = M.len y m) ∨ ((m == 2) = true ∧ M.lp y = false ∧ 0 < M.jl y m ∧ M.len y m = 28) ∨ ((m == 2) = true ∧ M.lp y = false ∧ M.jl y m = 0 ∧ M.len y m = 0) := by
    by_cases hr : 1 ≤ y ∧ y ≤ 9999 ∧ 1 ≤ m ∧ m ≤ 12
    · have hy : 1 ≤ y ∧ y ≤ 9999 := ⟨hr.1, hr.2.1⟩
      have hj := M.jl_len hy ⟨hr.2.2.1, hr.2.2.2⟩
      by_cases m2 : m = 2
      · subst m2
        right
        rw [M.lp_leap hy]
        rw [if_pos rfl] at hj
        cases hl : M.leap y
        · right; left; exact ⟨rfl, rfl, by rw [hj, M.len_28 hy hl]; have := M.ext_bd y; omega, M.len_28 hy hl⟩
        · left; exact ⟨rfl, rfl, by rw [hj]; unfold M.ext; rw [hl]; simp⟩
      · left; rw [if_neg m2] at hj; exact ⟨by simp [m2], by omega⟩
    · have e1 := M.jl_0 hr
      have e2 := M.len_0 hr
      by_cases m2 : m = 2
      · right
        cases hl : M.lp y
        · right; right; exact ⟨by simp [m2], rfl, e1, e2⟩
        · left; exact ⟨by simp [m2], rfl, by omega⟩
      · left; exact ⟨by simp [m2], by omega⟩
  obtain ⟨J, hJ⟩ : ∃ J, M.jl y m = J := ⟨_, rfl⟩
  obtain ⟨L, hL⟩ : ∃ L, M.len y m = L := ⟨_, rfl⟩
  obtain ⟨v, hlp⟩ : ∃ v, M.lp y = v := ⟨_, rfl⟩
  rw [hJ] at KEY j1 j2
  rw [hL] at KEY hd
  rw [hlp] at KEY
  have HLen : Hid (∀ w, Calls Try.prog 66 #[.int .i64 y, .int .i64 m] w fun e w' => e = .returned (.int .i64 J) ∧ w = w') := Lib.hid fun w => hJ ▸ jLength_any y m w h1 h2 h3 h4
  have HLp : Hid (∀ w, Calls Try.prog 67 #[.int .i64 y] w fun e w' => e = .returned (.bool v) ∧ w = w') := Lib.hid fun w => hlp ▸ jleap_any y w h1 h2
  have hd' : d < 1 ∨ (1 ≤ d ∧ L < d) := by omega
  clear hv hd hJ hL hlp
  rcases KEY with ⟨m2, rfl⟩ | ⟨m2, rfl, rfl⟩ | ⟨m2, rfl, k1, rfl⟩ | ⟨m2, rfl, rfl, rfl⟩ <;> rcases hd' with hd | ⟨hd, hd'⟩
  all_goals
    go_enter Try.func55, Try.ntmps55
    go_wp2_with (first
      | (go_at_call 66; refine (HLen.out _).mono ?_; rintro e w' ⟨rfl, rfl⟩)
      | (go_at_call 67; refine (HLp.out _).mono ?_; rintro e w' ⟨rfl, rfl⟩))
    go_ret2
    exact ⟨ret_greg R.out.1 R.out.2, (Below.refl _ _).alloc (Nat.le_refl _) _⟩

set_option maxHeartbeats 1000000 in
/-- A date. -/
theorem Greg_yes (y m d : Int) (w : World) (hv : M.vld y m d = true) :
    Calls Try.prog 55 #[.agg #[.int .i64 y, .int .i64 m, .int .i64 d]] w fun e w' => e = .returned (.tuple #[.int .i64 (M.dy y m d), .bool (M.vld y m d)]) ∧ Below w.heap.size w w' := by
  obtain ⟨y1, y2, m1, m2, d1, d2⟩ := M.vld_bd hv
  have hy : 1 ≤ y ∧ y ≤ 9999 := ⟨y1, y2⟩
  have hd := M.vld_iff.1 hv
  have hj := M.jl_len hy ⟨m1, m2⟩
  have hlp := M.lp_leap hy
  have R : Hid (M.dy y m d = M.cnt y m 1 + d - 1 ∧ M.vld y m d = true) := Lib.hid ⟨by rw [M.dy_t hv, M.cnt_d y m d, M.cnt_d y m 1]; omega, hv⟩
  obtain ⟨j1, j2⟩ := M.jl_bd y m
  obtain ⟨v, hvl⟩ : ∃ v, M.leap y = v := ⟨_, rfl⟩
  rw [hvl] at hlp
  -- what the length is behind the first test
  have KEY : ((m == 2) = false ∧ d ≤ M.jl y m) ∨ ((m == 2) = true ∧ v = true ∧ d ≤ M.jl y m) ∨ ((m == 2) = true ∧ v = false ∧ 0 < M.jl y m ∧ d ≤ 28) := by
    by_cases e : m = 2
    · subst e
      right
      rw [if_pos rfl] at hj
      cases v
      · right; rw [M.len_28 hy hvl] at hd hj; exact ⟨rfl, rfl, by have := M.ext_bd y; omega, by omega⟩
      · left; exact ⟨rfl, rfl, by have := M.ext_bd y; omega⟩
    · left; rw [if_neg e] at hj; exact ⟨by simp [e], by omega⟩
  -- the correction behind the loop
  have COR : (m ≤ 2 ∧ M.gsum y m = M.cnt y m 1) ∨ (2 < m ∧ (y % 4 == 0) = false ∧ M.gsum y m = M.cnt y m 1) ∨ (2 < m ∧ (y % 4 == 0) = true ∧ v = true ∧ M.gsum y m = M.cnt y m 1) ∨ (2 < m ∧ (y % 4 == 0) = true ∧ v = false ∧ M.gsum y m = M.cnt y m 1 + 1) := by
    by_cases h2 : 2 < m
    · right
      by_cases h4 : y % 4 = 0
      · right
        cases v
        · right; exact ⟨h2, by simp [h4], rfl, by unfold M.gsum M.ext; rw [if_pos h2, if_pos ⟨h4, hvl⟩]⟩
        · left; exact ⟨h2, by simp [h4], rfl, by unfold M.gsum M.ext; rw [if_pos h2, if_neg (by rw [hvl]; simp)]; omega⟩
      · left; exact ⟨h2, by simp [h4], by unfold M.gsum M.ext; rw [if_pos h2, if_neg (fun h => h4 h.1)]; omega⟩
    · left; exact ⟨by omega, by unfold M.gsum; rw [if_neg h2]; omega⟩
  have gb := M.gsum_bd hy ⟨m1, m2⟩
  obtain ⟨J, hJ⟩ : ∃ J, M.jl y m = J := ⟨_, rfl⟩
  obtain ⟨G, hG⟩ : ∃ G, M.gsum y m = G := ⟨_, rfl⟩
  obtain ⟨C, hC⟩ : ∃ C, M.cnt y m 1 = C := ⟨_, rfl⟩
  rw [hJ] at KEY j1 j2
  rw [hG, hC] at COR
  rw [hG] at gb
  rw [hC] at R
  have HLen : Hid (∀ w, Calls Try.prog 66 #[.int .i64 y, .int .i64 m] w fun e w' => e = .returned (.int .i64 J) ∧ w = w') := Lib.hid fun w => hJ ▸ jLength_any y m w (by omega) (by omega) (by omega) (by omega)
  have HLp : Hid (∀ w, Calls Try.prog 67 #[.int .i64 y] w fun e w' => e = .returned (.bool v) ∧ w = w') := Lib.hid fun w => hlp ▸ jleap_any y w (by omega) (by omega)
  have HGS := Lib.hid hG
  have HY := Lib.hid hy
  have ST : Hid (M.gsum y 1 = -719162 + 365 * (y - 1) + (y - 1) / 4 - (y - 1) / 100 + (y - 1) / 400) := Lib.hid (by unfold M.gsum; rw [M.cnt_11, if_neg (by omega)]; omega)
  obtain ⟨g1, g2⟩ := gb
  clear hv hd hj hlp hvl hJ hG hC hy
  rcases KEY with ⟨e2, k1⟩ | ⟨e2, rfl, k1⟩ | ⟨e2, rfl, k1, k2⟩
  all_goals
    go_enter Try.func55, Try.ntmps55
    go_wp2_with (first
      | (go_at_call 66; refine (HLen.out _).mono ?_; rintro e w' ⟨rfl, rfl⟩)
      | (go_at_call 67; refine (HLp.out _).mono ?_; rintro e w' ⟨rfl, rfl⟩))
    go_loop [6, 7] (fun s k => ∃ K : Int, 1 ≤ K ∧ K ≤ m ∧ k = .int .i64 K ∧ s = .int .i64 (M.gsum y K)) (fun _ k => (m - intOf k).toNat)
    case atStart => exact ⟨1, by omega, m1, rfl, by rw [ST.out]⟩
    case round =>
      obtain ⟨K, K1, K2, rfl, rfl⟩ := hrel
      obtain ⟨gb1, gb2⟩ := M.gsum_bd HY.out (k := K) ⟨K1, by omega⟩
      by_cases hlt : K < m
      · have nx : Hid (M.gsum y (K + 1) = M.gsum y K + M.jl y K) := Lib.hid (M.gsum_succ HY.out ⟨K1, by omega⟩)
        obtain ⟨jb1, jb2⟩ := M.jl_bd y K
        go_wp2_with (go_at_call 66; refine (jLength_any y K _ (by omega) (by omega) (by omega) (by omega)).mono ?_; rintro e w' ⟨rfl, rfl⟩)
        go_round
        case rel => exact ⟨K + 1, by omega, by omega, rfl, by rw [nx.out]⟩
        case measure => simp [intOf]; omega
      · obtain rfl : K = m := by omega
        rw [HGS.out] at *
        rcases COR with ⟨c1, rfl⟩ | ⟨c1, c2, rfl⟩ | ⟨c1, c2, c3, rfl⟩ | ⟨c1, c2, c3, rfl⟩
        all_goals try (cases c3)
        all_goals
          go_wp2_with (first
            | (go_at_call 68; refine (jLeap_any y _ y1 y2).mono ?_; rintro e w' ⟨rfl, rfl⟩)
            | (go_at_call 67; refine (HLp.out _).mono ?_; rintro e w' ⟨rfl, rfl⟩))
          go_ret2
          exact ⟨ret_greg (R.out.1.trans (by omega)) R.out.2, (Below.refl _ _).alloc (Nat.le_refl _) _⟩

end Go.Proofs.Ytplgladflhglaaa
