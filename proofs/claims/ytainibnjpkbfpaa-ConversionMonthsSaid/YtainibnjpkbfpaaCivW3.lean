/- Walks through package civil and its reference: days and dates. -/
import Derived.Test.YtainibnjpkbfpaaCivW
namespace Go.Proofs.Ytainibnjpkbfpaa
set_option linter.unusedVariables false
set_option linter.unusedSimpArgs false
open Go.RowKit

theorem Day_any (y m d : Int) (w : World) : Calls Try.prog 37 #[.agg #[.int .i64 y, .int .i64 m, .int .i64 d]] w fun e w' => e = .returned (.tuple #[.int .i64 (M.dy y m d), .int .i64 (M.de y m d)]) ∧ Below w.heap.size w w' := by
  rcases hv : M.vld y m d with _ | _
  · have R := Lib.hid (And.intro (M.dy_f hv) (M.de_f hv))
    go_enter Try.func37, Try.ntmps37
    go_wp2_with (go_at_call 68; refine (Valid_any _ _ _ _).mono ?_; rintro e w1 ⟨rfl, hb⟩)
    go_ret2
    exact ⟨ret_int2 R.out.1.symm R.out.2.symm, ((Below.refl _ _).alloc (Nat.le_refl _) _).trans (hb.mono (by simp))⟩
  · have R := Lib.hid (And.intro (M.dy_t hv) (M.de_t hv))
    obtain ⟨b1, b2, b3, b4, b5, b6⟩ := M.vld_bd hv
    go_enter Try.func37, Try.ntmps37
    go_wp2_with (first
      | (go_at_call 68; refine (Valid_any _ _ _ _).mono ?_; rintro e w1 ⟨rfl, hb⟩; obtain ⟨hc, hf⟩ := bcell hb)
      | (go_at_call 65; refine (count_any _ _ _ _ (by omega) (by omega) (by omega) (by omega) (by omega) (by omega)).mono ?_; rintro e w' ⟨rfl, rfl⟩))
    go_ret2
    exact ⟨ret_int2 R.out.1.symm R.out.2.symm, ((Below.refl _ _).alloc (Nat.le_refl _) _).trans (hb.mono (by simp))⟩

theorem ret_dtx {x a b c e : Int} (h : M.dtx x = ((a, b, c), e)) : Ending.returned (.tuple #[.agg #[.int .i64 a, .int .i64 b, .int .i64 c], .int .i64 e]) =
    .returned (.tuple #[.agg #[.int .i64 (M.dtx x).1.1, .int .i64 (M.dtx x).1.2.1, .int .i64 (M.dtx x).1.2.2], .int .i64 (M.dtx x).2]) := by rw [h]

theorem Date_any (x : Int) (w : World) : Calls Try.prog 34 #[.int .i64 x] w fun e w' =>
    e = .returned (.tuple #[.agg #[.int .i64 (M.dtx x).1.1, .int .i64 (M.dtx x).1.2.1, .int .i64 (M.dtx x).1.2.2], .int .i64 (M.dtx x).2]) ∧ Below w.heap.size w w' := by
  rcases hi : M.ins x with _ | _
  · have R := Lib.hid (M.dtx_f hi)
    go_enter Try.func34, Try.ntmps34
    go_wp2_with (go_at_call 64; refine (inside_any _ _).mono ?_; rintro e w' ⟨rfl, rfl⟩)
    exact bodyPost_ret (v := .tuple #[.agg #[.int .i64 0, .int .i64 0, .int .i64 0], .int .i64 2]) (by simp [results, Try.results34, go_sem]) rfl ⟨ret_dtx R.out, (Below.refl _ _).alloc (Nat.le_refl _) _⟩
  · have hx : -719162 ≤ x ∧ x < 2932897 := by simpa [M.ins] using hi
    obtain ⟨g1, g2, g3⟩ := M.cnt_guess hx
    obtain ⟨x1, x2⟩ := hx
    have e0 := Lib.hid (M.cnt_11 10000)
    go_enter Try.func34, Try.ntmps34
    go_wp2_with (go_at_call 64; refine (inside_any _ _).mono ?_; rintro e w' ⟨rfl, rfl⟩)
    go_loop [4] (fun t => ∃ y : Int, 1 ≤ y ∧ y ≤ 9999 ∧ M.cnt y 1 1 ≤ x ∧ t = .int .i64 y) (fun t => (9999 - intOf t).toNat)
    case atStart => exact ⟨_, g1, g2, g3, rfl⟩
    case round =>
      clear g1 g2 g3
      obtain ⟨y, y1, y2, y3, rfl⟩ := hrel
      by_cases hc : y < 9999 ∧ M.cnt (y + 1) 1 1 ≤ x
      · obtain ⟨hlt, hd⟩ := hc
        go_wp2_with (go_at_call 65; refine (count_any _ _ _ _ (by omega) (by omega) (by omega) (by omega) (by omega) (by omega)).mono ?_; rintro e w' ⟨rfl, rfl⟩)
        go_round
        case rel => exact ⟨y + 1, by omega, by omega, hd, rfl⟩
        case measure => simp [intOf]; omega
      · have hz : x < M.cnt (y + 1) 1 1 := by
          by_cases e : y = 9999
          · subst e; show x < M.cnt 10000 1 1; rw [e0.out]; omega
          · omega
        clear hc
        by_cases hlt : y < 9999
        all_goals
          go_wp2_with (go_at_call 65; refine (count_any _ _ _ _ (by omega) (by omega) (by omega) (by omega) (by omega) (by omega)).mono ?_; rintro e w' ⟨rfl, rfl⟩)
          go_loop [5] (fun k => ∃ m : Int, 1 ≤ m ∧ m ≤ 12 ∧ M.cnt y m 1 ≤ x ∧ k = .int .i64 m) (fun k => (12 - intOf k).toNat)
          case atStart => exact ⟨1, by omega, by omega, y3, rfl⟩
          case round =>
            obtain ⟨m, m1, m2, m3, rfl⟩ := hrel
            by_cases hc : m < 12 ∧ M.cnt y (m + 1) 1 ≤ x
            · obtain ⟨hm, hd⟩ := hc
              go_wp2_with (go_at_call 65; refine (count_any _ _ _ _ (by omega) (by omega) (by omega) (by omega) (by omega) (by omega)).mono ?_; rintro e w' ⟨rfl, rfl⟩)
              go_round
              case rel => exact ⟨m + 1, by omega, by omega, hd, by go_num⟩
              case measure => simp [intOf]; omega
            · have R := Lib.hid (M.dtx_of hi ⟨y1, y2⟩ ⟨m1, m2⟩ m3 (fun h => by omega) hz)
              have cb := M.cnt_bd (y := y) (m := m) (d := 1) (by omega) (by omega)
              by_cases hm : m < 12
              · have hz2 : x < M.cnt y (m + 1) 1 := by omega
                clear hc
                go_wp2_with (go_at_call 65; refine (count_any _ _ _ _ (by omega) (by omega) (by omega) (by omega) (by omega) (by omega)).mono ?_; rintro e w' ⟨rfl, rfl⟩)
                exact bodyPost_ret (v := .tuple #[.agg #[.int .i64 y, .int .i64 m, .int .i64 (x - M.cnt y m 1 + 1)], .int .i64 0]) (by simp [results, Try.results34, go_sem]) rfl ⟨ret_dtx R.out, (Below.refl _ _).alloc (Nat.le_refl _) _⟩
              · clear hc
                go_wp2_with (go_at_call 65; refine (count_any _ _ _ _ (by omega) (by omega) (by omega) (by omega) (by omega) (by omega)).mono ?_; rintro e w' ⟨rfl, rfl⟩)
                exact bodyPost_ret (v := .tuple #[.agg #[.int .i64 y, .int .i64 m, .int .i64 (x - M.cnt y m 1 + 1)], .int .i64 0]) (by simp [results, Try.results34, go_sem]) rfl ⟨ret_dtx R.out, (Below.refl _ _).alloc (Nat.le_refl _) _⟩

end Go.Proofs.Ytainibnjpkbfpaa
