/- Walks through package civil: months. -/
import Derived.Test.YtainibnjpkbfpaaCivW
namespace Go.Proofs.Ytainibnjpkbfpaa
set_option linter.unusedVariables false
set_option linter.unusedSimpArgs false
open Go.RowKit

theorem ret_am {y m d n a b c e : Int} (h : M.am y m d n = ((a, b, c), e)) : Ending.returned (.tuple #[.agg #[.int .i64 a, .int .i64 b, .int .i64 c], .int .i64 e]) =
    .returned (.tuple #[.agg #[.int .i64 (M.am y m d n).1.1, .int .i64 (M.am y m d n).1.2.1, .int .i64 (M.am y m d n).1.2.2], .int .i64 (M.am y m d n).2]) := by rw [h]

theorem AddMonths_any (y m d n : Int) (w : World) (h1 : -9223372036854775808 ≤ n) (h2 : n ≤ 9223372036854775807) :
    Calls Try.prog 36 #[.agg #[.int .i64 y, .int .i64 m, .int .i64 d], .int .i64 n] w fun e w' =>
      e = .returned (.tuple #[.agg #[.int .i64 (M.am y m d n).1.1, .int .i64 (M.am y m d n).1.2.1, .int .i64 (M.am y m d n).1.2.2], .int .i64 (M.am y m d n).2]) ∧ Below w.heap.size w w' := by
  rcases hv : M.vld y m d with _ | _
  · have R := Lib.hid (M.am_1 (n := n) hv)
    go_enter Try.func36, Try.ntmps36
    go_wp2_with (go_at_call 68; refine (Valid_any _ _ _ _).mono ?_; rintro e w1 ⟨rfl, hb⟩; obtain ⟨hc, hf⟩ := bcell hb)
    have B0 : Below w.heap.size w w1 := (((Below.refl _ _).alloc (Nat.le_refl _) _).alloc (by simp) _).trans (hb.mono (by simp; omega))
    have hz := hb.size; simp at hz
    exact bodyPost_ret (v := .tuple #[.agg #[.int .i64 0, .int .i64 0, .int .i64 0], .int .i64 1]) (by simp [results, Try.results36, go_sem, hc]) rfl ⟨ret_am R.out, by iterate 3 refine Below.setCell ?_ (by simp) _
                                                                                                                                                                        exact B0⟩
  · obtain ⟨b1, b2, b3, b4, b5, b6⟩ := M.vld_bd hv
    by_cases hk : 12 ≤ 12 * y + m - 1 + n ∧ 12 * y + m - 1 + n < 120000
    · have R0 := M.am_0 hv hk
      obtain ⟨k1, k2⟩ := hk
      have hy := M.yr_t (y := (12 * y + m - 1 + n) / 12) (by omega)
      by_cases hm : M.len ((12 * y + m - 1 + n) / 12) ((12 * y + m - 1 + n) % 12 + 1) < d
      rotate_left 1
      have R := Lib.hid (R0.trans (by rw [M.mn_f hm])); rotate_left 1
      have R := Lib.hid (R0.trans (by rw [M.mn_t hm]))
      all_goals
        clear R0
        go_enter Try.func36, Try.ntmps36
        go_wp2_with (first
          | (go_at_call 68; refine (Valid_any _ _ _ _).mono ?_; rintro e w1 ⟨rfl, hb⟩; obtain ⟨hc, hf⟩ := bcell hb)
          | (go_at_call 69; refine (Add_ok _ _ _ (by omega) (by omega) h1 h2 (by omega) (by omega)).mono ?_; rintro e w' ⟨rfl, rfl⟩)
          | (go_at_call 51; refine (Floor_pos _ _ _ (by omega) (by omega) (by omega) (by omega)).mono ?_; rintro e w' ⟨rfl, n1, rfl⟩)
          | (go_at_call 70; refine (Mod_pos _ _ _ (by omega) (by omega) (by omega) (by omega)).mono ?_; rintro e w' ⟨rfl, n2, rfl⟩)
          | (go_at_call 66; refine (year_any _ _).mono ?_; rintro e w' ⟨rfl, rfl⟩))
        have hz := hb.size; simp at hz
        have B0 : Below w.heap.size w w1 := (((Below.refl _ _).alloc (Nat.le_refl _) _).alloc (by simp) _).trans (hb.mono (by simp; omega))
        have hz0 : w.heap.size < w1.heap.size := by omega
        have hz1 : w.heap.size + 1 < w1.heap.size := by omega
        have hS := Abv.cellsN (n := n1 + n2) w1
        refine wp_region_abv_tail 9 (by kernel_rfl) (by kernel_rfl) ?_
        simp only [List.take_succ_cons, List.take_zero, List.drop_succ_cons, List.drop_zero]
        repeat (go_big_quiet_step ((go_at_call 35; exact abv_same (Length_any _ _ _))))
        refine wpQuiet_nil ?_
        rintro w2 hb2
        obtain ⟨hc2, hf2⟩ := bcellN hb2
        have hz2 := hb2.size; simp at hz2
        go_wp2
        exact bodyPost_ret (v := .tuple #[.agg #[.int .i64 ((12 * y + m - 1 + n) / 12), .int .i64 ((12 * y + m - 1 + n) % 12 + 1), .int .i64 _], .int .i64 0]) (by simp [results, Try.results36, go_sem, hc, hc2, hz1]) rfl ⟨ret_am R.out, ((B0.trans ((bundrewN hb2).mono (by omega))).setCell (by simp) _ |>.setCell (by simp) _).setCell (by simp) _⟩
    · have R := Lib.hid (M.am_2 hv hk)
      by_cases hbig : 12 * y + m - 1 + n ≤ 9223372036854775807
      · have hy := M.yr_f (y := (12 * y + m - 1 + n) / 12) (by omega)
        clear hk
        go_enter Try.func36, Try.ntmps36
        go_wp2_with (first
          | (go_at_call 68; refine (Valid_any _ _ _ _).mono ?_; rintro e w1 ⟨rfl, hb⟩; obtain ⟨hc, hf⟩ := bcell hb)
          | (go_at_call 69; refine (Add_ok _ _ _ (by omega) (by omega) h1 h2 (by omega) (by omega)).mono ?_; rintro e w' ⟨rfl, rfl⟩)
          | (go_at_call 51; refine (Floor_pos _ _ _ (by omega) (by omega) (by omega) (by omega)).mono ?_; rintro e w' ⟨rfl, n1, rfl⟩)
          | (go_at_call 66; refine (year_any _ _).mono ?_; rintro e w' ⟨rfl, rfl⟩))
        have B0 : Below w.heap.size w w1 := (((Below.refl _ _).alloc (Nat.le_refl _) _).alloc (by simp) _).trans (hb.mono (by simp; omega))
        have hz := hb.size; simp at hz
        exact bodyPost_ret (v := .tuple #[.agg #[.int .i64 0, .int .i64 0, .int .i64 0], .int .i64 2]) (by simp [results, Try.results36, go_sem, hc]) rfl ⟨ret_am R.out, by first | (iterate 3 refine Below.setCell ?_ (by simp) _); exact bdrewN B0 | exact bdrewN (((B0.setCell (by simp) _).setCell (by simp) _).setCell (by simp) _)⟩
      · have hy := M.yr_f (y := 0) (by omega)
        have hbg : 9223372036854775807 < 12 * y + m - 1 + n := by omega
        clear hk
        go_enter Try.func36, Try.ntmps36
        go_wp2_with (first
          | (go_at_call 68; refine (Valid_any _ _ _ _).mono ?_; rintro e w1 ⟨rfl, hb⟩; obtain ⟨hc, hf⟩ := bcell hb)
          | (go_at_call 69; refine (Add_big _ _ _ (by omega) (by omega) h1 h2 (by omega)).mono ?_; rintro e w' ⟨rfl, rfl⟩)
          | (go_at_call 51; refine (Floor_pos _ _ _ (by omega) (by omega) (by omega) (by omega)).mono ?_; rintro e w' ⟨rfl, n1, rfl⟩)
          | (go_at_call 66; refine (year_any _ _).mono ?_; rintro e w' ⟨rfl, rfl⟩))
        have B0 : Below w.heap.size w w1 := (((Below.refl _ _).alloc (Nat.le_refl _) _).alloc (by simp) _).trans (hb.mono (by simp; omega))
        have hz := hb.size; simp at hz
        exact bodyPost_ret (v := .tuple #[.agg #[.int .i64 0, .int .i64 0, .int .i64 0], .int .i64 2]) (by simp [results, Try.results36, go_sem, hc]) rfl ⟨ret_am R.out, by first | (iterate 3 refine Below.setCell ?_ (by simp) _); exact bdrewN B0 | exact bdrewN (((B0.setCell (by simp) _).setCell (by simp) _).setCell (by simp) _)⟩

end Go.Proofs.Ytainibnjpkbfpaa
