/- Walks through the laws of chapter 2: the order of dates; days, dates, and texts are inverse. -/
import Derived.Test.YtgjbcdbhbbimcaaCivL4
namespace Go.Proofs.Ytgjbcdbhbbimcaa
set_option linter.unusedVariables false
set_option linter.unusedSimpArgs false
open Go.RowKit

theorem Day_ok {y m d : Int} (w : World) (h : M.vld y m d = true) : Calls Try.prog 29 #[.agg #[.int .i64 y, .int .i64 m, .int .i64 d]] w fun e w' => e = .returned (.tuple #[.int .i64 (M.cnt y m d), .int .i64 0]) ∧ Below w.heap.size w w' := by
  have := Day_any y m d w; rw [M.dy_t h, M.de_t h] at this; exact this
theorem Day_no {y m d : Int} (w : World) (h : M.vld y m d = false) : Calls Try.prog 29 #[.agg #[.int .i64 y, .int .i64 m, .int .i64 d]] w fun e w' => e = .returned (.tuple #[.int .i64 0, .int .i64 1]) ∧ Below w.heap.size w w' := by
  have := Day_any y m d w; rw [M.dy_f h, M.de_f h] at this; exact this
theorem Date_no {x : Int} (w : World) (h : M.ins x = false) : Calls Try.prog 31 #[.int .i64 x] w fun e w' =>
    e = .returned (.tuple #[.agg #[.int .i64 0, .int .i64 0, .int .i64 0], .int .i64 2]) ∧ Below w.heap.size w w' := by
  have := Date_any x w; rw [M.dtx_f h] at this; exact this
theorem Valid_yes {y m d : Int} (w : World) (h : M.vld y m d = true) : Calls Try.prog 15 #[.agg #[.int .i64 y, .int .i64 m, .int .i64 d]] w fun e w' => e = .returned (.bool true) ∧ Below w.heap.size w w' := h ▸ Valid_any y m d w
theorem Parse_text {y m d : Int} (w : World) (h : M.vld y m d = true) : Calls Try.prog 34 #[.string (strOfNums (M.dtext y m d))] w fun e w' =>
    e = .returned (.tuple #[.agg #[.int .i64 y, .int .i64 m, .int .i64 d], .int .i64 0]) ∧ Below w.heap.size w w' := by
  have := Parse_any (strOfNums (M.dtext y m d)) w (by rw [strOfNums_size, dtext_len h]; omega); rw [M.prs_text h] at this; exact this

set_option maxHeartbeats 1000000 in
theorem CivilBack_walk (y m d x : Int) (w : World) (_ : -9223372036854775808 ≤ y) (_ : y ≤ 9223372036854775807) (_ : -9223372036854775808 ≤ m) (_ : m ≤ 9223372036854775807) (_ : -9223372036854775808 ≤ d) (_ : d ≤ 9223372036854775807) (x1 : -9223372036854775808 ≤ x) (x2 : x ≤ 9223372036854775807) :
    Calls Try.prog 13 #[.agg #[.int .i64 y, .int .i64 m, .int .i64 d], .int .i64 x] w fun e w' => e = .returned (.bool true) ∧ Below w.heap.size w w' := by
  rcases hi : M.ins x with _ | _
  · have hx : ¬ (-719162 ≤ x ∧ x < 2932897) := by simpa [M.ins] using hi
    have hxx : x < -719162 ∨ 2932897 ≤ x := by omega
    clear hx
    rcases hv : M.vld y m d with _ | _
    · rcases hxx with hxx | hxx
      all_goals
        go_enter Try.func13, Try.ntmps13
        go_wp2_with (go_at_call 14; refine (awake_any _).mono ?_; rintro e w1 ⟨rfl, hb1⟩; obtain ⟨hc1, hf1⟩ := bcell hb1)
        refine (Day_no _ hv).mono ?_; rintro e w2 ⟨rfl, hb2⟩
        go_wp2_with fail
        refine (Date_no _ hi).mono ?_; rintro e w3 ⟨rfl, hb3⟩
        go_wp2
        go_ret
        have q1 := hb1.size; simp at q1; have q2 := hb2.size; have q3 := hb3.size
        exact ⟨rfl, (((((Below.refl _ _).alloc (Nat.le_refl _) _).trans (hb1.mono (by simp))).trans (hb2.mono (by omega))).trans (hb3.mono (by omega))).alloc (by omega) _⟩
    · have hin := M.cnt_inside hv
      have hd := M.dtx_t (M.ins_t hin) hv rfl
      obtain ⟨i1, i2⟩ := hin
      rcases hxx with hxx | hxx
      all_goals
        go_enter Try.func13, Try.ntmps13
        go_wp2_with (go_at_call 14; refine (awake_any _).mono ?_; rintro e w1 ⟨rfl, hb1⟩; obtain ⟨hc1, hf1⟩ := bcell hb1)
        refine (Day_ok _ hv).mono ?_; rintro e w2 ⟨rfl, hb2⟩; obtain ⟨hc2, hf2⟩ := bcell hb2
        have q1 : w.heap.size < w1.heap.size := by have := hb1.size; simp at this; omega
        have q2 : w.heap.size < w2.heap.size := by have := hb2.size; omega
        go_wp2_with fail
        refine (Date_at _ hd).mono ?_; rintro e w3 ⟨rfl, hb3⟩; obtain ⟨hc3, hf3⟩ := bcell hb3
        have q3 : w.heap.size < w3.heap.size := by have := hb3.size; omega
        have n3 : w.heap.size ≠ w3.heap.size := by omega
        go_wp2_with fail
        refine (cText_any _ _ _ _).mono ?_; rintro e w4 ⟨rfl, hb4⟩; obtain ⟨hc4, hf4⟩ := bcell hb4
        have q4 : w3.heap.size < w4.heap.size := by have := hb4.size; simp at this; omega
        go_wp2_with fail
        refine (Parse_text _ hv).mono ?_; rintro e w5 ⟨rfl, hb5⟩; obtain ⟨hc5, hf5⟩ := bcell hb5
        have q5 : w4.heap.size ≤ w5.heap.size := hb5.size
        have q5a : w3.heap.size < w5.heap.size := by omega
        have q5b : w.heap.size < w5.heap.size := by omega
        have q4b : w.heap.size < w4.heap.size := by omega
        have q4c : w.heap.size < w3.heap.size + 1 := by omega
        have n5 : w3.heap.size ≠ w5.heap.size := by omega
        have n5' : w.heap.size ≠ w5.heap.size := by omega
        go_wp2_with fail
        refine (Date_no _ hi).mono ?_; rintro e w6 ⟨rfl, hb6⟩
        have q6 : w5.heap.size < w6.heap.size := by have := hb6.size; simp at this; omega
        go_wp2
        go_ret
        have B1 : Below w.heap.size w w1 := ((Below.refl _ _).alloc (Nat.le_refl _) _).trans (hb1.mono (by simp))
        have B3 := (B1.trans (hb2.mono (by omega))).trans (hb3.mono (by omega))
        have B5 := ((B3.alloc (by omega) _).trans (hb4.mono (by simp; omega))).trans (hb5.mono (by omega))
        exact ⟨rfl, ((B5.alloc (by omega) _).trans (hb6.mono (by simp; omega))).alloc (by omega) _⟩
  · have hx : -719162 ≤ x ∧ x < 2932897 := by simpa [M.ins] using hi
    obtain ⟨y', m', d', hv', hx', hd'⟩ := M.date_ex hx
    have HX := Lib.hid hx'
    clear hx hx'
    rcases hv : M.vld y m d with _ | _
    · go_enter Try.func13, Try.ntmps13
      go_wp2_with (go_at_call 14; refine (awake_any _).mono ?_; rintro e w1 ⟨rfl, hb1⟩; obtain ⟨hc1, hf1⟩ := bcell hb1)
      refine (Day_no _ hv).mono ?_; rintro e w2 ⟨rfl, hb2⟩
      go_wp2_with fail
      refine (Date_at _ hd').mono ?_; rintro e w3 ⟨rfl, hb3⟩
      go_wp2_with fail
      refine (Day_ok _ hv').mono ?_; rw [HX.out]; rintro e w4 ⟨rfl, hb4⟩; obtain ⟨hc4, hf4⟩ := bcell hb4
      go_wp2_with fail
      refine (Valid_yes _ hv').mono ?_; rintro e w5 ⟨rfl, hb5⟩
      go_wp2
      go_ret
      have q1 := hb1.size; simp at q1; have q2 := hb2.size; have q3 := hb3.size; have q4 := hb4.size; simp at q4
      have B3 := ((((Below.refl _ _).alloc (Nat.le_refl _) _).trans (hb1.mono (by simp))).trans (hb2.mono (by omega))).trans (hb3.mono (by omega))
      exact ⟨rfl, ((B3.alloc (by omega) _).trans (hb4.mono (by simp; omega))).trans (hb5.mono (by omega))⟩
    · have hin := M.cnt_inside hv
      have hd := M.dtx_t (M.ins_t hin) hv rfl
      obtain ⟨i1, i2⟩ := hin
      skip
      go_enter Try.func13, Try.ntmps13
      go_wp2_with (go_at_call 14; refine (awake_any _).mono ?_; rintro e w1 ⟨rfl, hb1⟩; obtain ⟨hc1, hf1⟩ := bcell hb1)
      refine (Day_ok _ hv).mono ?_; rintro e w2 ⟨rfl, hb2⟩; obtain ⟨hc2, hf2⟩ := bcell hb2
      have q1 : w.heap.size < w1.heap.size := by have := hb1.size; simp at this; omega
      have q2 : w.heap.size < w2.heap.size := by have := hb2.size; omega
      go_wp2_with fail
      refine (Date_at _ hd).mono ?_; rintro e w3 ⟨rfl, hb3⟩; obtain ⟨hc3, hf3⟩ := bcell hb3
      have q3 : w.heap.size < w3.heap.size := by have := hb3.size; omega
      have n3 : w.heap.size ≠ w3.heap.size := by omega
      go_wp2_with fail
      refine (cText_any _ _ _ _).mono ?_; rintro e w4 ⟨rfl, hb4⟩; obtain ⟨hc4, hf4⟩ := bcell hb4
      have q4 : w3.heap.size < w4.heap.size := by have := hb4.size; simp at this; omega
      go_wp2_with fail
      refine (Parse_text _ hv).mono ?_; rintro e w5 ⟨rfl, hb5⟩; obtain ⟨hc5, hf5⟩ := bcell hb5
      have q5 : w4.heap.size ≤ w5.heap.size := hb5.size
      have q5a : w3.heap.size < w5.heap.size := by omega
      have q5b : w.heap.size < w5.heap.size := by omega
      have q4b : w.heap.size < w4.heap.size := by omega
      have q4c : w.heap.size < w3.heap.size + 1 := by omega
      have n5 : w3.heap.size ≠ w5.heap.size := by omega
      have n5' : w.heap.size ≠ w5.heap.size := by omega
      go_wp2_with fail
      refine (Date_at _ hd').mono ?_; rintro e w6 ⟨rfl, hb6⟩; obtain ⟨hc6, hf6⟩ := bcell hb6
      have q6 : w5.heap.size < w6.heap.size := by have := hb6.size; simp at this; omega
      go_wp2_with fail
      refine (Day_ok _ hv').mono ?_; rw [HX.out]; rintro e w7 ⟨rfl, hb7⟩; obtain ⟨hc7, hf7⟩ := bcell hb7
      go_wp2_with fail
      refine (Valid_yes _ hv').mono ?_; rintro e w8 ⟨rfl, hb8⟩
      go_wp2
      go_ret
      have q7 := hb7.size; simp at q7
      have B1 : Below w.heap.size w w1 := ((Below.refl _ _).alloc (Nat.le_refl _) _).trans (hb1.mono (by simp))
      have B3 := (B1.trans (hb2.mono (by omega))).trans (hb3.mono (by omega))
      have B5 := ((B3.alloc (by omega) _).trans (hb4.mono (by simp; omega))).trans (hb5.mono (by omega))
      have B6 := ((B5.alloc (by omega) _).trans (hb6.mono (by simp; omega)))
      exact ⟨rfl, ((B6.alloc (by omega) _).trans (hb7.mono (by simp; omega))).trans (hb8.mono (by omega))⟩

end Go.Proofs.Ytgjbcdbhbbimcaa
