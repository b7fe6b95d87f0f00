/- Walks through leap: atomic times, instants, distances. -/
import Derived.Test.YtplgladflhglaaaLeapV
namespace Go.Proofs.Ytplgladflhglaaa.Lp
set_option linter.unusedVariables false
set_option linter.unusedSimpArgs false
open Go.RowKit

/-- The atomic time of an instant, and the error. -/
noncomputable def M.atm (n : Nat) (A T : Nat → Int) (x : Int) : Int × Int := if M.okb n A T = false then (0, 1) else if x < -62135596800 ∨ 253402300800 ≤ x then (0, 2) else (x + M.tot A x n, 0)
theorem M.atm_1 {n : Nat} {A T : Nat → Int} {x : Int} (h : M.okb n A T = false) : M.atm n A T x = (0, 1) := by simp only [M.atm, if_pos h]
theorem M.atm_2 {n : Nat} {A T : Nat → Int} {x : Int} (h : M.okb n A T = true) (h2 : x < -62135596800 ∨ 253402300800 ≤ x) : M.atm n A T x = (0, 2) := by simp only [M.atm, h]; rw [if_neg (by simp), if_pos h2]
theorem M.atm_0 {n : Nat} {A T : Nat → Int} {x : Int} (h : M.okb n A T = true) (h2 : -62135596800 ≤ x) (h3 : x < 253402300800) : M.atm n A T x = (x + M.tot A x n, 0) := by simp only [M.atm, h]; rw [if_neg (by simp), if_neg (by omega)]
theorem ret_atm {n : Nat} {A T : Nat → Int} {x a c : Int} (h : M.atm n A T x = (a, c)) : Ending.returned (.tuple #[.int .i64 a, .int .i64 c]) = .returned (.tuple #[.int .i64 (M.atm n A T x).1, .int .i64 (M.atm n A T x).2]) := by rw [h]
theorem inst_t {x : Int} (h1 : -62135596800 ≤ x) (h2 : x < 253402300800) : decide (-62135596800 ≤ x ∧ x < 253402300800) = true := by simp; omega
theorem inst_f {x : Int} (h : x < -62135596800 ∨ 253402300800 ≤ x) : decide (-62135596800 ≤ x ∧ x < 253402300800) = false := by simp; omega
theorem instant_at {x : Int} {v : Bool} (w : World) (h : Hid (decide (-62135596800 ≤ x ∧ x < 253402300800) = v)) :
    Calls Try.prog 30 #[.int .i64 x] w fun e w' => e = .returned (.bool v) ∧ w = w' := h.out ▸ instant_any x w
theorem Valid_at {sl : Option Addr} {n b o cap : Nat} {A T : Nat → Int} {v : Bool} (w : World) (h : Hid (Tab w sl n b o A T)) (hv : Hid (M.okb n A T = v)) :
    Calls Try.prog 19 #[.agg #[.slice sl n cap]] w fun e w' => e = .returned (.bool v) ∧ Below w.heap.size w w' := hv.out ▸ Valid_any w h

theorem Atomic_any {sl : Option Addr} {n b o cap : Nat} {A T : Nat → Int} (x : Int) (w : World) (h : Hid (Tab w sl n b o A T)) (h1 : -9223372036854775808 ≤ x) (h2 : x ≤ 9223372036854775807) :
    Calls Try.prog 13 #[.agg #[.slice sl n cap], .int .i64 x] w fun e w' => e = .returned (.tuple #[.int .i64 (M.atm n A T x).1, .int .i64 (M.atm n A T x).2]) ∧ Below w.heap.size w w' := by
  rcases hv : M.okb n A T with _ | _
  · have R := Lib.hid (M.atm_1 (x := x) hv)
    have V := Lib.hid hv
    clear hv
    go_enter Try.func13, Try.ntmps13
    go_wp2_with (go_at_call 19; refine (Valid_at _ (Lib.hid (h.out.alloc _)) V).mono ?_; rintro e w2 ⟨rfl, hb⟩)
    go_ret2
    exact ⟨ret_atm R.out, ((Below.refl _ _).alloc (Nat.le_refl _) _).trans (hb.mono (by simp))⟩
  · have V := Lib.hid hv
    have hok := Lib.hid (M.ok_of_b hv)
    by_cases hr : x < -62135596800 ∨ 253402300800 ≤ x
    · have R := Lib.hid (M.atm_2 hv hr)
      have I := Lib.hid (inst_f hr)
      clear hv hr
      go_enter Try.func13, Try.ntmps13
      go_wp2_with (first
        | (go_at_call 19; refine (Valid_at _ (Lib.hid (h.out.alloc _)) V).mono ?_; rintro e w2 ⟨rfl, hb⟩)
        | (go_at_call 30; refine (instant_at _ I).mono ?_; rintro e w' ⟨rfl, rfl⟩))
      go_ret2
      exact ⟨ret_atm R.out, ((Below.refl _ _).alloc (Nat.le_refl _) _).trans (hb.mono (by simp))⟩
    · have r1 : -62135596800 ≤ x := by omega
      have r2 : x < 253402300800 := by omega
      have R := Lib.hid (M.atm_0 hv r1 r2)
      have I := Lib.hid (inst_t r1 r2)
      have hn := hok.out.n100
      obtain ⟨t1, t2⟩ := M.tot_bd A x n
      clear hv hr
      go_enter Try.func13, Try.ntmps13
      go_wp2_with (first
        | (go_at_call 19; refine (Valid_at _ (Lib.hid (h.out.alloc _)) V).mono ?_; rintro e w2 ⟨rfl, hb⟩; have hc0 : w2.cell? ⟨w.heap.size, 0, none⟩ = some (.slice sl n cap) := ((bcell hb).1 w.heap.size 0 (by simp)).trans (by simp [go_sem]))
        | (go_at_call 30; refine (instant_at _ I).mono ?_; rintro e w' ⟨rfl, rfl⟩)
        | (go_at_call 31; refine (total_any x _ (Lib.hid ((h.out.alloc _).below hb)) hok h1 h2).mono ?_; rintro e w3 ⟨rfl, hb3⟩))
      go_ret2
      exact ⟨ret_atm R.out, (((Below.refl _ _).alloc (Nat.le_refl _) _).trans (hb.mono (by simp))).trans (hb3.mono (by have := hb.size; simp at this; omega))⟩

end Go.Proofs.Ytplgladflhglaaa.Lp
