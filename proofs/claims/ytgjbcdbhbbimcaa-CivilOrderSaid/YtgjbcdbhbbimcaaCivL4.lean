/- Walks through the laws of chapter 2 on texts. -/
import Derived.Test.YtgjbcdbhbbimcaaCivAw
import Derived.Test.YtgjbcdbhbbimcaaCivL3
import Derived.Test.YtgjbcdbhbbimcaaCivT
import Derived.Test.YtgjbcdbhbbimcaaCivP2
import Derived.Test.YtgjbcdbhbbimcaaTextM3
namespace Go.Proofs.Ytgjbcdbhbbimcaa
set_option linter.unusedVariables false
set_option linter.unusedSimpArgs false
open Go.RowKit

theorem CivilTexts_walk (y m d : Int) (s : ByteArray) (w : World) (_ : -9223372036854775808 ≤ y) (_ : y ≤ 9223372036854775807) (_ : -9223372036854775808 ≤ m) (_ : m ≤ 9223372036854775807) (_ : -9223372036854775808 ≤ d) (_ : d ≤ 9223372036854775807) (hs : s.size ≤ 9223372036854775807) :
    Calls Try.prog 12 #[.agg #[.int .i64 y, .int .i64 m, .int .i64 d], .string s] w fun e w' => e = .returned (.bool true) ∧ Below w.heap.size w w' := by
  by_cases h1000 : 1000 < s.size
  · have k : (1000 : Int) < s.size := by omega
    go_enter Try.func12, Try.ntmps12
    go_wp2_with (go_at_call 14; refine (awake_any _).mono ?_; rintro e w1 ⟨rfl, hb1⟩)
    go_ret
    exact ⟨rfl, ((Below.refl _ _).alloc (Nat.le_refl _) _).trans (hb1.mono (by simp))⟩
  · have k : (s.size : Int) ≤ 1000 := by omega
    go_enter Try.func12, Try.ntmps12
    go_wp2_with (go_at_call 14; refine (awake_any _).mono ?_; rintro e w1 ⟨rfl, hb1⟩; obtain ⟨hc1, hf1⟩ := bcell hb1)
    refine (Parse_any _ _ hs).mono ?_; rintro e w2 ⟨rfl, hb2⟩; obtain ⟨hc2, hf2⟩ := bcell hb2
    go_wp2_with fail
    refine (rParse_any _ _ hs).mono ?_; rintro e w3 ⟨rfl, hb3⟩; obtain ⟨hc3, hf3⟩ := bcell hb3
    go_wp2_with fail
    have q1 : w.heap.size < w1.heap.size := by have := hb1.size; simp at this; omega
    have q2 : w.heap.size < w2.heap.size := by have := hb2.size; omega
    have q3 : w2.heap.size < w3.heap.size := by have := hb3.size; simp at this; omega
    have q3' : w.heap.size < w3.heap.size := by omega
    have q4 : w2.heap.size < w3.heap.size + 1 := by omega
    have q4' : w.heap.size < w3.heap.size + 1 := by omega
    have n1 : w2.heap.size ≠ w3.heap.size := by omega
    have n2 : w.heap.size ≠ w3.heap.size := by omega
    have n3 : w.heap.size ≠ w2.heap.size := by omega
    have hS : ∀ (s' : Abv (w3.alloc (Obj.cells #[.int .i64 (M.prs s).1.1, .int .i64 (M.prs s).1.2.1, .int .i64 (M.prs s).1.2.2] 23))) (b o : Nat), b < w3.heap.size + 1 → s'.w.cell? ⟨b, o, none⟩ = (w3.alloc (Obj.cells #[.int .i64 (M.prs s).1.1, .int .i64 (M.prs s).1.2.1, .int .i64 (M.prs s).1.2.2] 23)).cell? ⟨b, o, none⟩ := fun s b o h => Abv.cells _ s b o (by simpa using h)
    refine wp_region_abv (by kernel_rfl) (by kernel_rfl) ?_
    repeat (go_big_quiet_step ((first
      | (go_at_call 33; exact abv_call (cText_any _ _ _ _))
      | (go_at_call 36; exact abv_call (rText_any _ _ _ _)))))
    refine wpQuiet_nil ?_
    rintro w4 hb4
    go_wp2
    go_ret
    have B1 : Below w.heap.size w w1 := ((Below.refl _ _).alloc (Nat.le_refl _) _).trans (hb1.mono (by simp))
    have B2 := B1.trans (hb2.mono (by omega))
    have B3 := (B2.alloc (by omega) _).trans (hb3.mono (by simp; omega))
    exact ⟨rfl, (B3.alloc (by omega) _).trans (hb4.mono (by simp; omega))⟩

end Go.Proofs.Ytgjbcdbhbbimcaa
