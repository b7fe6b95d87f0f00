/- Walks of the laws of integer: texts and parsing. -/
import Derived.Test.YtfmdgeeooohilaaParW2
import Derived.Test.YtfmdgeeooohilaaTextR
import Derived.Test.YtfmdgeeooohilaaIntAw
namespace Go.Proofs.Ytfmdgeeooohilaa
set_option linter.unusedVariables false
set_option linter.unusedSimpArgs false
open Go.RowKit

theorem Text_all (n k : Int) (w : World) (h1 : -9223372036854775808 ≤ n) (h2 : n ≤ 9223372036854775807) :
    Calls Try.prog 20 #[.int .i64 n, .int .i64 k] w fun e w' => e = .returned (.string (strOfNums (M.txt n k))) ∧ Below w.heap.size w w' := by
  by_cases h : k < 0 ∨ 20 < k
  · exact Text_bad n k w h
  · exact Text_any n k w h1 h2 (by omega) (by omega)

theorem IntegerTexts_walk (n k : Int) (w : World) (h1 : -9223372036854775808 ≤ n) (h2 : n ≤ 9223372036854775807) (h3 : -9223372036854775808 ≤ k) (h4 : k ≤ 9223372036854775807) :
    Calls Try.prog 7 #[.int .i64 n, .int .i64 k] w fun e w' => e = .returned (.bool true) ∧ Below w.heap.size w w' := by
  obtain ⟨x, hx⟩ : ∃ x, strOfNums (M.txt n k) = x := ⟨_, rfl⟩
  have T1 : ∀ w, Calls Try.prog 20 #[.int .i64 n, .int .i64 k] w fun e w' => e = .returned (.string x) ∧ Below w.heap.size w w' := fun w => hx ▸ Text_all n k w h1 h2
  have T2 : ∀ w, Calls Try.prog 21 #[.int .i64 n, .int .i64 k] w fun e w' => e = .returned (.string x) ∧ Below w.heap.size w w' := fun w => hx ▸ rText_any n k w h1 h2 h3 h4
  have H1 := Lib.hid T1
  have H2 := Lib.hid T2
  clear T1 T2 hx
  go_enter Try.func7, Try.ntmps7
  go_wp2_with (first
    | (go_at_call 13; refine (awake_any _).mono ?_; rintro e w1 ⟨rfl, hb1⟩)
    | (go_at_call 20; refine (H1.out _).mono ?_; rintro e w2 ⟨rfl, hb2⟩)
    | (go_at_call 21; refine (H2.out _).mono ?_; rintro e w3 ⟨rfl, hb3⟩))
  go_ret
  exact ⟨rfl, (hb1.trans (hb2.mono hb1.size)).trans (hb3.mono (Nat.le_trans hb1.size hb2.size))⟩

theorem IntegerParses_walk (s : ByteArray) (w : World) (hs : s.size ≤ 9223372036854775807) :
    Calls Try.prog 11 #[.string s] w fun e w' => e = .returned (.bool true) ∧ Below w.heap.size w w' := by
  obtain ⟨⟨n, e⟩, hx⟩ : ∃ x, M.ps s = x := ⟨_, rfl⟩
  have T1 : ∀ w, Calls Try.prog 27 #[.string s] w fun x w' => x = .returned (.tuple #[.int .i64 n, .int .i64 e]) ∧ w = w' := fun w => by
    have := Parse_any s w hs; rw [hx] at this; exact this
  have T2 : ∀ w, Calls Try.prog 28 #[.string s] w fun x w' => x = .returned (.tuple #[.int .i64 n, .int .i64 e]) ∧ ∃ q, w' = w.drewN q := fun w => by
    have := rParse_any s w hs; rw [hx] at this; exact this
  have H1 := Lib.hid T1
  have H2 := Lib.hid T2
  clear T1 T2 hx
  rcases Nat.lt_or_ge 100 s.size with hl | hl
  · have hl' : (100 : Int) < s.size := by omega
    go_enter Try.func11, Try.ntmps11
    go_wp2_with fail
    refine (awake_any _).mono ?_; rintro e w1 ⟨rfl, hb1⟩
    go_wp2_with fail
    refine (awake_any _).mono ?_; rintro e w2 ⟨rfl, hb2⟩
    go_wp2_with fail
    go_ret
    exact ⟨rfl, hb1.trans (hb2.mono hb1.size)⟩
  · have hl' : (s.size : Int) ≤ 100 := by omega
    go_enter Try.func11, Try.ntmps11
    go_wp2_with (first
      | (go_at_call 13; refine (awake_any _).mono ?_; rintro e w1 ⟨rfl, hb1⟩)
      | (go_at_call 27; refine (H1.out _).mono ?_; rintro e w' ⟨rfl, rfl⟩)
      | (go_at_call 28; refine (H2.out _).mono ?_; rintro e w' ⟨rfl, n1, rfl⟩))
    go_ret
    exact ⟨rfl, bdrewN hb1⟩

theorem IntegerBack_walk (n d : Int) (w : World) (h1 : -9223372036854775808 ≤ n) (h2 : n ≤ 9223372036854775807) (h3 : 0 ≤ d) (h4 : d ≤ 255) :
    Calls Try.prog 12 #[.int .i64 n, .int .u8 d] w fun e w' => e = .returned (.bool true) ∧ Below w.heap.size w w' := by
  obtain ⟨k, hk⟩ : ∃ k, d % 21 = k := ⟨_, rfl⟩
  have k0 : 0 ≤ k := by omega
  have k20 : k ≤ 20 := by omega
  obtain ⟨hp, hz, hc⟩ := M.ps_txt h1 h2 k0 k20
  obtain ⟨s, hs⟩ : ∃ s, strOfNums (M.txt n k) = s := ⟨_, rfl⟩
  rw [hs] at hp hz hc
  have T1 : ∀ w, Calls Try.prog 20 #[.int .i64 n, .int .i64 k] w fun e w' => e = .returned (.string s) ∧ Below w.heap.size w w' := fun w => hs ▸ Text_any n k w h1 h2 k0 k20
  have T2 : ∀ w, Calls Try.prog 27 #[.string s] w fun x w' => x = .returned (.tuple #[.int .i64 n, .int .i64 0]) ∧ w = w' := fun w => by
    have := Parse_any s w (by omega); rw [hp] at this; exact this
  have H1 := Lib.hid T1
  have H2 := Lib.hid T2
  have HS := Lib.hid hs
  clear T1 T2 hp hs
  rcases hc with ⟨hn, c0, c1, c2⟩ | ⟨hn, c1, c2⟩
  · have hlt : 0 < s.size := by omega
    have e45 : ((s[0].toNat : Int) == 45) = true := by rw [M.ch_eq]; simp [c0]
    have c1' : k ≤ (s.size : Int) - 1 := by omega
    have c2' : (1 : Int) ≤ (s.size : Int) - 1 := by omega
    clear c0
    go_enter Try.func12, Try.ntmps12
    go_wp2_with (first
      | (go_at_call 13; refine (awake_any _).mono ?_; rintro e w1 ⟨rfl, hb1⟩)
      | (go_at_call 20; refine (H1.out _).mono ?_; rintro e w2 ⟨rfl, hb2⟩)
      | (go_at_call 27; refine (H2.out _).mono ?_; rintro e w' ⟨rfl, rfl⟩))
    go_ret
    exact ⟨rfl, hb1.trans (hb2.mono hb1.size)⟩
  · go_enter Try.func12, Try.ntmps12
    go_wp2_with (first
      | (go_at_call 13; refine (awake_any _).mono ?_; rintro e w1 ⟨rfl, hb1⟩)
      | (go_at_call 20; refine (H1.out _).mono ?_; rintro e w2 ⟨rfl, hb2⟩)
      | (go_at_call 27; refine (H2.out _).mono ?_; rintro e w' ⟨rfl, rfl⟩))
    go_ret
    exact ⟨rfl, hb1.trans (hb2.mono hb1.size)⟩

end Go.Proofs.Ytfmdgeeooohilaa
