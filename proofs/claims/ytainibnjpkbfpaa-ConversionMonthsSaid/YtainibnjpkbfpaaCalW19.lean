/- Walks: the lengths of the months; rows of granules. -/
import Derived.Test.YtainibnjpkbfpaaCalW5
import Derived.Test.YtainibnjpkbfpaaCalM4
import Derived.Test.YtainibnjpkbfpaaCivW
namespace Go.Proofs.Ytainibnjpkbfpaa.Cv
set_option linter.unusedVariables false
set_option linter.unusedSimpArgs false
open Go.RowKit Wl

theorem info_int : (Try.prog.info? 3).map (fun i => (i.zero, i.size, i.bytes)) = some (some (.int .i64 0), 1, 8) := by kernel_rfl
theorem info_span : (Try.prog.info? 35).map (fun i => (i.zero, i.size, i.bytes)) = some (some (.agg #[.int .i64 0, .int .i64 0]), 2, 16) := by kernel_rfl
/-- The lengths between the values of a function. -/
def ln (f : Nat → Int) (n : Nat) : List Value := (List.range n).map fun i => .int .i64 (f (i + 1) - f i)
theorem ln_succ {f : Nat → Int} {n : Nat} : ln f (n + 1) = ln f n ++ [.int .i64 (f (n + 1) - f n)] := by simp [ln, List.range_succ]
theorem ln_len {f : Nat → Int} {n : Nat} : (ln f n).length = n := by simp [ln]
theorem ln_get {f : Nat → Int} {n i : Nat} (h : i < n) : (ln f n)[i]? = some (.int .i64 (f (i + 1) - f i)) := by simp [ln, h]
theorem sc_one1 (a b : Int) : ∀ u ∈ (#[.int .i64 a, .int .i64 b] : Array Value).toList, u.oneCell' = true := by intro u hu; simp at hu; rcases hu with rfl | rfl <;> rfl
set_option maxRecDepth 20000 in
theorem months_any (w : World) : Calls Try.prog 60 #[] w fun e w' => ∃ A c, e = .returned (.slice A 4800 c) ∧ Hid (w'.ownsRow w.heap.size 3 1 (.slice A 4800 c) 4800 (ln mst 4800)) ∧ Below w.heap.size w w' := by
  obtain ⟨i0, hi, hz0, hz1, hz2⟩ := info_parts info_int
  go_enter Try.func60, Try.ntmps60
  go_wp2_with fail
  go_loopw [1, 4] (fun v i wr => ∃ (y : Nat) (A : Option Addr) (c : Nat), y ≤ 400 ∧ i = .int .i64 (y : Int) ∧ v = .slice A (12 * y) c ∧ Hid (wr.ownsRow w.heap.size 3 1 (.slice A (12 * y) c) (12 * y) (ln mst (12 * y))) ∧ Grew w none wr A ∧ Below w.heap.size w wr) (fun _ i _ => (400 - intOf i).toNat)
  case atStart => exact ⟨0, none, 0, by omega, rfl, rfl, Lib.hid (World.ownsRow_nil _ _ _ _), Grew.refl _ _, Below.refl _ _⟩
  case round =>
    obtain ⟨y, A, c, hy, rfl, rfl, hown, hg, bw⟩ := hrel
    by_cases hlt : y < 400
    · go_wp2_with fail
      go_loopw [1, 7] (fun v i wr => ∃ (m : Nat) (A : Option Addr) (c : Nat), m ≤ 12 ∧ i = .int .i64 (m : Int) ∧ v = .slice A (12 * y + m) c ∧ Hid (wr.ownsRow w.heap.size 3 1 (.slice A (12 * y + m) c) (12 * y + m) (ln mst (12 * y + m))) ∧ Grew w none wr A ∧ Below w.heap.size w wr) (fun _ i _ => (12 - intOf i).toNat)
      case atStart => exact ⟨0, A, c, by omega, rfl, rfl, hown, hg, bw⟩
      case round =>
        obtain ⟨m, A, c, hm, rfl, rfl, hown, hg, bw⟩ := hrel
        by_cases hmt : m < 12
        · have HM := Lib.hid (mst_next y m hmt (by omega))
          have bd := M.len_bd (1970 + (y : Int)) ((m : Int) + 1)
          obtain ⟨ml, hml⟩ : ∃ ml, M.len (1970 + (y : Int)) ((m : Int) + 1) = ml := ⟨_, rfl⟩
          rw [hml] at HM bd
          have hzr := bw.size
          go_wp2_with (first | (go_at_call 35; refine (Length_any (1970 + (y : Int)) ((m : Int) + 1) _).mono ?_; rintro e w' ⟨rfl, rfl⟩; rw [hml]) | (at_builtin; refine wpList_app _ rfl (.tmp 10) (.tmp 16) 77 rfl w.heap.size 3 i0 (.int .i64 0) 1 8 Try.underlying77 hi hz0 hz1 hz2 rfl (by omega) (by rfl) (own_alloc hown.out _) (by rfl) (Rd.lit _ _ 1 #[.int .i64 ml] 1 (by omega) rfl) (one1 _ rfl) (by omega) (by omega) (by simp; omega) ?_; intro A1 c1 w1 hown1 hg1))
          have hg2 := (hg.alloc _).trans hg1
          refine ⟨⟨_, _, _, ⟨m + 1, by omega, by go_num, A1, c1, rfl, Lib.hid ?_, hg2, hg2.low (Below.refl _ _) (Nat.le_refl _) (fun g e => by simp [blk] at e)⟩, rfl, rfl, rfl⟩, by simp [intOf]; omega⟩
          · rw [show ln mst (12 * y + (m + 1)) = ln mst (12 * y + m) ++ [.int .i64 ml] by rw [← Nat.add_assoc, ln_succ, HM.out]; congr 3; omega]
            exact hown1
        · obtain rfl : m = 12 := by omega
          go_wp2_with fail
          go_roundw
          case rel => exact ⟨y + 1, A, c, by omega, by go_num, by rw [Nat.mul_add], by rw [Nat.mul_add]; exact hown, hg, bw⟩
          case measure => simp [intOf]; omega
    · obtain rfl : y = 400 := by omega
      go_wp2_with fail
      go_ret
      exact ⟨A, c, rfl, hown, bw⟩
end Go.Proofs.Ytainibnjpkbfpaa.Cv
