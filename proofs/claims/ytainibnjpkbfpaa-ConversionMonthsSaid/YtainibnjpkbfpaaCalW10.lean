/- Walks: the granule near a number, by sort.Search; the granule that contains it. -/
import Derived.Test.YtainibnjpkbfpaaCalW7
import Derived.Test.YtainibnjpkbfpaaCalM3
namespace Go.Proofs.Ytainibnjpkbfpaa.Cv
set_option linter.unusedVariables false
set_option linter.unusedSimpArgs false
open Go.RowKit Wl

/-- Spans that begin in order. -/
def Asc (l : List (Int × Int)) : Prop := ∀ i j, i ≤ j → j < l.length → (gt l i).1 ≤ (gt l j).1
theorem Vc.asc {c : Cal} (h : Vc c) : Asc c.l := fun i j hij hj => by
  have := h.mono (j - i) i (by omega)
  rw [show i + (j - i) = j by omega] at this; omega
theorem idx_of {l : List (Int × Int)} {r : Int} {k : Nat} (h0 : (gt l 0).1 ≤ r) (hk : k ≤ l.length) (h1 : ∀ i, i < k → (gt l i).1 ≤ r) (h2 : ∀ i, k ≤ i → i < l.length → r < (gt l i).1) (hl : 1 ≤ l.length) : 1 ≤ k ∧ idx l r l.length = k - 1 := by
  have hk1 : 1 ≤ k := by
    rcases Nat.lt_or_ge k 1 with h | h
    · have := h2 0 (by omega) (by omega); omega
    · exact h
  refine ⟨hk1, ?_⟩
  have a1 := idx_at h0 l.length hl
  have a2 := idx_le l r l.length
  have a3 := @idx_gt l r l.length
  rcases Nat.lt_trichotomy (idx l r l.length) (k - 1) with h | h | h
  · have := a3 (k - 1) h (by omega)
    have := h1 (k - 1) (by omega); omega
  · exact h
  · have := h2 (idx l r l.length) (by omega) (by omega); omega
set_option maxHeartbeats 1600000 in
theorem nearfn_any {A : Option Addr} {n cp : Nat} {o p r : Int} {l : List (Int × Int)} {q s : Nat} {i : Nat} (w : World) (h : Hid (Sr w A n cp l)) (bx : Hid (Bx w q o p A n cp)) (hs : w.cell? ⟨s, 0, none⟩ = some (.int .i64 r)) (hz : s < w.heap.size) (hi : i < n) :
    Calls Try.prog 81 #[.int .i64 i, .pointer (some ⟨q, 0, none⟩), .pointer (some ⟨s, 0, none⟩)] w fun e w' => e = .returned (.bool (decide (r < (gt l i).1))) ∧ Below w.heap.size w w' := by
  have hnc := h.out.nc
  have hc63 := h.out.c63
  obtain ⟨z0, c0, c1, c2⟩ := bx.out
  obtain ⟨g, of_, rfl, hg, a0, a1⟩ := h.out.at_ hi
  obtain ⟨y, hy⟩ : ∃ y, (gt l i).1 = y := ⟨_, rfl⟩
  rw [hy] at a0 ⊢
  clear hy a1
  go_enter Try.func81, Try.ntmps81
  go_wp2_with fail
  have hS := Abv.cells w
  refine wp_region_abv (by kernel_rfl) (by kernel_rfl) ?_
  repeat (go_big_quiet_step ((fail)))
  refine wpQuiet_nil ?_
  rintro w2 hw2
  clear hS
  go_wp2_with fail
  go_ret
  exact ⟨rfl, hw2⟩
set_option maxHeartbeats 1600000 in
theorem Search_any {A : Option Addr} {n cp : Nat} {o p r : Int} {l : List (Int × Int)} {q s : Nat} (w : World) (h : Hid (Sr w A n cp l)) (bx : Hid (Bx w q o p A n cp)) (hs : w.cell? ⟨s, 0, none⟩ = some (.int .i64 r)) (hz : s < w.heap.size) (ha : Hid (Asc l)) (hn : n ≤ 5000) :
    Calls Try.prog 80 #[.int .i64 n, .func (.func 81) #[] #[.pointer (some ⟨q, 0, none⟩), .pointer (some ⟨s, 0, none⟩)]] w fun e w' => ∃ k : Nat, e = .returned (.int .i64 k) ∧ k ≤ n ∧ (∀ i, i < k → (gt l i).1 ≤ r) ∧ (∀ i, k ≤ i → i < n → r < (gt l i).1) ∧ Below w.heap.size w w' := by
  have hl := Lib.hid h.out.len
  go_enter Try.func80, Try.ntmps80
  go_wp2_with fail
  go_loopw [5, 6] (fun iv jv wr => ∃ i j : Nat, i ≤ j ∧ j ≤ n ∧ iv = .int .i64 i ∧ jv = .int .i64 j ∧ Below w.heap.size w wr ∧ Hid (∀ k, k < i → (gt l k).1 ≤ r) ∧ Hid (∀ k, j ≤ k → k < n → r < (gt l k).1)) (fun i j _ => (intOf j - intOf i).toNat)
  case atStart => exact ⟨0, n, by omega, by omega, rfl, rfl, Below.refl _ _, Lib.hid fun k hk => by omega, Lib.hid fun k h1 h2 => by omega⟩
  case round =>
    obtain ⟨i, j, hij, hj, rfl, rfl, bw, lo, hi⟩ := hrel
    by_cases hlt : i < j
    · have hm : ((i : Int) + (j : Int)) / 2 = (((i + j) / 2 : Nat) : Int) := by omega
      obtain ⟨m, hm'⟩ : ∃ m, (i + j) / 2 = m := ⟨_, rfl⟩
      have m1 : i ≤ m := by omega
      have m2 : m < j := by omega
      go_wp2_with fail
      have bx2 := Lib.hid (bx.out.below bw)
      have hs2 := (bw.cell (p := ⟨s, 0, none⟩) hz).trans hs
      have hz2 : s < wr.heap.size := Nat.lt_of_lt_of_le hz bw.size
      refine (nearfn_any (r := r) wr (Lib.hid (h.out.below bw)) bx2 hs2 hz2 (show m < n by omega)).mono ?_
      rintro e w1 ⟨rfl, b1⟩
      have bw1 := bw.trans (b1.mono bw.size)
      by_cases hc : r < (gt l m).1
      · have hc' : decide (r < (gt l m).1) = true := by simpa using hc
        have HI : Hid (∀ k, m ≤ k → k < n → r < (gt l k).1) := Lib.hid fun k k1 k2 => by have := ha.out m k k1 (by have := hl.out; omega); omega
        rw [hc']
        clear hc hc'
        go_wp2_with fail
        go_roundw
        case rel => exact ⟨i, m, by omega, by omega, rfl, rfl, bw1, lo, HI⟩
        case measure => simp [intOf]; omega
      · have hc' : decide (r < (gt l m).1) = false := by simpa using hc
        have LO : Hid (∀ k, k < m + 1 → (gt l k).1 ≤ r) := Lib.hid fun k k1 => by have := ha.out k m (by omega) (by have := hl.out; omega); omega
        rw [hc']
        clear hc hc'
        go_wp2_with fail
        go_roundw
        case rel => exact ⟨m + 1, j, by omega, by omega, by go_num, rfl, bw1, LO, hi⟩
        case measure => simp [intOf]; omega
    · obtain rfl : i = j := by omega
      go_wp2_with fail
      go_ret
      exact ⟨i, rfl, hj, lo.out, hi.out, bw⟩
end Go.Proofs.Ytainibnjpkbfpaa.Cv
