/- Walks through integer.Text. -/
import Derived.Test.YtplgladflhglaaaKit
import Derived.Test.YtplgladflhglaaaTextM
import Derived.Test.YtplgladflhglaaaIntW
import Derived.Laws.BytesArg
import Derived.LoopTactic
namespace Go.Proofs.Ytplgladflhglaaa
set_option linter.unusedVariables false
set_option linter.unusedSimpArgs false
open Go.RowKit

theorem size_any (n : Int) (w : World) (h1 : -9223372036854775808 ≤ n) (h2 : n ≤ 9223372036854775807) : Calls Try.prog 70 #[.int .i64 n] w fun e w' => e = .returned (.int .u64 n.natAbs) ∧ w = w' := by
  by_cases h : n < 0
  · go_enter Try.func70, Try.ntmps70
    go_wp2
    go_ret
    exact ⟨ret_int (by first | omega | (simp [IntKind.wrap, IntKind.bits, IntKind.signed]; omega)), rfl⟩
  · go_enter Try.func70, Try.ntmps70
    go_wp2
    go_ret
    exact ⟨ret_int (by first | omega | (simp [IntKind.wrap, IntKind.bits, IntKind.signed]; omega)), rfl⟩

/-- What holds of the text's memory at the head of each round: j digits are written. -/
structure TextInv (w : World) (N K j m : Nat) (L : List Int) (arr : Array Value) (wr : World) : Prop where
  len : L.length = j
  size : arr.size = 24
  cells : ∀ i, i < j → arr[24 - j + i]? = some (.int .u8 (L.getD i 0))
  small : m < 10 ^ (20 - j)
  le : m ≤ N
  digs : M.digs 20 N K = M.digs (20 - j) m (K - j) ++ L
  world : wr = w.alloc (.cells arr 96)
theorem TextInv.next {w : World} {N K j m : Nat} {L : List Int} {arr : Array Value} {wr : World} (h : TextInv w N K j m L arr wr) (hj : j < 20) (hc : ¬ (m = 0 ∧ K - j = 0)) :
    TextInv w N K (j + 1) (m / 10) ((48 + (m : Int) % 10) :: L) (arr.setIfInBounds (24 - j - 1) (.int .u8 (48 + (m : Int) % 10))) (w.alloc (.cells (arr.setIfInBounds (24 - j - 1) (.int .u8 (48 + (m : Int) % 10))) 96)) := by
  refine ⟨by simp [h.len], by simp [h.size], fun i hi => ?_, ?_, by have := h.le; omega, ?_, rfl⟩
  · rcases Nat.eq_zero_or_pos i with rfl | hp
    · rw [show 24 - (j + 1) + 0 = 24 - j - 1 by omega]
      rw [Array.getElem?_setIfInBounds_self, if_pos (by rw [h.size]; omega)]; rfl
    · obtain ⟨i', rfl⟩ : ∃ i', i = i' + 1 := ⟨i - 1, by omega⟩
      rw [show 24 - (j + 1) + (i' + 1) = 24 - j + i' by omega, Array.getElem?_setIfInBounds_ne (by omega), h.cells i' (by omega)]
      simp
  · have := h.small
    rw [show 20 - j = (20 - (j + 1)) + 1 by omega, Nat.pow_succ, Nat.mul_comm] at this
    exact Nat.div_lt_of_lt_mul this
  · rw [h.digs, show 20 - j = (20 - (j + 1)) + 1 by omega, M.digs_step hc, List.append_assoc, show K - j - 1 = K - (j + 1) by omega]; rfl

theorem conv_arr (w : World) (arr : Array Value) (off len cap : Nat) (xs : List Int) (hlen : xs.length = len) (hc : ∀ i, i < len → arr[off + i]? = some (.int .u8 (xs.getD i 0))) :
    (Go.convert 67 9 (.slice (some ⟨w.heap.size, off, none⟩) len cap)).run Try.prog (w.alloc (.cells arr 96)) = .ok (.string (strOfNums xs)) (w.alloc (.cells arr 96)) :=
  run_convert_bytes_arg (w.alloc (.cells arr 96)) 67 5 Try.underlying67 Try.underlying5 w.heap.size off len cap xs hlen (fun i hi => by rw [← hc i hi]; simp [go_sem]) 9 Try.underlying9
theorem slice_arr (b l : Nat) (z : Int) (hz : z = (l : Int)) (h : l < 24) (W : World) :
    (Instr.sliceAt 96 (.pointer (some ⟨b, 0, none⟩)) (some (.int .i64 z)) none none).run Try.prog W = .ok (.slice (some ⟨b, l, none⟩) (24 - l) (24 - l)) W := by
  subst hz
  have hlen : Try.prog.arrayLen 96 = 24 := by kernel_rfl
  have hel : Try.prog.elem 96 = 5 := by kernel_rfl
  rw [run_sliceAt_array_l W 96 _ (by kernel_rfl) .i64 (l : Int) (by omega) (by rw [hlen]; omega)]
  rw [hlen, hel]
  have hs : (sizeOf 5).run Try.prog W = .ok 1 W := by kernel_rfl
  rw [hs]
  simp [slicedAt, Addr.add, Result.andThen]
  rw [if_neg (by omega)]
  split
  · simp_all
  · rfl

set_option maxRecDepth 100000 in
set_option maxHeartbeats 1000000 in
theorem Text_any (n k : Int) (w : World) (h1 : -9223372036854775808 ≤ n) (h2 : n ≤ 9223372036854775807) (h3 : 0 ≤ k) (h4 : k ≤ 20) :
    Calls Try.prog 59 #[.int .i64 n, .int .i64 k] w fun e w' => e = .returned (.string (strOfNums (M.txt n k))) ∧ Below w.heap.size w w' := by
  obtain ⟨K, hK0⟩ : ∃ K : Nat, K = (max k 1).toNat := ⟨_, rfl⟩
  have hK : (1 ≤ k ∧ k = K) ∨ (k = 0 ∧ K = 1) := by omega
  have kK : 1 ≤ K ∧ K ≤ 20 := by omega
  have HK := Lib.hid hK0
  have HKK := Lib.hid hK
  clear hK0 hK
  obtain ⟨kK1, kK2⟩ := kK
  have hsm : n.natAbs < 10 ^ 20 := by omega
  have HS := Lib.hid hsm
  clear hsm
  have hn : n.natAbs ≤ 9223372036854775808 := by omega
  have hbad : ¬ (k < 0 ∨ 20 < k) := by omega
  have HB := Lib.hid hbad
  clear hbad
  go_enter Try.func59, Try.ntmps59
  go_wp2_with (go_at_call 70; refine (size_any _ _ h1 h2).mono ?_; rintro e w' ⟨rfl, rfl⟩)
  go_loopw [6, 7] (fun a b wr => ∃ (j m : Nat) (L : List Int) (arr : Array Value), j ≤ 20 ∧ a = .int .i64 (24 - (j : Int)) ∧ b = .int .u64 m ∧ TextInv w n.natAbs K j m L arr wr) (fun a _ _ => (intOf a).toNat)
  case atStart => exact ⟨0, n.natAbs, [], _, by omega, rfl, rfl, ⟨rfl, rfl, fun i hi => absurd hi (by omega), HS.out, Nat.le_refl _, by simp, rfl⟩⟩
  case round =>
    obtain ⟨j, m, L, arr, hj, rfl, rfl, inv⟩ := hrel
    have hw := inv.world
    subst hw
    have hmn := inv.le
    by_cases hc : m = 0 ∧ K - j = 0
    · have hm' : ((m : Int) != 0) = false := by simp [hc.1]
      have hlt : K ≤ j := by omega
      obtain ⟨v0, hv0⟩ : ∃ v, arr[24 - j - 1]? = some v := by
        rw [Array.getElem?_eq_getElem (by rw [inv.size]; omega)]; exact ⟨_, rfl⟩
      have HI := Lib.hid inv
      have HT : Hid (M.digs 20 n.natAbs K = L) := Lib.hid (by rw [inv.digs, hc.1, hc.2, M.digs_nil]; rfl)
      clear hc inv
      have hj1 : 1 ≤ j := by omega
      have hL := HI.out.len
      have hcells := HI.out.cells
      have hsz := HI.out.size
      have HE := Lib.hid (And.intro hL (And.intro hcells hsz))
      clear hL hcells hsz
      have hK : (1 ≤ k ∧ k = (K : Int)) ∨ k = 0 := by have := HKK.out; omega
      clear HKK
      rcases Int.lt_or_le n 0 with hn0 | hn0
      · have hsl := slice_arr w.heap.size (24 - j - 1) (24 - (j : Int) - 1) (by omega) (by omega)
        have hcv := conv_arr w (arr.setIfInBounds (24 - j - 1) (.int .u8 45)) (24 - j - 1) (24 - (24 - j - 1)) (24 - (24 - j - 1)) (45 :: L) (by have := HE.out.1; simp; omega) (fun i hi => by
          rcases Nat.eq_zero_or_pos i with rfl | hp
          · rw [show 24 - j - 1 + 0 = 24 - j - 1 by omega, Array.getElem?_setIfInBounds_self, if_pos (by rw [HE.out.2.2]; omega)]; rfl
          · obtain ⟨i', rfl⟩ : ∃ i', i = i' + 1 := ⟨i - 1, by omega⟩
            rw [show 24 - j - 1 + (i' + 1) = 24 - j + i' by omega, Array.getElem?_setIfInBounds_ne (by omega), HE.out.2.1 i' (by omega)]
            simp)
        rcases hK with ⟨k1, hk⟩ | hk
        all_goals
          subst hk
          go_wp2
          go_ret
          exact ⟨ret_val (by rw [M.txt_neg HB.out hn0, ← HK.out, HT.out]; rfl), (Below.refl _ _).alloc (Nat.le_refl _) _⟩
      · have hsl := slice_arr w.heap.size (24 - j) (24 - (j : Int)) (by omega) (by omega)
        have hcv := conv_arr w arr (24 - j) (24 - (24 - j)) (24 - (24 - j)) L (by have := HE.out.1; omega) (fun i hi => HE.out.2.1 i (by omega))
        rcases hK with ⟨k1, hk⟩ | hk
        all_goals
          subst hk
          go_wp2
          go_ret
          exact ⟨ret_val (by rw [M.txt_pos HB.out (by omega), ← HK.out, HT.out]; rfl), (Below.refl _ _).alloc (Nat.le_refl _) _⟩
    · have nx := inv.next (by
        have := inv.small
        rcases Nat.lt_or_ge j 20 with h | h
        · exact h
        · obtain rfl : j = 20 := by omega
          simp at this; omega) hc
      have hj20 : j < 20 := by
        have := inv.small
        rcases Nat.lt_or_ge j 20 with h | h
        · exact h
        · obtain rfl : j = 20 := by omega
          simp at this; omega
      obtain ⟨v0, hv0⟩ : ∃ v, arr[24 - j - 1]? = some v := by
        rw [Array.getElem?_eq_getElem (by rw [inv.size]; omega)]; exact ⟨_, rfl⟩
      have HI := Lib.hid nx
      have hcc := Lib.hid hc
      clear nx inv hc
      rcases Nat.eq_zero_or_pos m with hm | hm
      · have hm' : ((m : Int) != 0) = false := by simp [hm]
        have hlt : j < K := by have := hcc.out; omega
        clear hm
        rcases HKK.out with ⟨k1, hk⟩ | ⟨hk, hk1⟩
        · subst hk
          go_wp2
          go_roundw
          case rel => exact ⟨j + 1, m / 10, _, _, by omega, by congr 1; omega, by congr 1, HI.out⟩
          case measure => simp [intOf]; omega
        · subst hk
          obtain rfl : j = 0 := by omega
          go_wp2
          go_roundw
          case rel => exact ⟨0 + 1, m / 10, _, _, by omega, by rfl, by congr 1, HI.out⟩
          case measure => simp [intOf]
      · have hm' : ((m : Int) != 0) = true := by simp; omega
        go_wp2
        go_roundw
        case rel => exact ⟨j + 1, m / 10, _, _, by omega, by congr 1; omega, by congr 1, HI.out⟩
        case measure => simp [intOf]; omega

end Go.Proofs.Ytplgladflhglaaa
