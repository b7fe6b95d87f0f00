/- Plain mathematics: lines with and without their ends. -/
import Derived.Test.YtplgladflhglaaaLeapP
import Derived.Lib.Strings
namespace Go.Proofs.Ytplgladflhglaaa.Lp
set_option linter.unusedVariables false
set_option linter.unusedSimpArgs false
open Go.RowKit

/-- A line without its end. -/
def strip (x : ByteArray) : ByteArray := ⟨(Lib.trimSuffix x.data.toList [10]).toArray⟩
theorem ba_ext {a b : ByteArray} (h : a.data.toList = b.data.toList) : a = b := by
  rcases a with ⟨⟨a⟩⟩; rcases b with ⟨⟨b⟩⟩
  simp at h; rw [h]
theorem ext_list (s : ByteArray) (a b : Nat) : (s.extract a b).data.toList = (s.data.toList.drop a).take (b - a) := by
  rw [← ByteArray.toList_eq, Lib.extract_toList]
theorem size_list (s : ByteArray) : s.data.toList.length = s.size := (Lib.size_eq s).symm
theorem suffix_iff {l : List UInt8} : Lib.hasSuffix l [10] = true ↔ l[l.length - 1]? = some 10 := by
  unfold Lib.hasSuffix
  rw [List.isSuffixOf_iff_suffix]
  constructor
  · rintro ⟨t, rfl⟩
    simp
  · intro h
    rcases List.eq_nil_or_concat l with rfl | ⟨t, x, rfl⟩
    · simp at h
    · simp at h
      exact ⟨t, by subst h; exact (List.concat_eq_append ..).symm⟩
theorem strip_line {r : ByteArray} {j : Nat} (h : r.data.toList[j]? = some 10) : strip (r.extract 0 (j + 1)) = r.extract 0 j := by
  have hj : j < r.data.toList.length := (List.getElem?_eq_some_iff.1 h).1
  apply ba_ext
  have e1 : (r.extract 0 (j + 1)).data.toList = r.data.toList.take j ++ [10] := by
    rw [ext_list, List.drop_zero, Nat.sub_zero, List.take_add_one, h]; rfl
  unfold strip
  show (Lib.trimSuffix _ [10]) = _
  rw [e1, ext_list, List.drop_zero, Nat.sub_zero]
  have hs : Lib.hasSuffix (r.data.toList.take j ++ [10]) [10] = true := by
    unfold Lib.hasSuffix; rw [List.isSuffixOf_iff_suffix]; exact ⟨_, rfl⟩
  unfold Lib.trimSuffix
  rw [if_pos hs]
  rw [List.take_append_of_le_length (by simp)]
  rw [List.take_of_length_le (by simp)]
theorem ix_some {l : List UInt8} {j : Nat} (h : Lib.indexByte l 10 = (j : Int)) : l[j]? = some 10 := (Lib.indexByte_some h).1
theorem rest_last {r : ByteArray} {j : Nat} (hj : j + 1 < r.size) : (r.extract (j + 1) r.size).data.toList[(r.extract (j + 1) r.size).size - 1]? = r.data.toList[r.size - 1]? := by
  have hz : (r.extract (j + 1) r.size).size = r.size - (j + 1) := by simp [ByteArray.size_extract]
  rw [hz, ext_list, List.getElem?_take, if_pos (by omega), List.getElem?_drop]
  congr 1; omega
theorem ix_neg_none {l : List UInt8} (h : Lib.indexByte l 10 < 0) (k : Nat) : l[k]? ≠ some 10 := by
  have := (ix_bd l 10).1
  exact Lib.indexByte_none (by omega) k
theorem lns_step {f : Nat} {s : ByteArray} {j : Nat} (h : s.size ≠ 0) (hi : Lib.indexByte s.data.toList 10 = (j : Int)) : lns (f + 1) s = s.extract 0 (j + 1) :: lns f (s.extract (j + 1) s.size) := by
  simp only [lns, if_neg h]; rw [if_pos (by omega), hi]; rfl
/-- Where the text ends with an end of line, the lines' contents are the lines without their ends. -/
theorem lns_cts : ∀ (f : Nat) (r : ByteArray), r.size ≤ f → (r.size = 0 ∨ r.data.toList[r.size - 1]? = some 10) → cts f r = ((lns f r).map strip, false)
  | 0, r, h, _ => by rw [cts_nil 0 (by omega)]; rfl
  | f + 1, r, h, hl => by
    by_cases h0 : r.size = 0
    · rw [cts_nil _ h0]; simp [lns, h0]
    · have hl' : r.data.toList[r.size - 1]? = some 10 := by rcases hl with hl | hl; exact absurd hl h0; exact hl
      by_cases hi : 0 ≤ Lib.indexByte r.data.toList 10
      · obtain ⟨j, hj⟩ := Int.eq_ofNat_of_zero_le hi
        have hb := (ix_bd r.data.toList 10).2
        rw [size_list] at hb
        have hz : (r.extract (j + 1) r.size).size = r.size - (j + 1) := by simp [ByteArray.size_extract]
        rw [cts_line h0 hj, lns_step h0 hj, List.map_cons, strip_line (ix_some hj)]
        rw [lns_cts f (r.extract (j + 1) r.size) (by omega) (by
          by_cases hr : j + 1 < r.size
          · right; rw [rest_last hr]; exact hl'
          · left; omega)]
      · exact absurd hl' (ix_neg_none (by omega) _)
/-- Else something is behind the last end. -/
theorem cts_bad : ∀ (f : Nat) (r : ByteArray), r.size ≤ f → r.size ≠ 0 → r.data.toList[r.size - 1]? ≠ some 10 → (cts f r).2 = true
  | 0, r, h, h0, _ => by omega
  | f + 1, r, h, h0, hl => by
    by_cases hi : 0 ≤ Lib.indexByte r.data.toList 10
    · obtain ⟨j, hj⟩ := Int.eq_ofNat_of_zero_le hi
      have hb := (ix_bd r.data.toList 10).2
      rw [size_list] at hb
      have hz : (r.extract (j + 1) r.size).size = r.size - (j + 1) := by simp [ByteArray.size_extract]
      have hr : j + 1 < r.size := by
        rcases Nat.lt_or_ge (j + 1) r.size with h | h
        · exact h
        · exfalso; apply hl; rw [show r.size - 1 = j by omega]; exact ix_some hj
      rw [cts_line h0 hj]
      exact cts_bad f _ (by omega) (by omega) (by rw [rest_last hr]; exact hl)
    · rw [cts_tail h0 (by omega)]
/-- The size of what is stripped. -/
theorem strip_size (x : ByteArray) : (strip x).size ≤ x.size := by
  have : (strip x).data.toList.length ≤ x.data.toList.length := by
    unfold strip; show (Lib.trimSuffix _ _).length ≤ _
    unfold Lib.trimSuffix; split
    · rw [List.length_take]; omega
    · omega
  rw [size_list, size_list] at this; exact this
/-- A line is no longer than the text, and there are no more lines than bytes. -/
theorem lns_bd : ∀ (f : Nat) (r : ByteArray), r.size ≤ f → (lns f r).length ≤ r.size ∧ ∀ x ∈ lns f r, x.size ≤ r.size
  | 0, r, h => by simp [lns]
  | f + 1, r, h => by
    by_cases h0 : r.size = 0
    · simp [lns, h0]
    · by_cases hi : 0 ≤ Lib.indexByte r.data.toList 10
      · obtain ⟨j, hj⟩ := Int.eq_ofNat_of_zero_le hi
        have hb := (ix_bd r.data.toList 10).2
        rw [size_list] at hb
        have hz : (r.extract (j + 1) r.size).size = r.size - (j + 1) := by simp [ByteArray.size_extract]
        obtain ⟨i1, i2⟩ := lns_bd f (r.extract (j + 1) r.size) (by omega)
        rw [lns_step h0 hj]
        refine ⟨by simp; omega, fun x hx => ?_⟩
        rcases List.mem_cons.1 hx with rfl | hx
        · simp [ByteArray.size_extract]; omega
        · have := i2 x hx; omega
      · have : lns (f + 1) r = [r] := by simp only [lns, if_neg h0, if_neg hi]
        rw [this]; simp; omega

end Go.Proofs.Ytplgladflhglaaa.Lp
