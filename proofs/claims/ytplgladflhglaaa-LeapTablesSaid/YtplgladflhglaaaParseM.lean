/- Plain mathematics of parsing a date: no program in sight. -/
import Derived.Test.YtplgladflhglaaaTextM2
import Derived.Laws.BytesArg
namespace Go.Proofs.Ytplgladflhglaaa.M
set_option linter.unusedVariables false
set_option linter.unusedSimpArgs false

/-- The byte at a place; 0 behind the end. -/
def ch (s : ByteArray) (i : Nat) : Int := ((s.data.toList.getD i 0).toNat : Int)
theorem ch_eq (s : ByteArray) (i : Nat) (h : i < s.size) : ((s[i]'h).toNat : Int) = ch s i := by
  have h' : i < s.data.toList.length := by simpa using h
  unfold ch
  rw [List.getD_eq_getElem?_getD, List.getElem?_eq_getElem h']
  simp
  rfl
theorem ch_bd (s : ByteArray) (i : Nat) : 0 ≤ ch s i ∧ ch s i ≤ 255 := by
  unfold ch; have := (s.data.toList.getD i 0).toNat_lt; omega
def okAt (s : ByteArray) (i : Nat) : Prop := if i = 4 ∨ i = 7 then ch s i = 45 else 48 ≤ ch s i ∧ ch s i ≤ 57
theorem okAt_dash {s : ByteArray} {i : Nat} (h : i = 4 ∨ i = 7) : okAt s i ↔ ch s i = 45 := by simp only [okAt, if_pos h]
theorem okAt_dig {s : ByteArray} {i : Nat} (h : ¬ (i = 4 ∨ i = 7)) : okAt s i ↔ 48 ≤ ch s i ∧ ch s i ≤ 57 := by simp only [okAt, if_neg h]
noncomputable def form (s : ByteArray) : Bool := @decide (s.size = 10 ∧ ∀ i, i < 10 → okAt s i) (Classical.propDecidable _)
theorem form_t {s : ByteArray} (h : s.size = 10 ∧ ∀ i, i < 10 → okAt s i) : form s = true := by simp only [form, decide_eq_true_eq]; exact h
theorem form_f {s : ByteArray} (h : ¬ (s.size = 10 ∧ ∀ i, i < 10 → okAt s i)) : form s = false := by simp only [form, decide_eq_false_iff_not]; exact h
theorem form_iff {s : ByteArray} : form s = true ↔ (s.size = 10 ∧ ∀ i, i < 10 → okAt s i) := by simp only [form, decide_eq_true_eq]
/-- The number that k digits from a on make. -/
def pn (s : ByteArray) (a : Nat) : Nat → Int
  | 0 => 0
  | k + 1 => 10 * pn s a k + (ch s (a + k) - 48)
theorem pn_bd (s : ByteArray) (a : Nat) : ∀ k, (∀ i, i < k → 48 ≤ ch s (a + i) ∧ ch s (a + i) ≤ 57) → 0 ≤ pn s a k ∧ pn s a k < 10 ^ k
  | 0, _ => by simp [pn]
  | k + 1, h => by
    have ih := pn_bd s a k fun i hi => h i (by omega)
    have hk := h k (by omega)
    rw [pn, Int.pow_succ]; omega
noncomputable def prs (s : ByteArray) : (Int × Int × Int) × Int :=
  if form s = true then (if vld (pn s 0 4) (pn s 5 2) (pn s 8 2) = true then ((pn s 0 4, pn s 5 2, pn s 8 2), 0) else ((0, 0, 0), 1)) else ((0, 0, 0), 3)
theorem prs_3 {s : ByteArray} (h : form s = false) : prs s = ((0, 0, 0), 3) := by simp [prs, h]
theorem prs_1 {s : ByteArray} (h : form s = true) (hv : vld (pn s 0 4) (pn s 5 2) (pn s 8 2) = false) : prs s = ((0, 0, 0), 1) := by simp [prs, h, hv]
theorem prs_0 {s : ByteArray} (h : form s = true) (hv : vld (pn s 0 4) (pn s 5 2) (pn s 8 2) = true) : prs s = ((pn s 0 4, pn s 5 2, pn s 8 2), 0) := by simp [prs, h, hv]
theorem form_dig {s : ByteArray} (h : form s = true) {i : Nat} (hi : i < 10) (h4 : i ≠ 4) (h7 : i ≠ 7) : 48 ≤ ch s i ∧ ch s i ≤ 57 := (okAt_dig (by omega)).1 ((form_iff.1 h).2 i hi)

end Go.Proofs.Ytplgladflhglaaa.M
