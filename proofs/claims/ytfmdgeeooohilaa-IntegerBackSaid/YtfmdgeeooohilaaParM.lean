/- Plain mathematics of parsing an integer: no program in sight. -/
import Derived.Test.YtfmdgeeooohilaaTextM
import Derived.Laws.BytesArg
import Derived.Laws.Strings
namespace Go.Proofs.Ytfmdgeeooohilaa.M
set_option linter.unusedVariables false
set_option linter.unusedSimpArgs false

/-- The byte at a place; 0 behind the end. -/
def ch (s : ByteArray) (i : Nat) : Int := ((s.data.toList.getD i 0).toNat : Int)
theorem ch_eq (s : ByteArray) (i : Nat) (h : i < s.size) : ((s[i]'h).toNat : Int) = ch s i := by
  have h' : i < s.data.toList.length := by simpa using h
  unfold ch
  rw [List.getD_eq_getElem?_getD, List.getElem?_eq_getElem h']
  simp
  rfl
theorem ch_bd (s : ByteArray) (i : Nat) : 0 ≤ ch s i ∧ ch s i ≤ 255 := by
  unfold ch; have := (s.data.toList.getD i 0).toNat_lt; omega
theorem ch_str (l : List Int) (i : Nat) (hi : i < l.length) (h0 : 0 ≤ l.getD i 0) (h1 : l.getD i 0 ≤ 255) : ch (strOfNums l) i = l.getD i 0 := by
  unfold ch
  rw [strOfNums_data]
  rw [List.getD_eq_getElem?_getD, List.getElem?_map]
  rw [List.getD_eq_getElem?_getD] at *
  rw [List.getElem?_eq_getElem hi] at *
  simp at *
  omega
theorem ch_extract (s : ByteArray) (a b i : Nat) (hb : b ≤ s.size) (hi : i < b - a) : ch (s.extract a b) i = ch s (a + i) := by
  have hsz : (s.extract a b).size = b - a := by simp [ByteArray.size_extract]; omega
  rw [← ch_eq _ _ (by omega), ← ch_eq _ _ (by omega)]
  simp [ByteArray.getElem_extract]
/-- The number that k digits make. -/
def pn (s : ByteArray) : Nat → Int
  | 0 => 0
  | k + 1 => 10 * pn s k + (ch s k - 48)
def isDig (s : ByteArray) (i : Nat) : Prop := 48 ≤ ch s i ∧ ch s i ≤ 57
/-- The first k bytes are digits. -/
def digsTo (s : ByteArray) (k : Nat) : Prop := ∀ i, i < k → isDig s i
theorem pn_nonneg {s : ByteArray} : ∀ {k}, digsTo s k → 0 ≤ pn s k
  | 0, _ => by simp [pn]
  | k + 1, h => by
    have ih := pn_nonneg (k := k) fun i hi => h i (by omega)
    have hk := h k (by omega)
    unfold isDig at hk
    rw [pn]; omega
theorem pn_step {s : ByteArray} {k : Nat} (h : digsTo s k) (hk : isDig s k) : digsTo s (k + 1) := fun i hi => by
  by_cases e : i = k
  · subst e; exact hk
  · exact h i (by omega)
theorem pn_mono {s : ByteArray} {k : Nat} (h : digsTo s (k + 1)) : pn s k ≤ pn s (k + 1) := by
  have ih := pn_nonneg (k := k) fun i hi => h i (by omega)
  have hk := h k (by omega)
  unfold isDig at hk
  rw [pn]; omega
theorem pn_le {s : ByteArray} : ∀ {j k : Nat}, digsTo s (k + j) → pn s k ≤ pn s (k + j)
  | 0, _, _ => Int.le_refl _
  | j + 1, k, h => Int.le_trans (pn_le (j := j) (k := k) fun i hi => h i (by omega)) (pn_mono (k := k + j) h)

/-- A sign, and the digits behind it, to a number that is an int. -/
noncomputable def pd (ng : Bool) (s : ByteArray) : Int × Int :=
  if @decide (s.size = 0 ∨ ¬ digsTo s s.size) (Classical.propDecidable _) = true then (0, 3)
  else if ng = true then (if pn s s.size ≤ 9223372036854775808 then (-(pn s s.size), 0) else (0, 9))
  else (if pn s s.size ≤ 9223372036854775807 then (pn s s.size, 0) else (0, 9))
theorem pd_form {ng : Bool} {s : ByteArray} (h : s.size = 0 ∨ ¬ digsTo s s.size) : pd ng s = (0, 3) := by
  unfold pd; rw [if_pos (by simp only [decide_eq_true_eq]; exact h)]
theorem pd_neg {s : ByteArray} (h0 : s.size ≠ 0) (h : digsTo s s.size) (hv : pn s s.size ≤ 9223372036854775808) : pd true s = (-(pn s s.size), 0) := by
  unfold pd; rw [if_neg (by simp only [decide_eq_true_eq]; rintro (h' | h'); exact h0 h'; exact h' h), if_pos rfl, if_pos hv]
theorem pd_pos {s : ByteArray} (h0 : s.size ≠ 0) (h : digsTo s s.size) (hv : pn s s.size ≤ 9223372036854775807) : pd false s = (pn s s.size, 0) := by
  unfold pd; rw [if_neg (by simp only [decide_eq_true_eq]; rintro (h' | h'); exact h0 h'; exact h' h), if_neg (by simp), if_pos hv]
theorem pd_big {ng : Bool} {s : ByteArray} (h0 : s.size ≠ 0) (h : digsTo s s.size) (hv : (ng = true ∧ 9223372036854775808 < pn s s.size) ∨ (ng = false ∧ 9223372036854775807 < pn s s.size)) : pd ng s = (0, 9) := by
  unfold pd; rw [if_neg (by simp only [decide_eq_true_eq]; rintro (h' | h'); exact h0 h'; exact h' h)]
  rcases hv with ⟨rfl, hv⟩ | ⟨rfl, hv⟩
  · rw [if_pos rfl, if_neg (by omega)]
  · rw [if_neg (by simp), if_neg (by omega)]
/-- What a text is parsed to. -/
noncomputable def ps (s : ByteArray) : Int × Int :=
  if 30 < s.size then (0, 5) else if 0 < s.size ∧ ch s 0 = 45 then pd true (s.extract 1 s.size) else pd false s
theorem ps_full {s : ByteArray} (h : 30 < s.size) : ps s = (0, 5) := by simp only [ps, if_pos h]
theorem ps_neg {s : ByteArray} (h : ¬ 30 < s.size) (h2 : 0 < s.size ∧ ch s 0 = 45) : ps s = pd true (s.extract 1 s.size) := by simp only [ps, if_neg h, if_pos h2]
theorem ps_pos {s : ByteArray} (h : ¬ 30 < s.size) (h2 : ¬ (0 < s.size ∧ ch s 0 = 45)) : ps s = pd false s := by simp only [ps, if_neg h, if_neg h2]

end Go.Proofs.Ytfmdgeeooohilaa.M
