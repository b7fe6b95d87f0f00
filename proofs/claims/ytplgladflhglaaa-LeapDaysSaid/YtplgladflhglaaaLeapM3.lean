/- Plain laws of single steps: at most one step is at an instant; minutes and days. -/
import Derived.Test.YtplgladflhglaaaLeapM2
namespace Go.Proofs.Ytplgladflhglaaa.M
set_option linter.unusedVariables false
set_option linter.unusedSimpArgs false

theorem tot_congr {A : Nat → Int} {x y : Int} : ∀ {n : Nat}, (∀ i, i < n → (A i ≤ x ↔ A i ≤ y)) → tot A x n = tot A y n
  | 0, _ => rfl
  | n + 1, h => by
    have ih := tot_congr (n := n) fun i hi => h i (by omega)
    by_cases h1 : A n ≤ x
    · rw [tot_le h1, tot_le ((h n (by omega)).1 h1), ih]
    · rw [tot_gt (by omega), tot_gt (by have := (h n (by omega)); omega), ih]
/-- How many of the first steps are at E. -/
def hit (A : Nat → Int) (E : Int) (j : Nat) : Int := tot A E j - tot A (E - 1) j
theorem hit_yes {A : Nat → Int} {E : Int} {j : Nat} (h : A j = E) : hit A E (j + 1) = hit A E j + 1 := by
  unfold hit; rw [tot_le (show A j ≤ E by omega), tot_gt (show E - 1 < A j by omega)]; omega
theorem hit_no {A : Nat → Int} {E : Int} {j : Nat} (h : A j ≠ E) : hit A E (j + 1) = hit A E j := by
  unfold hit
  by_cases h1 : A j ≤ E
  · rw [tot_le h1, tot_le (show A j ≤ E - 1 by omega)]; omega
  · rw [tot_gt (by omega), tot_gt (show E - 1 < A j by omega)]
theorem hit_first {n : Nat} {A T : Nat → Int} (hk : Ok n A T) {E : Int} {j : Nat} (hj : j < n) (h : A j = E) : hit A E j = 0 := by
  have e1 : tot A E j = j := tot_eq (Nat.le_refl _) (fun i hi => by have := hk.mono hi hj; omega) (fun i a b => by omega)
  have e2 : tot A (E - 1) j = j := tot_eq (Nat.le_refl _) (fun i hi => by have := hk.mono hi hj; omega) (fun i a b => by omega)
  unfold hit; rw [e1, e2]; omega
theorem hit_none {A : Nat → Int} {E : Int} : ∀ {j : Nat}, (∀ i, i < j → A i ≠ E) → hit A E j = 0
  | 0, _ => rfl
  | j + 1, h => by rw [hit_no (h j (by omega)), hit_none fun i hi => h i (by omega)]
theorem hit_some {n : Nat} {A T : Nat → Int} (hk : Ok n A T) {E : Int} {j : Nat} (hj : j < n) (h : A j = E) : ∀ {m : Nat}, j < m → m ≤ n → hit A E m = 1
  | 0, hm, _ => by omega
  | m + 1, hm, hn => by
    by_cases e : j = m
    · subst e; rw [hit_yes h, hit_first hk hj h]; rfl
    · rw [hit_no (by have := hk.mono (i := j) (j := m) (by omega) (by omega); omega), hit_some hk hj h (m := m) (by omega) (by omega)]
theorem hit_bd {n : Nat} {A T : Nat → Int} (hk : Ok n A T) (E : Int) : ∀ {j : Nat}, j ≤ n → hit A E j = 0 ∨ hit A E j = 1
  | 0, _ => .inl rfl
  | j + 1, h => by
    by_cases e : A j = E
    · right; rw [hit_yes e, hit_first hk (by omega) e]; rfl
    · rw [hit_no e]; exact hit_bd hk E (by omega)
/-- No step lies within a minute, or within a day. -/
theorem tot_gap {n : Nat} {A T : Nat → Int} (hk : Ok n A T) {f E : Int} {q : Int} (hf : f % 60 = 0) (hE : E = f + 60) (_ : q = 0) : tot A (E - 1) n = tot A f n := by
  refine tot_congr fun i hi => ?_
  have := hk.day i hi
  omega
theorem tot_gap_day {n : Nat} {A T : Nat → Int} (hk : Ok n A T) {f E : Int} (hf : f % 86400 = 0) (hE : E = f + 86400) : tot A (E - 1) n = tot A f n := by
  refine tot_congr fun i hi => ?_
  have := hk.day i hi
  omega

end Go.Proofs.Ytplgladflhglaaa.M
