/- Plain laws of atomic times: each instant is that of its atomic time. -/
import Derived.Test.YtplgladflhglaaaLeapM
namespace Go.Proofs.Ytplgladflhglaaa.M
set_option linter.unusedVariables false
set_option linter.unusedSimpArgs false

theorem tot_mono {A : Nat → Int} {x y : Int} (h : x ≤ y) : ∀ n : Nat, tot A x n ≤ tot A y n
  | 0 => Int.le_refl _
  | n + 1 => by
    have ih := tot_mono (A := A) h n
    by_cases h1 : A n ≤ x
    · rw [tot_le h1, tot_le (show A n ≤ y by omega)]; omega
    · rw [tot_gt (show x < A n by omega)]
      by_cases h2 : A n ≤ y
      · rw [tot_le h2]; omega
      · rw [tot_gt (by omega)]; exact ih
theorem back1 {n : Nat} {A T : Nat → Int} (h : Ok n A T) {x : Int} (h1 : -62135596800 ≤ x) (h2 : x < 253402300800) : civ n A (x + tot A x n) = ((x, false), 0) := by
  obtain ⟨k, k1, k2, k3, k4⟩ := tot_split (A := A) (x := x) (n := n) (fun i j => h.mono (i := i) (j := j))
  rw [k2]
  have e1 : tot (at_ A) (x + k) n = k := tot_eq k1 (fun i hi => by have := k3 i hi; unfold at_; omega) (fun i a b => by have := k4 i a b; unfold at_; omega)
  have e2 : tot (at_ A) (x + k - 1) n = k := tot_eq k1 (fun i hi => by have := k3 i hi; unfold at_; omega) (fun i a b => by have := k4 i a b; unfold at_; omega)
  simp only [civ]
  rw [if_neg (by omega), if_pos (by rw [e1, e2]), e1]
  congr 2; omega
theorem back2 {n : Nat} {A T : Nat → Int} (h : Ok n A T) {y : Int} (hr : ¬ (y < -62135596800 ∨ 253402300800 + (n : Int) ≤ y)) :
    ∃ (c : Int) (i : Bool), civ n A y = ((c, i), 0) ∧ -62135596800 ≤ c ∧ c < 253402300800 ∧ ((i = true ∧ c + tot A c n = y + 1) ∨ (i = false ∧ c + tot A c n = y)) := by
  obtain ⟨k, k1, k3, k4, hc⟩ := civ_cases h hr
  rcases hc with ⟨c1, c2, c3⟩ | ⟨c1, c2⟩
  · have e : tot A (A k) n = ((k + 1 : Nat) : Int) := tot_eq (by omega) (fun i hi => by
      by_cases e : i = k
      · subst e; omega
      · have := h.mono (i := i) (j := k) (by omega) c1; omega) (fun i a b => h.mono (i := k) (j := i) (by omega) b)
    exact ⟨_, _, c3, by have := h.lo k c1; omega, h.hi k c1, .inl ⟨rfl, by rw [e]; omega⟩⟩
  · have lo : ∀ i, i < k → A i ≤ y - k := fun i hi => by
      have hk := k3 (k - 1) (by omega)
      by_cases e : i = k - 1
      · subst e; omega
      · have := h.mono (i := i) (j := k - 1) (by omega) (by omega); omega
    have up : ∀ i, k ≤ i → i < n → y - k < A i := fun i a b => by
      have := c1 (by omega)
      by_cases e : i = k
      · subst e; omega
      · have := h.mono (i := k) (j := i) (by omega) b; omega
    have e : tot A (y - k) n = k := tot_eq k1 lo up
    refine ⟨_, _, c2, ?_, ?_, .inr ⟨rfl, by rw [e]; omega⟩⟩
    · rcases Nat.eq_zero_or_pos k with h0 | h0
      · omega
      · have := lo 0 h0
        have := h.lo 0 (by omega)
        omega
    · rcases Nat.lt_or_ge k n with h0 | h0
      · have := up k (Nat.le_refl _) h0
        have := h.hi k h0
        omega
      · omega

end Go.Proofs.Ytplgladflhglaaa.M
