/- Plain mathematics of decimal texts: no program in sight. -/
namespace Go.Proofs.Ytplgladflhglaaa.M
set_option linter.unusedVariables false
set_option linter.unusedSimpArgs false

/-- The codes of the digits of m, at least k of them; the first argument bounds their number. -/
def digs : Nat → Nat → Nat → List Int
  | 0, _, _ => []
  | f + 1, m, k => if m = 0 ∧ k = 0 then [] else digs f (m / 10) (k - 1) ++ [48 + (m : Int) % 10]
def txt (n k : Int) : List Int := if k < 0 ∨ 20 < k then [] else (if n < 0 then [45] else []) ++ digs 20 n.natAbs (max k 1).toNat

theorem digs_nil (f : Nat) : digs f 0 0 = [] := by cases f <;> simp [digs]
theorem digs_step {f m k : Nat} (h : ¬ (m = 0 ∧ k = 0)) : digs (f + 1) m k = digs f (m / 10) (k - 1) ++ [48 + (m : Int) % 10] := by simp only [digs, if_neg h]
theorem digs_bd : ∀ (f m k : Nat), ∀ c ∈ digs f m k, 48 ≤ c ∧ c ≤ 57
  | 0, _, _, c, h => by simp [digs] at h
  | f + 1, m, k, c, h => by
    by_cases hc : m = 0 ∧ k = 0
    · simp [digs, hc] at h
    · rw [digs_step hc, List.mem_append] at h
      rcases h with h | h
      · exact digs_bd f _ _ c h
      · simp at h; omega
theorem digs_len : ∀ (f m k : Nat), (digs f m k).length ≤ f
  | 0, _, _ => by simp [digs]
  | f + 1, m, k => by
    by_cases hc : m = 0 ∧ k = 0
    · simp [digs, hc]
    · rw [digs_step hc]; have := digs_len f (m / 10) (k - 1); simp; omega
theorem txt_bad {n k : Int} (h : k < 0 ∨ 20 < k) : txt n k = [] := by simp only [txt, if_pos h]
theorem txt_neg {n k : Int} (h : ¬ (k < 0 ∨ 20 < k)) (hn : n < 0) : txt n k = 45 :: digs 20 n.natAbs (max k 1).toNat := by simp only [txt, if_neg h, if_pos hn]; rfl
theorem txt_pos {n k : Int} (h : ¬ (k < 0 ∨ 20 < k)) (hn : ¬ n < 0) : txt n k = digs 20 n.natAbs (max k 1).toNat := by simp only [txt, if_neg h, if_neg hn]; rfl

end Go.Proofs.Ytplgladflhglaaa.M
