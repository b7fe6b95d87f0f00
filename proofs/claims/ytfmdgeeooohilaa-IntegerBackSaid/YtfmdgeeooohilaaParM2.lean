/- Plain laws of parsing: the text of an integer is read back. -/
import Derived.Test.YtfmdgeeooohilaaParM
namespace Go.Proofs.Ytfmdgeeooohilaa.M
set_option linter.unusedVariables false
set_option linter.unusedSimpArgs false

theorem ps_parts (s : ByteArray) (hb : ¬ 30 < s.size) : ∃ (t : ByteArray) (lim sg : Int), t.size ≤ 30 ∧
    ((0 < s.size ∧ ch s 0 = 45 ∧ s.extract 1 s.size = t ∧ sg = -1 ∧ lim = 9223372036854775808) ∨ (0 < s.size ∧ ch s 0 ≠ 45 ∧ s = t ∧ sg = 1 ∧ lim = 9223372036854775807) ∨ (s.size = 0 ∧ s = t)) ∧
    (t.size = 0 ∨ ¬ digsTo t t.size → ps s = (0, 3)) ∧ (t.size ≠ 0 → digsTo t t.size → pn t t.size ≤ lim → ps s = (sg * pn t t.size, 0)) ∧ (t.size ≠ 0 → digsTo t t.size → lim < pn t t.size → ps s = (0, 9)) := by
  by_cases h45 : 0 < s.size ∧ ch s 0 = 45
  · refine ⟨s.extract 1 s.size, 9223372036854775808, -1, by simp [ByteArray.size_extract]; omega, .inl ⟨h45.1, h45.2, rfl, rfl, rfl⟩, fun h => ?_, fun h0 h1 h2 => ?_, fun h0 h1 h2 => ?_⟩
    · rw [ps_neg hb h45]; exact pd_form h
    · rw [ps_neg hb h45, Int.neg_one_mul]; exact pd_neg h0 h1 h2
    · rw [ps_neg hb h45]; exact pd_big h0 h1 (.inl ⟨rfl, h2⟩)
  · refine ⟨s, 9223372036854775807, 1, by omega, ?_, fun h => ?_, fun h0 h1 h2 => ?_, fun h0 h1 h2 => ?_⟩
    · rcases Nat.eq_zero_or_pos s.size with h | h
      · exact .inr (.inr ⟨h, rfl⟩)
      · exact .inr (.inl ⟨h, fun h' => h45 ⟨h, h'⟩, rfl, rfl, rfl⟩)
    · rw [ps_pos hb h45]; exact pd_form h
    · rw [ps_pos hb h45, Int.one_mul]; exact pd_pos h0 h1 h2
    · rw [ps_pos hb h45]; exact pd_big h0 h1 (.inr ⟨rfl, h2⟩)

/-- The number of a list of digits. -/
def vl (D : List Int) : Int := D.foldl (fun a c => 10 * a + (c - 48)) 0
theorem vl_snoc (D : List Int) (c : Int) : vl (D ++ [c]) = 10 * vl D + (c - 48) := by simp [vl]
theorem vl_digs : ∀ (f m K : Nat), m < 10 ^ f → vl (digs f m K) = m
  | 0, m, K, h => by obtain rfl : m = 0 := by simpa using h
                     rfl
  | f + 1, m, K, h => by
    by_cases hc : m = 0 ∧ K = 0
    · obtain ⟨rfl, rfl⟩ := hc; rw [digs_nil]; rfl
    · have hm : m / 10 < 10 ^ f := by rw [Nat.pow_succ, Nat.mul_comm] at h; exact Nat.div_lt_of_lt_mul h
      rw [digs_step hc, vl_snoc, vl_digs f _ _ hm]; omega
theorem pn_vl {t : ByteArray} {D : List Int} (h : ∀ i, i < D.length → ch t i = D.getD i 0) : ∀ k, k ≤ D.length → pn t k = vl (D.take k)
  | 0, _ => rfl
  | k + 1, hk => by
    have hk' : k < D.length := by omega
    rw [pn, pn_vl h k (by omega), h k hk', List.take_add_one, List.getD_eq_getElem?_getD, List.getElem?_eq_getElem hk']
    exact (vl_snoc _ _).symm
theorem digs_ge : ∀ (f m K : Nat), K ≤ f → K ≤ (digs f m K).length
  | 0, m, K, h => by omega
  | f + 1, m, K, h => by
    by_cases hc : m = 0 ∧ K = 0
    · omega
    · have := digs_ge f (m / 10) (K - 1) (by omega)
      rw [digs_step hc]; simp; omega

/-- A text of 20 digits at most is read back. -/
theorem ps_txt {n k : Int} (h1 : -9223372036854775808 ≤ n) (h2 : n ≤ 9223372036854775807) (h3 : 0 ≤ k) (h4 : k ≤ 20) :
    ps (strOfNums (txt n k)) = (n, 0) ∧ (strOfNums (txt n k)).size ≤ 21 ∧
    ((n < 0 ∧ ch (strOfNums (txt n k)) 0 = 45 ∧ k + 1 ≤ (strOfNums (txt n k)).size ∧ 2 ≤ (strOfNums (txt n k)).size) ∨ (0 ≤ n ∧ k ≤ (strOfNums (txt n k)).size ∧ 1 ≤ (strOfNums (txt n k)).size)) := by
  have hk : ¬ (k < 0 ∨ 20 < k) := by omega
  have hsm : n.natAbs < 10 ^ 20 := by omega
  have hge := digs_ge 20 n.natAbs (max k 1).toNat (by omega)
  have hle := digs_len 20 n.natAbs (max k 1).toNat
  have hv := vl_digs 20 n.natAbs (max k 1).toNat hsm
  have hbd := digs_bd 20 n.natAbs (max k 1).toNat
  rcases Int.lt_or_le n 0 with hn | hn
  · rw [txt_neg hk hn]
    obtain ⟨D, hD⟩ : ∃ D, digs 20 n.natAbs (max k 1).toNat = D := ⟨_, rfl⟩
    rw [hD] at hge hle hv hbd ⊢
    have gb : ∀ i, i < D.length → 48 ≤ D.getD i 0 ∧ D.getD i 0 ≤ 57 := fun i hi => by
      rw [List.getD_eq_getElem?_getD, List.getElem?_eq_getElem hi]; exact hbd _ (List.getElem_mem hi)
    have hsz : (strOfNums (45 :: D)).size = D.length + 1 := by rw [strOfNums_size]; rfl
    have c0 : ch (strOfNums (45 :: D)) 0 = 45 := ch_str _ 0 (by simp) (by simp) (by simp)
    have ci : ∀ i, i < D.length → ch (strOfNums (45 :: D)) (1 + i) = D.getD i 0 := fun i hi => by
      have e : (45 :: D).getD (1 + i) 0 = D.getD i 0 := by rw [Nat.add_comm]; rfl
      rw [ch_str _ _ (by simp; omega) (by rw [e]; have := gb i hi; omega) (by rw [e]; have := gb i hi; omega), e]
    obtain ⟨s, hs⟩ : ∃ s, strOfNums (45 :: D) = s := ⟨_, rfl⟩
    rw [hs] at hsz c0 ci ⊢
    have es : (s.extract 1 s.size).size = D.length := by simp [ByteArray.size_extract]; omega
    have ei : ∀ i, i < D.length → ch (s.extract 1 s.size) i = D.getD i 0 := fun i hi => by rw [ch_extract _ _ _ _ (Nat.le_refl _) (by omega)]; exact ci i hi
    have hp := pn_vl ei D.length (Nat.le_refl _)
    rw [List.take_length, hv] at hp
    have hd : digsTo (s.extract 1 s.size) (s.extract 1 s.size).size := fun i hi => by unfold isDig; rw [ei i (by omega)]; exact gb i (by omega)
    refine ⟨?_, by omega, .inl ⟨hn, c0, by omega, by omega⟩⟩
    rw [ps_neg (by omega) ⟨by omega, c0⟩, pd_neg (by omega) hd (by rw [es, hp]; omega), es, hp]
    congr 1; omega
  · rw [txt_pos hk (by omega)]
    obtain ⟨D, hD⟩ : ∃ D, digs 20 n.natAbs (max k 1).toNat = D := ⟨_, rfl⟩
    rw [hD] at hge hle hv hbd ⊢
    have gb : ∀ i, i < D.length → 48 ≤ D.getD i 0 ∧ D.getD i 0 ≤ 57 := fun i hi => by
      rw [List.getD_eq_getElem?_getD, List.getElem?_eq_getElem hi]; exact hbd _ (List.getElem_mem hi)
    have hsz : (strOfNums D).size = D.length := strOfNums_size _
    have ci : ∀ i, i < D.length → ch (strOfNums D) i = D.getD i 0 := fun i hi => by
      rw [ch_str _ _ hi (by have := gb i hi; omega) (by have := gb i hi; omega)]
    obtain ⟨s, hs⟩ : ∃ s, strOfNums D = s := ⟨_, rfl⟩
    rw [hs] at hsz ci ⊢
    have hp := pn_vl ci D.length (Nat.le_refl _)
    rw [List.take_length, hv] at hp
    have hd : digsTo s s.size := fun i hi => by unfold isDig; rw [ci i (by omega)]; exact gb i (by omega)
    refine ⟨?_, by omega, .inr ⟨hn, by omega, by omega⟩⟩
    rw [ps_pos (by omega) (fun h => by have := ci 0 (by omega); have := gb 0 (by omega); omega), pd_pos (by omega) hd (by rw [hsz, hp]; omega), hsz, hp]
    congr 1; omega

end Go.Proofs.Ytfmdgeeooohilaa.M
