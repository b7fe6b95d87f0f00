/- Plain law: a table is read back from its text. -/
import Derived.Test.YtplgladflhglaaaLeapB2
import Derived.Test.YtplgladflhglaaaTextM3
namespace Go.Proofs.Ytplgladflhglaaa.Lp
set_option linter.unusedVariables false
set_option linter.unusedSimpArgs false
open Go.RowKit

/-- The texts of the steps. -/
noncomputable def lts (A : Nat → Int) (n : Nat) : List ByteArray := (List.range n).map fun i => strOfNums (dtl (A i / 86400 - 1))
theorem ltx_split (A : Nat → Int) {j : Nat} : ∀ {n : Nat}, j < n → ∃ r, ltx A n = ltx A j ++ (dtl (A j / 86400 - 1) ++ (10 :: r))
  | 0, h => by omega
  | n + 1, h => by
    by_cases e : j = n
    · subst e; exact ⟨[], rfl⟩
    · obtain ⟨r, hr⟩ := ltx_split A (j := j) (n := n) (by omega)
      exact ⟨r ++ (dtl (A n / 86400 - 1) ++ [10]), by rw [ltx, hr]; simp⟩
theorem form_of_prs {u : ByteArray} {p : Int × Int × Int} (h : M.prs u = (p, 0)) : M.form u = true := by
  rcases hf : M.form u with _ | _
  · rw [M.prs_3 hf] at h; cases h
  · rfl
theorem form_no {u : ByteArray} (h : M.form u = true) {i : Nat} (hi : i < 10) : M.ch u i ≠ 10 := by
  have := (M.form_iff.1 h).2 i hi
  by_cases e : i = 4 ∨ i = 7
  · rw [M.okAt_dash e] at this; omega
  · rw [M.okAt_dig e] at this; omega
/-- What lies at the j-th line. -/
theorem line_at {n : Nat} {A T : Nat → Int} (h : M.Ok n A T) {j : Nat} (hj : j < n) {s u : ByteArray} (hs : strOfNums (ltx A n) = s) (hu : strOfNums (dtl (A j / 86400 - 1)) = u) :
    s.extract (11 * j) (11 * j + 10) = u ∧ M.ch s (11 * j + 10) = 10 ∧ (∀ k, 11 * j ≤ k → k < 11 * j + 10 → M.ch s k ≠ 10) := by
  obtain ⟨y, m, d, D, hA, hv, hc, ht, hdt, D1, D2⟩ := ok_date h hj
  obtain ⟨r, hr⟩ := ltx_split A hj
  have hlen := ltx_len h (j := j) (by omega)
  have hdl : (dtl (A j / 86400 - 1)).length = 10 := by rw [ht, dtext_len hv]
  have hf : M.form u = true := form_of_prs (p := (y, m, d)) (by rw [← hu, ht]; exact M.prs_text hv)
  obtain ⟨P, hP⟩ : ∃ P, (ltx A j).map (fun n : Int => UInt8.ofNat n.toNat) = P := ⟨_, rfl⟩
  obtain ⟨Rr, hRr⟩ : ∃ R, r.map (fun n : Int => UInt8.ofNat n.toNat) = R := ⟨_, rfl⟩
  have ub : u.data.toList = (dtl (A j / 86400 - 1)).map (fun n : Int => UInt8.ofNat n.toNat) := by rw [← hu, strOfNums_data]
  have ul : u.data.toList.length = 10 := by rw [ub, List.length_map, hdl]
  have sb : s.data.toList = P ++ (u.data.toList ++ (10 :: Rr)) := by
    rw [← hs, strOfNums_data, hr, ub, ← hP, ← hRr]; simp
  have pl : P.length = 11 * j := by rw [← hP, List.length_map, hlen]
  have hch : ∀ i, i < 10 → M.ch s (11 * j + i) = M.ch u i := fun i hi => by
    unfold M.ch
    rw [sb, List.getD_eq_getElem?_getD, List.getElem?_append_right (by omega), pl, Nat.add_sub_cancel_left, List.getElem?_append_left (by omega), List.getD_eq_getElem?_getD]
  refine ⟨ba_ext ?_, ?_, fun k k1 k2 => ?_⟩
  · rw [ext_list, sb, ← pl, List.drop_left', Nat.add_sub_cancel_left, ← ul, List.take_left']
    · rfl
    · rfl
  · unfold M.ch
    rw [sb, List.getD_eq_getElem?_getD, List.getElem?_append_right (by omega), pl, Nat.add_sub_cancel_left, List.getElem?_append_right (by omega), ul]
    rfl
  · obtain ⟨i, rfl⟩ : ∃ i, k = 11 * j + i := ⟨k - 11 * j, by omega⟩
    rw [hch i (by omega)]
    exact form_no hf (by omega)
theorem cts_ltx {n : Nat} {A T : Nat → Int} (h : M.Ok n A T) {s : ByteArray} (hs : strOfNums (ltx A n) = s) (k : Nat) : ∀ {j : Nat}, j + k = n → cts s.size (s.extract (11 * j) s.size) = ((lts A n).drop j, false) := by
  have sz : s.size = 11 * n := by rw [← hs, strOfNums_size, ltx_len h (Nat.le_refl _)]
  induction k with
  | zero =>
    intro j hj
    obtain rfl : j = n := by omega
    rw [cts_nil _ (by simp [ByteArray.size_extract]; omega)]
    simp [lts]
  | succ k ih =>
    intro j hj
    obtain ⟨u, hu⟩ : ∃ u, strOfNums (dtl (A j / 86400 - 1)) = u := ⟨_, rfl⟩
    obtain ⟨e1, e2, e3⟩ := line_at h (j := j) (by omega) hs hu
    rw [cts_end (F := 11 * j) (I := 11 * j + 10) (by omega) (by omega) e2 e3, e1, show 11 * j + 10 + 1 = 11 * (j + 1) by omega, ih (j := j + 1) (by omega)]
    have hlt : j < (lts A n).length := by simp [lts]; omega
    rw [List.drop_eq_getElem_cons hlt]
    have : (lts A n)[j] = u := by simp [lts, hu]
    rw [this]
theorem dl_text {n : Nat} {A T : Nat → Int} (h : M.Ok n A T) {j : Nat} (hj : j < n) : (M.dl (strOfNums (dtl (A j / 86400 - 1)))).2 = true ∧ ((M.dl (strOfNums (dtl (A j / 86400 - 1)))).1 + 1) * 86400 = A j := by
  obtain ⟨y, m, d, D, hA, hv, hc, ht, hdt, D1, D2⟩ := ok_date h hj
  obtain ⟨u, hu⟩ : ∃ u, strOfNums (dtl (A j / 86400 - 1)) = u := ⟨_, rfl⟩
  have hp : M.prs u = ((y, m, d), 0) := by rw [← hu, ht]; exact M.prs_text hv
  rw [hu]
  have h2 : (M.dl u).2 = true := by
    rcases hb : (M.dl u).2 with _ | _
    · have := prs_dl_f hb; rw [hp] at this; simp at this
    · rfl
  have h1 := (prs_dl_t h2).2
  rw [hp] at h1
  refine ⟨h2, ?_⟩
  rw [← h1, M.dy_t hv, hc, hA]
theorem stA_lts {n : Nat} {A T : Nat → Int} (h : M.Ok n A T) {j : Nat} (hj : j < n) : stA (lts A n) j = A j := by
  unfold stA day
  have : ((lts A n).map fun c => (M.dl c).1).getD j 0 = (M.dl (strOfNums (dtl (A j / 86400 - 1)))).1 := by
    simp [lts, List.getD_eq_getElem?_getD, List.getElem?_range hj]
  rw [this]
  exact (dl_text h hj).2
/-- The text of a table is parsed to it. -/
theorem lpz_ltx {n : Nat} {A T : Nat → Int} (h : M.Ok n A T) : lpz (strOfNums (ltx A n)) = (lts A n, 0) ∧ (lts A n).length = n ∧ ∀ i, i < n → stA (lts A n) i = A i ∧ stT i = T i := by
  obtain ⟨s, hs⟩ : ∃ s, strOfNums (ltx A n) = s := ⟨_, rfl⟩
  have sz : s.size = 11 * n := by rw [← hs, strOfNums_size, ltx_len h (Nat.le_refl _)]
  have hn := h.n100
  have hl : (lts A n).length = n := by simp [lts]
  have heq : ∀ i, i < n → stA (lts A n) i = A i ∧ stT i = T i := fun i hi => ⟨stA_lts h hi, (h.tt i hi).symm⟩
  have hc : cts s.size s = (lts A n, false) := by
    have := cts_ltx h hs n (j := 0) (by omega)
    rw [Nat.mul_zero, show s.extract 0 s.size = s by simp] at this
    simpa using this
  refine ⟨?_, hl, heq⟩
  rw [hs]
  refine lpz_0 (by omega) hc (fun c hc => ?_) ?_
  · simp only [lts, List.mem_map, List.mem_range] at hc
    obtain ⟨i, hi, rfl⟩ := hc
    exact (dl_text h hi).1
  · rw [hl]
    refine M.okb_t ⟨hn, fun i hi => ?_, fun i hi => ?_, fun i hi => ?_, fun i hi => rfl, fun i hi => ?_⟩
    · rw [(heq i hi).1]; exact h.lo i hi
    · rw [(heq i hi).1]; exact h.hi i hi
    · rw [(heq i hi).1]; exact h.day i hi
    · rw [(heq i (by omega)).1, (heq (i + 1) hi).1]; exact h.inc i hi

end Go.Proofs.Ytplgladflhglaaa.Lp
