/- Plain laws of the texts of dates: a text is read back; texts have the order of the dates. -/
import Derived.Test.YtplgladflhglaaaParseM
import Derived.Test.YtplgladflhglaaaCivM2
import Derived.Laws.Strings
namespace Go.Proofs.Ytplgladflhglaaa.M
set_option linter.unusedVariables false
set_option linter.unusedSimpArgs false

theorem ch_str (l : List Int) (i : Nat) (hi : i < l.length) (h0 : 0 ≤ l.getD i 0) (h1 : l.getD i 0 ≤ 255) : ch (strOfNums l) i = l.getD i 0 := by
  unfold ch
  rw [strOfNums_data]
  rw [List.getD_eq_getElem?_getD, List.getElem?_map]
  rw [List.getD_eq_getElem?_getD] at *
  rw [List.getElem?_eq_getElem hi] at *
  simp at *
  omega

theorem dg4 (n : Nat) : dg 4 n = [48 + ((n / 10 / 10 / 10 : Nat) : Int) % 10, 48 + ((n / 10 / 10 : Nat) : Int) % 10, 48 + ((n / 10 : Nat) : Int) % 10, 48 + (n : Int) % 10] := rfl
theorem dg2 (n : Nat) : dg 2 n = [48 + ((n / 10 : Nat) : Int) % 10, 48 + (n : Int) % 10] := rfl
theorem prs_text {y m d : Int} (h : vld y m d = true) : prs (strOfNums (dtext y m d)) = ((y, m, d), 0) := by
  obtain ⟨b1, b2, b3, b4, b5, b6⟩ := vld_bd h
  obtain ⟨Y, rfl⟩ := Int.eq_ofNat_of_zero_le (show 0 ≤ y by omega)
  obtain ⟨M, rfl⟩ := Int.eq_ofNat_of_zero_le (show 0 ≤ m by omega)
  obtain ⟨D, rfl⟩ := Int.eq_ofNat_of_zero_le (show 0 ≤ d by omega)
  have e : dtext Y M D = [48 + ((Y / 10 / 10 / 10 : Nat) : Int) % 10, 48 + ((Y / 10 / 10 : Nat) : Int) % 10, 48 + ((Y / 10 : Nat) : Int) % 10, 48 + (Y : Int) % 10, 45, 48 + ((M / 10 : Nat) : Int) % 10, 48 + (M : Int) % 10, 45, 48 + ((D / 10 : Nat) : Int) % 10, 48 + (D : Int) % 10] := by
    rw [dtext_t h, dg4, dg2, dg2]; rfl
  have c : ∀ i, i < 10 → ch (strOfNums (dtext Y M D)) i = (dtext Y M D).getD i 0 := by
    intro i hi
    have hb : 0 ≤ (dtext Y M D).getD i 0 ∧ (dtext Y M D).getD i 0 ≤ 255 := by
      rw [e]
      have : i = 0 ∨ i = 1 ∨ i = 2 ∨ i = 3 ∨ i = 4 ∨ i = 5 ∨ i = 6 ∨ i = 7 ∨ i = 8 ∨ i = 9 := by omega
      rcases this with rfl | rfl | rfl | rfl | rfl | rfl | rfl | rfl | rfl | rfl <;> simp <;> omega
    exact ch_str _ i (by rw [e]; exact hi) hb.1 hb.2
  have hsz : (strOfNums (dtext Y M D)).size = 10 := by rw [strOfNums_size, e]; rfl
  generalize dtext Y M D = l at *
  generalize strOfNums l = s at *
  subst e
  have c0 := c 0 (by omega); have c1 := c 1 (by omega); have c2 := c 2 (by omega); have c3 := c 3 (by omega); have c4 := c 4 (by omega)
  have c5 := c 5 (by omega); have c6 := c 6 (by omega); have c7 := c 7 (by omega); have c8 := c 8 (by omega); have c9 := c 9 (by omega)
  simp at c0 c1 c2 c3 c4 c5 c6 c7 c8 c9
  have hf : form s = true := by
    refine form_t ⟨hsz, fun i hi => ?_⟩
    have : i = 0 ∨ i = 1 ∨ i = 2 ∨ i = 3 ∨ i = 4 ∨ i = 5 ∨ i = 6 ∨ i = 7 ∨ i = 8 ∨ i = 9 := by omega
    rcases this with rfl | rfl | rfl | rfl | rfl | rfl | rfl | rfl | rfl | rfl <;> simp [okAt] <;> omega
  have e0 : pn s 0 4 = (Y : Int) := by simp only [pn, Nat.reduceAdd]; omega
  have e1 : pn s 5 2 = (M : Int) := by simp only [pn, Nat.reduceAdd]; omega
  have e2 : pn s 8 2 = (D : Int) := by simp only [pn, Nat.reduceAdd]; omega
  have hr := prs_0 (s := s) hf (by rw [e0, e1, e2]; exact h)
  rw [e0, e1, e2] at hr; exact hr

/-! ### The order of texts. -/
def lexlt : List Int → List Int → Bool
  | _, [] => false
  | [], _ :: _ => true
  | a :: x, b :: y => decide (a < b) || (decide (a = b) && lexlt x y)
theorem bytesLess_str : ∀ (l k : List Int), (∀ c ∈ l, 0 ≤ c ∧ c ≤ 255) → (∀ c ∈ k, 0 ≤ c ∧ c ≤ 255) →
    Op.bytesLess (l.map fun n => UInt8.ofNat n.toNat) (k.map fun n => UInt8.ofNat n.toNat) = lexlt l k
  | l, [], _, _ => by cases l <;> rfl
  | [], _ :: _, _, _ => rfl
  | a :: l, b :: k, h1, h2 => by
    have ha := h1 a (by simp)
    have hb := h2 b (by simp)
    have ih := bytesLess_str l k (fun c hc => h1 c (by simp [hc])) (fun c hc => h2 c (by simp [hc]))
    simp only [List.map_cons, Op.bytesLess, lexlt, ih]
    have e1 : (UInt8.ofNat a.toNat < UInt8.ofNat b.toNat) ↔ a < b := by
      rw [UInt8.lt_iff_toNat_lt]; simp; omega
    have e2 : (UInt8.ofNat a.toNat == UInt8.ofNat b.toNat) = decide (a = b) := by
      rw [Bool.eq_iff_iff]; simp [← UInt8.toNat_inj]; omega
    simp [e1, e2]
theorem lexlt_append : ∀ (a a' b b' : List Int), a.length = a'.length → lexlt (a ++ b) (a' ++ b') = (lexlt a a' || (decide (a = a') && lexlt b b'))
  | [], [], b, b', _ => by simp [lexlt]
  | x :: a, y :: a', b, b', h => by
    have ih := lexlt_append a a' b b' (by simpa using h)
    simp only [List.cons_append, lexlt, ih]
    by_cases hxy : x = y <;> by_cases h2 : x < y <;> simp [hxy, h2]
theorem lexlt_irrefl (a : List Int) : lexlt a a = false := by induction a with | nil => rfl | cons x a ih => simp [lexlt, ih]
theorem dg_inj : ∀ (k n n' : Nat), n < 10 ^ k → n' < 10 ^ k → (dg k n = dg k n' ↔ n = n')
  | 0, n, n', h, h' => by simp at h h'; simp [dg, h, h']
  | k + 1, n, n', h, h' => by
    have ih := dg_inj k (n / 10) (n' / 10) (by rw [Nat.pow_succ, Nat.mul_comm] at h; exact Nat.div_lt_of_lt_mul h) (by rw [Nat.pow_succ, Nat.mul_comm] at h'; exact Nat.div_lt_of_lt_mul h')
    constructor
    · intro e
      rw [dg, dg] at e
      have := List.append_inj e (by rw [dg_len, dg_len])
      have h1 := ih.1 this.1
      have h2 := this.2
      simp at h2
      omega
    · rintro rfl; rfl
theorem dg_lt : ∀ (k n n' : Nat), n < 10 ^ k → n' < 10 ^ k → lexlt (dg k n) (dg k n') = decide (n < n')
  | 0, n, n', h, h' => by simp at h h'; simp [dg, h, h', lexlt]
  | k + 1, n, n', h, h' => by
    have hk : n / 10 < 10 ^ k := by rw [Nat.pow_succ, Nat.mul_comm] at h; exact Nat.div_lt_of_lt_mul h
    have hk' : n' / 10 < 10 ^ k := by rw [Nat.pow_succ, Nat.mul_comm] at h'; exact Nat.div_lt_of_lt_mul h'
    have ih := dg_lt k (n / 10) (n' / 10) hk hk'
    have ij := dg_inj k (n / 10) (n' / 10) hk hk'
    rw [dg, dg, lexlt_append _ _ _ _ (by rw [dg_len, dg_len]), ih]
    simp only [ij, lexlt]
    rw [Bool.eq_iff_iff]
    simp
    omega
theorem dg_bd : ∀ (k n : Nat), ∀ c ∈ dg k n, 0 ≤ c ∧ c ≤ 255
  | 0, _, c, h => by simp [dg] at h
  | k + 1, n, c, h => by
    rw [dg, List.mem_append] at h
    rcases h with h | h
    · exact dg_bd k _ c h
    · simp at h; omega
theorem text_lt {y m d y' m' d' : Int} (h : vld y m d = true) (h' : vld y' m' d' = true) :
    Op.bytesLess (strOfNums (dtext y m d)).toList (strOfNums (dtext y' m' d')).toList = @decide (bef y m d y' m' d') (Classical.propDecidable _) := by
  obtain ⟨b1, b2, b3, b4, b5, b6⟩ := vld_bd h
  obtain ⟨c1, c2, c3, c4, c5, c6⟩ := vld_bd h'
  have hb : ∀ {y m d : Int}, vld y m d = true → ∀ c ∈ dtext y m d, 0 ≤ c ∧ c ≤ 255 := fun {y m d} hv c hc => by
    rw [dtext_t hv] at hc
    simp only [List.mem_append, List.mem_cons] at hc
    rcases hc with hc | rfl | hc | rfl | hc
    · exact dg_bd _ _ c hc
    · omega
    · exact dg_bd _ _ c hc
    · omega
    · exact dg_bd _ _ c hc
  rw [ByteArray.toList_eq, ByteArray.toList_eq, strOfNums_data, strOfNums_data, bytesLess_str _ _ (hb h) (hb h'), dtext_t h, dtext_t h']
  rw [lexlt_append _ _ _ _ (by rw [dg_len, dg_len]), dg_lt 4 _ _ (by show _ < 10000; omega) (by show _ < 10000; omega)]
  simp only [lexlt, Int.lt_irrefl, decide_false, decide_true, Bool.false_or, Bool.true_and]
  rw [lexlt_append _ _ _ _ (by rw [dg_len, dg_len]), dg_lt 2 _ _ (by show _ < 100; omega) (by show _ < 100; omega)]
  simp only [lexlt, Int.lt_irrefl, decide_false, decide_true, Bool.false_or, Bool.true_and]
  rw [dg_lt 2 _ _ (by show _ < 100; omega) (by show _ < 100; omega)]
  simp only [dg_inj 4 y.toNat y'.toNat (by show _ < 10000; omega) (by show _ < 10000; omega), dg_inj 2 m.toNat m'.toNat (by show _ < 100; omega) (by show _ < 100; omega)]
  rw [Bool.eq_iff_iff]
  simp only [decide_eq_true_eq, Bool.or_eq_true, Bool.and_eq_true]
  unfold bef
  omega

end Go.Proofs.Ytplgladflhglaaa.M
