/- Plain mathematics of texts of tables: lines, days, the cells of a table. -/
import Derived.Test.YtplgladflhglaaaLeapO
import Derived.Test.YtplgladflhglaaaDateW
import Derived.Laws.AppendOwn
import Derived.Lib.IndexLaws
namespace Go.Proofs.Ytplgladflhglaaa.Lp
set_option linter.unusedVariables false
set_option linter.unusedSimpArgs false
open Go.RowKit

/-- The contents of the lines that have an end; and whether something is behind the last end. -/
def cts : Nat → ByteArray → List ByteArray × Bool
  | 0, s => ([], decide (s.size ≠ 0))
  | f + 1, s => if s.size = 0 then ([], false) else if 0 ≤ Lib.indexByte s.data.toList 10 then
      (s.extract 0 (Lib.indexByte s.data.toList 10).toNat :: (cts f (s.extract ((Lib.indexByte s.data.toList 10).toNat + 1) s.size)).1, (cts f (s.extract ((Lib.indexByte s.data.toList 10).toNat + 1) s.size)).2) else ([], true)
theorem cts_nil (f : Nat) {s : ByteArray} (h : s.size = 0) : cts f s = ([], false) := by cases f <;> simp [cts, h]
theorem cts_tail {f : Nat} {s : ByteArray} (h : s.size ≠ 0) (hi : Lib.indexByte s.data.toList 10 < 0) : cts (f + 1) s = ([], true) := by
  simp only [cts, if_neg h, if_neg (show ¬ 0 ≤ Lib.indexByte s.data.toList 10 by omega)]
theorem cts_line {f j : Nat} {s : ByteArray} (h : s.size ≠ 0) (hi : Lib.indexByte s.data.toList 10 = (j : Int)) : cts (f + 1) s = (s.extract 0 j :: (cts f (s.extract (j + 1) s.size)).1, (cts f (s.extract (j + 1) s.size)).2) := by
  simp only [cts, if_neg h]; rw [if_pos (by omega), hi]; rfl
/-- More fuel changes nothing. -/
theorem cts_fuel : ∀ (f g : Nat) (s : ByteArray), s.size ≤ f → s.size ≤ g → cts f s = cts g s
  | 0, g, s, h, _ => by rw [cts_nil 0 (by omega), cts_nil g (by omega)]
  | f + 1, 0, s, _, h => by rw [cts_nil _ (by omega), cts_nil 0 (by omega)]
  | f + 1, g + 1, s, h1, h2 => by
    by_cases h0 : s.size = 0
    · rw [cts_nil _ h0, cts_nil _ h0]
    · by_cases hi : 0 ≤ Lib.indexByte s.data.toList 10
      · obtain ⟨j, hj⟩ := Int.eq_ofNat_of_zero_le hi
        have hb := (ix_bd s.data.toList 10).2
        have hz : (s.extract (j + 1) s.size).size = s.size - (j + 1) := by simp [ByteArray.size_extract]
        rw [cts_line h0 hj, cts_line h0 hj, cts_fuel f g _ (by omega) (by omega)]
      · rw [cts_tail h0 (by omega), cts_tail h0 (by omega)]
/-- The place of the first such byte. -/
theorem ix_first : ∀ (l : List UInt8) (c : UInt8) (o : Nat), l[o]? = some c → (∀ k, k < o → l[k]? ≠ some c) → Lib.indexByte l c = o
  | [], c, o, h, _ => by simp at h
  | b :: l, c, 0, h, _ => by
    have : b = c := by simpa using h
    simp [Lib.indexByte, this]
  | b :: l, c, o + 1, h, hn => by
    have hb : b ≠ c := fun e => hn 0 (by omega) (by simp [e])
    have ih := ix_first l c o (by simpa using h) fun k hk => by have := hn (k + 1) (by omega); simpa using this
    simp only [Lib.indexByte]
    rw [if_neg (by simp [hb]), ih, if_neg (by simp)]
    omega
theorem ix_none : ∀ (l : List UInt8) (c : UInt8), (∀ k : Nat, l[k]? ≠ some c) → Lib.indexByte l c = -1
  | [], c, _ => rfl
  | b :: l, c, hn => by
    have hb : b ≠ c := fun e => hn 0 (by simp [e])
    have ih := ix_none l c fun k => by have := hn (k + 1); simpa using this
    simp only [Lib.indexByte]
    rw [if_neg (by simp [hb]), ih, if_pos (by simp)]

theorem ch_byte (r : ByteArray) (k : Nat) (h : k < r.size) : ∃ x : UInt8, r.data.toList[k]? = some x ∧ (x.toNat : Int) = M.ch r k := by
  have h' : k < r.data.toList.length := by simpa using h
  refine ⟨r.data.toList[k], List.getElem?_eq_getElem h', ?_⟩
  unfold M.ch
  rw [List.getD_eq_getElem?_getD, List.getElem?_eq_getElem h']; rfl
theorem byte_ten {x : UInt8} : x = 10 ↔ (x.toNat : Int) = 10 := by
  constructor
  · rintro rfl; rfl
  · intro h; apply UInt8.toNat_inj.1; show x.toNat = 10; omega
theorem ext_ext (s : ByteArray) (a b c : Nat) (h : a + c ≤ s.size) : (s.extract a s.size).extract b c = s.extract (a + b) (a + c) := by
  rw [ByteArray.extract_extract]; congr 1; omega
/-- Where the first line behind F ends. -/
theorem cts_end {s : ByteArray} {F I : Nat} (h1 : F ≤ I) (h2 : I < s.size) (hc : M.ch s I = 10) (hno : ∀ k, F ≤ k → k < I → M.ch s k ≠ 10) :
    cts s.size (s.extract F s.size) = (s.extract F I :: (cts s.size (s.extract (I + 1) s.size)).1, (cts s.size (s.extract (I + 1) s.size)).2) := by
  have hz : (s.extract F s.size).size = s.size - F := by simp [ByteArray.size_extract]
  have hix : Lib.indexByte (s.extract F s.size).data.toList 10 = ((I - F : Nat) : Int) := by
    refine ix_first _ _ _ ?_ fun k hk => ?_
    · obtain ⟨x, hx, hv⟩ := ch_byte (s.extract F s.size) (I - F) (by omega)
      rw [ch_extract s F s.size (I - F) (Nat.le_refl _) (by omega), show F + (I - F) = I by omega, hc] at hv
      rw [hx, byte_ten.2 hv]
    · obtain ⟨x, hx, hv⟩ := ch_byte (s.extract F s.size) k (by omega)
      rw [ch_extract s F s.size k (Nat.le_refl _) (by omega)] at hv
      rw [hx]
      intro e
      have e' : x = 10 := by simpa using e
      exact hno (F + k) (by omega) (by omega) (by rw [← hv]; exact byte_ten.1 e')
  obtain ⟨f, hf⟩ : ∃ f, s.size = f + 1 := ⟨s.size - 1, by omega⟩
  have hl : cts s.size (s.extract F s.size) = cts (f + 1) (s.extract F s.size) := by rw [hf]
  rw [hl, cts_line (by omega) hix, hz]
  have e1 : (s.extract F s.size).extract 0 (I - F) = s.extract F I := by
    rw [ext_ext s F 0 (I - F) (by omega)]; congr 1; omega
  have e2 : (s.extract F s.size).extract (I - F + 1) (s.size - F) = s.extract (I + 1) s.size := by
    rw [ext_ext s F (I - F + 1) (s.size - F) (by omega)]; congr 1 <;> omega
  rw [e1, e2, cts_fuel f s.size (s.extract (I + 1) s.size) (by simp [ByteArray.size_extract]; omega) (by simp [ByteArray.size_extract])]
theorem cts_rest {s : ByteArray} {F : Nat} (h1 : F < s.size) (hno : ∀ k, F ≤ k → k < s.size → M.ch s k ≠ 10) : cts s.size (s.extract F s.size) = ([], true) := by
  have hz : (s.extract F s.size).size = s.size - F := by simp [ByteArray.size_extract]
  have hix : Lib.indexByte (s.extract F s.size).data.toList 10 = -1 := by
    refine ix_none _ _ fun k e => ?_
    have hk : k < (s.extract F s.size).size := by
      have := (List.getElem?_eq_some_iff.1 e).1
      simpa using this
    obtain ⟨x, hx, hv⟩ := ch_byte (s.extract F s.size) k hk
    rw [ch_extract s F s.size k (Nat.le_refl _) (by omega)] at hv
    rw [hx] at e
    have e' : x = 10 := by simpa using e
    exact hno (F + k) (by omega) (by omega) (by rw [← hv]; exact byte_ten.1 e')
  obtain ⟨f, hf⟩ : ∃ f, s.size = f + 1 := ⟨s.size - 1, by omega⟩
  have hl : cts s.size (s.extract F s.size) = cts (f + 1) (s.extract F s.size) := by rw [hf]
  rw [hl]
  exact cts_tail (by omega) (by omega)

def okAll (l : List ByteArray) : Prop := ∀ c ∈ l, (M.dl c).2 = true
noncomputable def day (l : List ByteArray) (i : Nat) : Int := (l.map fun c => (M.dl c).1).getD i 0
/-- The steps of a table of lines. -/
noncomputable def stA (l : List ByteArray) (i : Nat) : Int := (day l i + 1) * 86400
def stT (i : Nat) : Int := i + 1
noncomputable def lpz (s : ByteArray) : List ByteArray × Int :=
  if 2000 < s.size then ([], 5)
  else if @decide ((cts s.size s).2 = true ∨ ¬ okAll (cts s.size s).1) (Classical.propDecidable _) = true then ([], 3)
  else if M.okb (cts s.size s).1.length (stA (cts s.size s).1) stT = false then ([], 1) else ((cts s.size s).1, 0)
theorem lpz_5 {s : ByteArray} (h : 2000 < s.size) : lpz s = ([], 5) := by simp only [lpz, if_pos h]
theorem lpz_3 {s : ByteArray} (h : ¬ 2000 < s.size) (h2 : (cts s.size s).2 = true ∨ ¬ okAll (cts s.size s).1) : lpz s = ([], 3) := by
  unfold lpz; rw [if_neg h, if_pos (by simp only [decide_eq_true_eq]; exact h2)]
theorem lpz_1 {s : ByteArray} {l : List ByteArray} (h : ¬ 2000 < s.size) (hc : cts s.size s = (l, false)) (h2 : okAll l) (h3 : M.okb l.length (stA l) stT = false) : lpz s = ([], 1) := by
  unfold lpz; rw [if_neg h, hc, if_neg (by simp only [decide_eq_true_eq]; rintro (h | h); cases h; exact h h2), if_pos h3]
theorem lpz_0 {s : ByteArray} {l : List ByteArray} (h : ¬ 2000 < s.size) (hc : cts s.size s = (l, false)) (h2 : okAll l) (h3 : M.okb l.length (stA l) stT = true) : lpz s = (l, 0) := by
  unfold lpz; rw [if_neg h, hc, if_neg (by simp only [decide_eq_true_eq]; rintro (h | h); cases h; exact h h2), if_neg (by rw [h3]; simp)]

/-- The cells of n steps. -/
def cl (A : Nat → Int) : Nat → List Value
  | 0 => []
  | n + 1 => cl A n ++ [.int .i64 (A n), .int .i64 (stT n)]
theorem cl_len (A : Nat → Int) : ∀ n, (cl A n).length = n * 2
  | 0 => rfl
  | n + 1 => by rw [cl, List.length_append, cl_len A n]; simp; omega
theorem cl_congr {A B : Nat → Int} : ∀ {n : Nat}, (∀ i, i < n → A i = B i) → cl A n = cl B n
  | 0, _ => rfl
  | n + 1, h => by rw [cl, cl, cl_congr fun i hi => h i (by omega), h n (by omega)]
theorem cl_get (A : Nat → Int) : ∀ {n i : Nat}, i < n → (cl A n)[i * 2]? = some (.int .i64 (A i)) ∧ (cl A n)[i * 2 + 1]? = some (.int .i64 (stT i))
  | 0, i, h => by omega
  | n + 1, i, h => by
    rw [cl]
    by_cases e : i = n
    · subst e
      have := cl_len A i
      constructor
      · rw [List.getElem?_append_right (by omega), this, Nat.sub_self]; rfl
      · rw [List.getElem?_append_right (by omega), this, show i * 2 + 1 - i * 2 = 1 by omega]; rfl
    · have := cl_len A n
      rw [List.getElem?_append_left (by omega), List.getElem?_append_left (by omega)]
      exact cl_get A (by omega)
theorem day_snoc (l : List ByteArray) (c : ByteArray) {i : Nat} (h : i < l.length) : day (l ++ [c]) i = day l i := by
  unfold day
  simp only [List.map_append, List.getD_eq_getElem?_getD]
  rw [List.getElem?_append_left (by simpa using h)]
theorem day_last (l : List ByteArray) (c : ByteArray) : day (l ++ [c]) l.length = (M.dl c).1 := by
  unfold day
  simp only [List.map_append, List.getD_eq_getElem?_getD]
  rw [List.getElem?_append_right (by simp)]
  simp
/-- One line more: two cells more. -/
theorem cl_snoc (l : List ByteArray) (c : ByteArray) : cl (stA (l ++ [c])) (l ++ [c]).length = cl (stA l) l.length ++ [.int .i64 (((M.dl c).1 + 1) * 86400), .int .i64 ((l.length : Int) + 1)] := by
  rw [List.length_append, List.length_singleton, cl, cl_congr (B := stA l) fun i hi => by unfold stA; rw [day_snoc l c hi]]
  unfold stA; rw [day_last]; rfl
/-- An own row of steps is a table. -/
theorem row_tab {W : World} {base n : Nat} {v : Value} {A : Nat → Int} (h : W.ownsRow base 43 2 v n (cl A n)) (hb : ∀ i, i < n → -9223372036854775808 ≤ A i ∧ A i ≤ 9223372036854775807) (hn : n ≤ 9223372036854775806) :
    ∃ (sl : Option Addr) (cap g : Nat), v = .slice sl n cap ∧ Tab W sl n g 0 A stT ∧ (0 < n → base ≤ g) := by
  obtain ⟨_, h | ⟨g, cap, cur, rfl, hg, hh, hnc, _, hsz, htk⟩⟩ := h
  · obtain ⟨rfl, rfl⟩ := h
    exact ⟨none, 0, 0, rfl, ⟨fun h => by omega, fun h => by omega, fun i h => by omega, fun i h => by omega, fun i h => by omega, fun i h => by omega, by omega⟩, fun h => by omega⟩
  · have hc : ∀ k, k < n * 2 → W.cell? ⟨g, 0 + k, none⟩ = (cl A n)[k]? := fun k hk => by
      unfold World.cell?
      simp only [hh, Option.isSome_none, Bool.false_eq_true, if_false]
      rw [← htk, List.getElem?_take, if_pos hk, Nat.zero_add]; simp
    refine ⟨some ⟨g, 0, none⟩, cap, g, rfl, ⟨fun _ => rfl, fun h0 => (Array.getElem?_eq_some_iff.1 hh).1, fun i hi => ?_, fun i hi => ?_, hb, fun i hi => by unfold stT; omega, by omega⟩, fun _ => hg⟩
    · rw [hc (i * 2) (by omega)]; exact (cl_get A hi).1
    · rw [show 0 + i * 2 + 1 = 0 + (i * 2 + 1) by omega, hc (i * 2 + 1) (by omega)]; exact (cl_get A hi).2
theorem Tab.setCell {W : World} {sl : Option Addr} {n b o : Nat} {A T : Nat → Int} (h : Tab W sl n b o A T) (p : Addr) (v : Value) (hp : 0 < n → b ≠ p.block) : Tab (W.setCell p v) sl n b o A T :=
  ⟨h.sl, fun h0 => by simpa [World.setCell] using h.lt h0, fun i hi => (setCell_other (hp (by omega))).trans (h.cA i hi), fun i hi => (setCell_other (hp (by omega))).trans (h.cT i hi), h.bA, h.bT, h.n62⟩

end Go.Proofs.Ytplgladflhglaaa.Lp
