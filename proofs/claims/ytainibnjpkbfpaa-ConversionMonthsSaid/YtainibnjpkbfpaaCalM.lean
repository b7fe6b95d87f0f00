/- Plain mathematics of calendars: granules, where they lie, which one is near. -/
namespace Go.Proofs.Ytainibnjpkbfpaa.Cv
set_option linter.unusedVariables false
set_option linter.unusedSimpArgs false

theorem snoc_ind {α : Type} {P : List α → Prop} (h0 : P []) (h1 : ∀ l x, P l → P (l ++ [x])) (l : List α) : P l := by
  suffices h : ∀ n (l : List α), l.length = n → P l from h _ l rfl
  intro n
  induction n with
  | zero => intro l hl; obtain rfl := List.eq_nil_of_length_eq_zero hl; exact h0
  | succ n ih =>
    intro l hl
    rcases List.eq_nil_or_concat l with rfl | ⟨l, x, rfl⟩
    · exact h0
    · rw [List.concat_eq_append] at hl ⊢
      exact h1 l x (ih l (by simpa using hl))
structure Cal where
  o : Int
  p : Int
  l : List (Int × Int)
def line (x : Int) : Bool := decide (-4398046511104 ≤ x ∧ x ≤ 4398046511104)
def svld (s : Int × Int) : Bool := decide (-4398046511104 ≤ s.1 ∧ s.1 ≤ 4398046511104 ∧ -4398046511104 ≤ s.2 ∧ s.2 ≤ 4398046511104 ∧ s.1 < s.2)
def half (x : Int) : Bool := decide (-2199023255552 ≤ x ∧ x ≤ 2199023255552)
/-- The span i. -/
def gt (l : List (Int × Int)) (i : Nat) : Int × Int := l.getD i (0, 0)
theorem gt_of {l : List (Int × Int)} {i : Nat} {s : Int × Int} (h : l[i]? = some s) : gt l i = s := by unfold gt; rw [List.getD_eq_getElem?_getD, h]; rfl
theorem gt_some {l : List (Int × Int)} {i : Nat} (h : i < l.length) : l[i]? = some (gt l i) := by rw [gt_of (List.getElem?_eq_getElem h)]; exact List.getElem?_eq_getElem h
def okAt (l : List (Int × Int)) (i : Nat) : Bool := svld (gt l i) && (i == 0 || decide ((gt l (i - 1)).2 ≤ (gt l i).1))
def ascB (l : List (Int × Int)) : Bool := decide (0 < l.length ∧ ∀ i, i < l.length → okAt l i = true)
/-- The list is its first m spans, repeated. -/
def shiftAt (l : List (Int × Int)) (d : Int) (m i : Nat) : Bool := decide (gt l (i + m) = ((gt l i).1 + d, (gt l i).2 + d))
def repB (p : Int) (l : List (Int × Int)) (m : Nat) : Bool :=
  decide (l.length % m = 0 ∧ p % ((l.length / m : Nat) : Int) = 0 ∧ ∀ i, i < l.length - m → shiftAt l (p / ((l.length / m : Nat) : Int)) m i = true)
def lst (p : Int) (l : List (Int × Int)) : Nat := ((List.range l.length).find? fun m => decide (1 ≤ m) && repB p l m).getD l.length
theorem lst_eq {p : Int} {l : List (Int × Int)} {m : Nat} (h1 : 1 ≤ m) (h2 : m < l.length) (h3 : repB p l m = true) (h4 : ∀ k, 1 ≤ k → k < m → repB p l k = false) : lst p l = m := by
  unfold lst
  have : (List.range l.length).find? (fun m => decide (1 ≤ m) && repB p l m) = some m := by
    rw [List.find?_eq_some_iff_append]
    refine ⟨by simp [h1, h3], List.range m, (List.range (l.length - m - 1)).map (· + (m + 1)), ?_, ?_⟩
    · apply List.ext_getElem?
      intro i
      rcases Nat.lt_or_ge i m with hi | hi
      · rw [List.getElem?_append_left (by simpa using hi), List.getElem?_range hi, List.getElem?_range (by omega)]
      · rw [List.getElem?_append_right (by simpa using hi), List.length_range]
        rcases Nat.eq_zero_or_pos (i - m) with e | e
        · rw [e, List.getElem?_cons_zero, List.getElem?_range (by omega)]; congr 1; omega
        · obtain ⟨q, hq⟩ : ∃ q, i - m = q + 1 := ⟨i - m - 1, by omega⟩
          rw [hq, List.getElem?_cons_succ, List.getElem?_map]
          rcases Nat.lt_or_ge q (l.length - m - 1) with h5 | h5
          · rw [List.getElem?_range h5, List.getElem?_range (by omega)]; simp; omega
          · rw [List.getElem?_eq_none (by simp; omega), List.getElem?_eq_none (by simp; omega)]; rfl
    · intro a ha
      have := List.mem_range.1 ha
      by_cases ha1 : 1 ≤ a
      · simp [h4 a ha1 this]
      · simp [ha1]
  rw [this]; rfl
theorem lst_all {p : Int} {l : List (Int × Int)} (h : ∀ k, 1 ≤ k → k < l.length → repB p l k = false) : lst p l = l.length := by
  unfold lst
  have : (List.range l.length).find? (fun m => decide (1 ≤ m) && repB p l m) = none := by
    rw [List.find?_eq_none]
    intro a ha
    have := List.mem_range.1 ha
    by_cases ha1 : 1 ≤ a
    · simp [h a ha1 this]
    · simp [ha1]
  rw [this]; rfl
/-- A calendar is valid. -/
def vld (c : Cal) : Bool := decide (1 ≤ c.l.length ∧ c.l.length ≤ 5000 ∧ 1 ≤ c.p ∧ c.p ≤ 12622780800 ∧ half c.o = true ∧ ascB c.l = true ∧ (gt c.l 0).1 = 0 ∧ (gt c.l (c.l.length - 1)).2 ≤ c.p ∧ lst c.p c.l = c.l.length)
/-- What is used of a valid calendar. -/
structure Vc (c : Cal) : Prop where
  n1 : 1 ≤ c.l.length
  n2 : c.l.length ≤ 5000
  p1 : 1 ≤ c.p
  p2 : c.p ≤ 12622780800
  o1 : -2199023255552 ≤ c.o
  o2 : c.o ≤ 2199023255552
  lt : ∀ i, i < c.l.length → (gt c.l i).1 < (gt c.l i).2
  nx : ∀ i, i + 1 < c.l.length → (gt c.l i).2 ≤ (gt c.l (i + 1)).1
  z : (gt c.l 0).1 = 0
  e : (gt c.l (c.l.length - 1)).2 ≤ c.p
theorem vc {c : Cal} (h : vld c = true) : Vc c := by
  unfold vld at h
  rw [decide_eq_true_iff] at h
  obtain ⟨h1, h2, h3, h4, h5, h6, h7, h8, _⟩ := h
  unfold half at h5
  unfold ascB at h6
  rw [decide_eq_true_iff] at h5 h6
  refine ⟨h1, h2, h3, h4, h5.1, h5.2, fun i hi => ?_, fun i hi => ?_, h7, h8⟩
  · have := h6.2 i hi
    unfold okAt svld at this
    rw [Bool.and_eq_true, decide_eq_true_iff] at this
    exact this.1.2.2.2.2
  · have := h6.2 (i + 1) hi
    unfold okAt at this
    rw [Bool.and_eq_true, Bool.or_eq_true] at this
    rcases this.2 with h | h
    · simp at h
    · rw [decide_eq_true_iff] at h; exact h
section
variable {c : Cal}
theorem Vc.mono (h : Vc c) : ∀ (j i : Nat), i + j < c.l.length → (gt c.l i).1 + j ≤ (gt c.l (i + j)).1
  | 0, i, hi => by simp
  | j + 1, i, hi => by
    have h1 := h.mono j i (by omega)
    have h2 := h.lt (i + j) (by omega)
    have h3 := h.nx (i + j) (by omega)
    rw [show i + (j + 1) = i + j + 1 by omega]
    push_cast; omega
theorem Vc.lo (h : Vc c) {i : Nat} (hi : i < c.l.length) : (i : Int) ≤ (gt c.l i).1 := by
  have := h.mono i 0 (by omega)
  rw [h.z, Nat.zero_add] at this; omega
theorem Vc.up (h : Vc c) {i : Nat} (hi : i < c.l.length) : (gt c.l i).2 ≤ c.p := by
  rcases Nat.lt_or_ge (i + 1) c.l.length with h1 | h1
  · have h2 := h.nx i h1
    have h3 := h.mono (c.l.length - 1 - (i + 1)) (i + 1) (by omega)
    rw [show i + 1 + (c.l.length - 1 - (i + 1)) = c.l.length - 1 by omega] at h3
    have h4 := h.lt (c.l.length - 1) (by have := h.n1; omega)
    have := h.e
    omega
  · rw [show i = c.l.length - 1 by omega]; exact h.e
theorem Vc.np (h : Vc c) : (c.l.length : Int) ≤ c.p := by
  have h0 := h.n1
  have h1 := h.lo (i := c.l.length - 1) (by omega)
  have h2 := h.up (i := c.l.length - 1) (by omega)
  have h3 := h.lt (c.l.length - 1) (by omega)
  omega
/-- The granule k. -/
def pl (c : Cal) (k : Int) : Int × Int := ((gt c.l (k % c.l.length).toNat).1 + (c.o + c.p * (k / c.l.length)), (gt c.l (k % c.l.length).toNat).2 + (c.o + c.p * (k / c.l.length)))
theorem dm {n : Nat} (hn : 1 ≤ n) (q : Int) {i : Nat} (hi : i < n) : (n * q + (i : Int)) / n = q ∧ ((n * q + (i : Int)) % n).toNat = i := by
  have hn' : (n : Int) ≠ 0 := by omega
  have e1 : (i : Int) / n = 0 := Int.ediv_eq_zero_of_lt (by omega) (by omega)
  have e2 : (i : Int) % n = i := Int.emod_eq_of_lt (by omega) (by omega)
  constructor
  · rw [Int.add_comm, Int.add_mul_ediv_left _ _ hn', e1]; omega
  · rw [Int.add_comm, Int.add_mul_emod_self_left, e2]; omega
theorem pl_at (hn : 1 ≤ c.l.length) (q : Int) {i : Nat} (hi : i < c.l.length) : pl c (c.l.length * q + i) = ((gt c.l i).1 + (c.o + c.p * q), (gt c.l i).2 + (c.o + c.p * q)) := by
  unfold pl
  rw [(dm hn q hi).1, (dm hn q hi).2]
theorem split_k (hn : 1 ≤ c.l.length) (k : Int) : ∃ q i, i < c.l.length ∧ k = c.l.length * q + (i : Nat) ∧ q = k / c.l.length ∧ i = (k % c.l.length).toNat := by
  have h0 : (0 : Int) < c.l.length := by omega
  have h1 := Int.emod_nonneg k (show (c.l.length : Int) ≠ 0 by omega)
  have h2 := Int.emod_lt_of_pos k h0
  have h3 := Int.mul_ediv_add_emod k c.l.length
  exact ⟨k / c.l.length, (k % c.l.length).toNat, by omega, by omega, rfl, rfl⟩
theorem Vc.pl_lt (h : Vc c) (k : Int) : (pl c k).1 < (pl c k).2 := by
  obtain ⟨q, i, hi, rfl, _⟩ := split_k h.n1 k
  rw [pl_at h.n1 q hi]
  have := h.lt i hi
  show _ + _ < _ + _
  omega
theorem Vc.pl_nx (h : Vc c) (k : Int) : (pl c k).2 ≤ (pl c (k + 1)).1 := by
  obtain ⟨q, i, hi, rfl, _⟩ := split_k h.n1 k
  rw [pl_at h.n1 q hi]
  rcases Nat.lt_or_ge (i + 1) c.l.length with h1 | h1
  · rw [show (c.l.length * q + (i : Int) + 1) = c.l.length * q + ((i + 1 : Nat) : Int) by push_cast; omega, pl_at h.n1 q h1]
    have := h.nx i h1
    show _ + _ ≤ _ + _
    omega
  · have e : (c.l.length * q + (i : Int) + 1) = c.l.length * (q + 1) + ((0 : Nat) : Int) := by
      rw [Int.mul_add]; have : i + 1 = c.l.length := by omega
      omega
    rw [e, pl_at h.n1 (q + 1) (by omega), h.z, Int.mul_add]
    have := h.up hi
    show _ + _ ≤ _ + _
    omega
theorem Vc.pl_mono (h : Vc c) (k : Int) : ∀ j : Nat, (pl c k).2 ≤ (pl c (k + 1 + j)).1
  | 0 => by simpa using h.pl_nx k
  | j + 1 => by
    have h1 := h.pl_mono k j
    have h2 := h.pl_lt (k + 1 + j)
    have h3 := h.pl_nx (k + 1 + j)
    rw [show k + 1 + ((j + 1 : Nat) : Int) = k + 1 + j + 1 by push_cast; omega]
    omega
theorem Vc.pl_le (h : Vc c) {k j : Int} (hk : k < j) : (pl c k).2 ≤ (pl c j).1 := by
  have := h.pl_mono k (j - k - 1).toNat
  rwa [show k + 1 + ((j - k - 1).toNat : Int) = j by omega] at this
theorem Vc.pl_lt1 (h : Vc c) {k j : Int} (hk : k < j) : (pl c k).1 < (pl c j).1 := by
  have := h.pl_le hk
  have := h.pl_lt k
  omega
/-- The last of the first j spans that begins at r or before it; 0: none. -/
def idx (l : List (Int × Int)) (r : Int) : Nat → Nat
  | 0 => 0
  | j + 1 => if (gt l j).1 ≤ r then j else idx l r j
theorem idx_le (l : List (Int × Int)) (r : Int) : ∀ j, idx l r j ≤ j - 1
  | 0 => Nat.le_refl _
  | j + 1 => by
    have := idx_le l r j
    unfold idx; split <;> omega
theorem idx_at {l : List (Int × Int)} {r : Int} (h0 : (gt l 0).1 ≤ r) : ∀ j, 1 ≤ j → (gt l (idx l r j)).1 ≤ r
  | 0, h => by omega
  | j + 1, _ => by
    unfold idx
    split
    · assumption
    · rcases Nat.eq_zero_or_pos j with rfl | hj
      · exact h0
      · exact idx_at h0 j hj
theorem idx_gt {l : List (Int × Int)} {r : Int} : ∀ j i, idx l r j < i → i < j → r < (gt l i).1
  | 0, i, _, h => by omega
  | j + 1, i, h1, h2 => by
    unfold idx at h1
    split at h1
    · omega
    · rcases Nat.lt_or_ge i j with h | h
      · exact idx_gt j i h1 h
      · rw [show i = j by omega]; omega
/-- The granule that begins at x or before it, last. -/
def nr (c : Cal) (x : Int) : Int := c.l.length * ((x - c.o) / c.p) + idx c.l ((x - c.o) % c.p) c.l.length
theorem Vc.idx_lt (h : Vc c) (r : Int) : idx c.l r c.l.length < c.l.length := by have := idx_le c.l r c.l.length; have := h.n1; omega
theorem Vc.near (h : Vc c) (x : Int) : (pl c (nr c x)).1 ≤ x ∧ x < (pl c (nr c x + 1)).1 := by
  have hp := h.p1
  have r0 := Int.emod_nonneg (x - c.o) (show c.p ≠ 0 by omega)
  have r1 := Int.emod_lt_of_pos (x - c.o) (show 0 < c.p by omega)
  have r2 := Int.mul_ediv_add_emod (x - c.o) c.p
  have hi := h.idx_lt ((x - c.o) % c.p)
  have h1 := idx_at (l := c.l) (r := (x - c.o) % c.p) (by rw [h.z]; exact r0) c.l.length h.n1
  constructor
  · unfold nr
    rw [pl_at h.n1 _ hi]
    show _ + _ ≤ _
    omega
  · rcases Nat.lt_or_ge (idx c.l ((x - c.o) % c.p) c.l.length + 1) c.l.length with h2 | h2
    · have h3 := idx_gt c.l.length _ (Nat.lt_add_one (idx c.l ((x - c.o) % c.p) c.l.length)) h2
      unfold nr
      rw [show (c.l.length * ((x - c.o) / c.p) + (idx c.l ((x - c.o) % c.p) c.l.length : Int) + 1) = c.l.length * ((x - c.o) / c.p) + ((idx c.l ((x - c.o) % c.p) c.l.length + 1 : Nat) : Int) by push_cast; omega, pl_at h.n1 _ h2]
      show _ < _ + _
      omega
    · have e : nr c x + 1 = c.l.length * ((x - c.o) / c.p + 1) + ((0 : Nat) : Int) := by
        unfold nr; rw [Int.mul_add]; omega
      rw [e, pl_at h.n1 _ (by have := h.n1; omega), h.z, Int.mul_add]
      show _ < _ + _
      omega
theorem Vc.near_eq (h : Vc c) {x k : Int} (h1 : (pl c k).1 ≤ x) (h2 : x < (pl c (k + 1)).1) : nr c x = k := by
  obtain ⟨n1, n2⟩ := h.near x
  rcases Int.lt_trichotomy (nr c x) k with hlt | he | hgt
  · exfalso
    rcases Int.lt_or_le (nr c x + 1) k with h3 | h3
    · have := h.pl_lt1 h3; omega
    · rw [show nr c x + 1 = k by omega] at n2; omega
  · exact he
  · exfalso
    rcases Int.lt_or_le (k + 1) (nr c x) with h3 | h3
    · have := h.pl_lt1 h3; omega
    · rw [show k + 1 = nr c x by omega] at h2; omega
theorem Vc.near_self (h : Vc c) (k : Int) : nr c (pl c k).1 = k := h.near_eq (Int.le_refl _) (h.pl_lt1 (by omega))
theorem Vc.near_mono (h : Vc c) {x y : Int} (hx : x ≤ y) : nr c x ≤ nr c y := by
  obtain ⟨a1, a2⟩ := h.near x
  obtain ⟨b1, b2⟩ := h.near y
  rcases Int.lt_or_le (nr c y) (nr c x) with h1 | h1
  · exfalso
    rcases Int.lt_or_le (nr c y + 1) (nr c x) with h2 | h2
    · have := h.pl_lt1 h2; omega
    · rw [show nr c y + 1 = nr c x by omega] at b2; omega
  · exact h1
/-- The number of the last granule that ends at x or before it. -/
def en (c : Cal) (x : Int) : Int := if (pl c (nr c x)).2 > x then nr c x - 1 else nr c x
theorem Vc.ends (h : Vc c) (x : Int) : (pl c (en c x)).2 ≤ x ∧ x < (pl c (en c x + 1)).2 := by
  obtain ⟨a1, a2⟩ := h.near x
  unfold en
  split
  · rename_i h1
    have := h.pl_le (show nr c x - 1 < nr c x by omega)
    exact ⟨by omega, by rw [show nr c x - 1 + 1 = nr c x by omega]; exact h1⟩
  · have := h.pl_lt (nr c x + 1)
    exact ⟨by omega, by omega⟩
theorem Vc.ends_eq (h : Vc c) {x k : Int} (h1 : (pl c k).2 ≤ x) (h2 : x < (pl c (k + 1)).2) : en c x = k := by
  obtain ⟨n1, n2⟩ := h.ends x
  have mono : ∀ {a b : Int}, a < b → (pl c a).2 < (pl c b).2 := fun {a b} hab => by
    have := h.pl_le hab
    have := h.pl_lt b
    omega
  rcases Int.lt_trichotomy (en c x) k with hlt | he | hgt
  · exfalso
    rcases Int.lt_or_le (en c x + 1) k with h3 | h3
    · have := mono h3; omega
    · rw [show en c x + 1 = k by omega] at n2; omega
  · exact he
  · exfalso
    rcases Int.lt_or_le (k + 1) (en c x) with h3 | h3
    · have := mono h3; omega
    · rw [show k + 1 = en c x by omega] at h2; omega
end
end Go.Proofs.Ytainibnjpkbfpaa.Cv
