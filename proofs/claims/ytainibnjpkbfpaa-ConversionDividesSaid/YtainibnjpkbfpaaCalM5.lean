/- Plain: pairs of calendars, finer ones, ones that divide others. -/
import Derived.Test.YtainibnjpkbfpaaCalM3
import Derived.Test.YtainibnjpkbfpaaIntG
namespace Go.Proofs.Ytainibnjpkbfpaa.Cv
set_option linter.unusedVariables false
set_option linter.unusedSimpArgs false

def prr (a b : Cal) : Int × Int :=
  if (M.lc a.p b.p).2 ≠ 0 ∨ 12622780800 < (M.lc a.p b.p).1 then (0, 9)
  else if 5000 < (M.lc a.p b.p).1 / a.p * a.l.length ∨ 5000 < (M.lc a.p b.p).1 / b.p * b.l.length then ((M.lc a.p b.p).1, 5)
  else ((M.lc a.p b.p).1, 0)
/-- A common period: so many periods of each. -/
structure Cp (a b : Cal) (mm qa qb : Int) : Prop where
  lc : M.lc a.p b.p = (mm, 0)
  m1 : 1 ≤ mm
  m2 : mm ≤ 12622780800
  ea : mm = a.p * qa
  eb : mm = b.p * qb
  da : mm / a.p = qa
  db : mm / b.p = qb
  ra : mm % a.p = 0
  rb : mm % b.p = 0
  a1 : 1 ≤ qa
  b1 : 1 ≤ qb
  a2 : qa ≤ 12622780800
  b2 : qb ≤ 12622780800
theorem prr_cases {a b : Cal} (ha : Vc a) (hb : Vc b) :
    (∃ z e, M.lc a.p b.p = (z, e) ∧ ((e ≠ 0 ∨ (e = 0 ∧ 12622780800 < z)) ∧ -9223372036854775808 ≤ z ∧ z ≤ 9223372036854775807) ∧ prr a b = (0, 9)) ∨
    ∃ mm qa qb, Cp a b mm qa qb ∧ ((prr a b = (mm, 5) ∧ (5000 < qa * a.l.length ∨ (qa * a.l.length ≤ 5000 ∧ 5000 < qb * b.l.length))) ∨ (prr a b = (mm, 0) ∧ qa * a.l.length ≤ 5000 ∧ qb * b.l.length ≤ 5000)) := by
  have p1 := ha.p1
  have p2 := ha.p2
  have s1 := hb.p1
  have s2 := hb.p2
  obtain ⟨g1, g2, g3, hc⟩ := M.lc_cases (a := a.p) (b := b.p) p1 (by omega) s1 (by omega)
  rcases hc with ⟨l, hl, l1, l2, l3, l4, _⟩ | ⟨hl, _⟩
  · by_cases hb' : 12622780800 < l
    · left
      exact ⟨l, 0, hl, ⟨.inr ⟨rfl, hb'⟩, by omega, l2⟩, by unfold prr; rw [hl, if_pos (.inr hb')]⟩
    · right
      have e1 : l = a.p * (l / a.p) := by have := Int.mul_ediv_add_emod l a.p; omega
      have e2 : l = b.p * (l / b.p) := by have := Int.mul_ediv_add_emod l b.p; omega
      have q1 : 1 ≤ l / a.p := by
        rcases Int.lt_or_le (l / a.p) 1 with h | h
        · have : a.p * (l / a.p) ≤ a.p * 0 := Int.mul_le_mul_of_nonneg_left (by omega) (by omega)
          omega
        · exact h
      have q2 : 1 ≤ l / b.p := by
        rcases Int.lt_or_le (l / b.p) 1 with h | h
        · have : b.p * (l / b.p) ≤ b.p * 0 := Int.mul_le_mul_of_nonneg_left (by omega) (by omega)
          omega
        · exact h
      have q3 : l / a.p ≤ l := Int.ediv_le_self _ (by omega)
      have q4 : l / b.p ≤ l := Int.ediv_le_self _ (by omega)
      refine ⟨l, l / a.p, l / b.p, ⟨hl, l1, by omega, e1, e2, rfl, rfl, l3, l4, q1, q2, by omega, by omega⟩, ?_⟩
      have hn : ¬ ((M.lc a.p b.p).2 ≠ 0 ∨ 12622780800 < (M.lc a.p b.p).1) := by rw [hl]; dsimp only; omega
      by_cases h1 : 5000 < l / a.p * a.l.length
      · left; exact ⟨by unfold prr; rw [if_neg hn, hl, if_pos (.inl h1)], .inl h1⟩
      · by_cases h2 : 5000 < l / b.p * b.l.length
        · left; exact ⟨by unfold prr; rw [if_neg hn, hl, if_pos (.inr h2)], .inr ⟨by omega, h2⟩⟩
        · right; exact ⟨by unfold prr; rw [if_neg hn, hl, if_neg (by dsimp only; omega)], by omega, by omega⟩
  · left
    exact ⟨0, 9, hl, ⟨.inl (by omega), by omega, by omega⟩, by unfold prr; rw [hl, if_pos (.inl (by simp))]⟩
theorem quo_iff {q n : Int} (hn : 1 ≤ n) : 5000 / n < q ↔ 5000 < q * n := Int.ediv_lt_iff_lt_mul (by omega)
/-- Granule k of a lies in one of b. -/
def lies (a b : Cal) (k : Int) : Bool := decide ((pl a k).2 ≤ (pl b (nr b (pl a k).1)).2)
def finB (a b : Cal) (K : Nat) : Bool := (List.range K).all fun k => lies a b k
theorem finB_t {a b : Cal} {K : Nat} (h : ∀ k : Nat, k < K → lies a b k = true) : finB a b K = true := by
  unfold finB; rw [List.all_eq_true]; intro k hk; exact h k (List.mem_range.1 hk)
theorem finB_f {a b : Cal} {K k : Nat} (hk : k < K) (h : lies a b k = false) : finB a b K = false := by
  rcases hf : finB a b K with _ | _
  · rfl
  · unfold finB at hf; rw [List.all_eq_true] at hf
    rw [hf k (List.mem_range.2 hk)] at h; cases h
section
variable {a b : Cal}
theorem Vc.range (h : Vc a) {k qa : Int} (h0 : 0 ≤ k) (h1 : k < qa * a.l.length) : a.o ≤ (pl a k).1 ∧ (pl a k).2 ≤ a.o + a.p * qa := by
  obtain ⟨q, i, hi, rfl, hq, _⟩ := split_k h.n1 k
  rw [pl_at h.n1 q hi]
  have n1 := h.n1
  have p1 := h.p1
  have x0 := h.lo hi
  have y1 := h.up hi
  have q0 : 0 ≤ q := by rw [hq]; exact Int.ediv_nonneg h0 (by omega)
  have qlt : q < qa := by
    rcases Int.lt_or_le q qa with hh | hh
    · exact hh
    · have : qa * (a.l.length : Int) ≤ q * a.l.length := Int.mul_le_mul_of_nonneg_right hh (by omega)
      rw [Int.mul_comm q] at this; omega
  have m0 : 0 ≤ a.p * q := Int.mul_nonneg (by omega) q0
  have m1 : a.p * (q + 1) ≤ a.p * qa := Int.mul_le_mul_of_nonneg_left (by omega) (by omega)
  rw [Int.mul_add] at m1
  constructor
  · show _ ≤ _ + _; omega
  · show _ + _ ≤ _; omega
theorem Vc.pl_shift (h : Vc a) (k t : Int) : pl a (k + a.l.length * t) = ((pl a k).1 + a.p * t, (pl a k).2 + a.p * t) := by
  obtain ⟨q, i, hi, rfl, hq, _⟩ := split_k h.n1 k
  rw [show a.l.length * q + (i : Int) + a.l.length * t = a.l.length * (q + t) + (i : Int) by rw [Int.mul_add]; omega, pl_at h.n1 _ hi, pl_at h.n1 _ hi, Int.mul_add]
  ext <;> dsimp only <;> omega
theorem Vc.nr_shift (h : Vc a) (x t : Int) : nr a (x + a.p * t) = nr a x + a.l.length * t := by
  obtain ⟨h1, h2⟩ := h.near x
  have e1 := h.pl_shift (nr a x) t
  have e2 := h.pl_shift (nr a x + 1) t
  refine h.near_eq ?_ ?_
  · rw [e1]; dsimp only; omega
  · rw [show nr a x + a.l.length * t + 1 = nr a x + 1 + a.l.length * t by omega, e2]; dsimp only; omega
/-- Where one stands behind j granules, from x on. -/
def atj (a : Cal) (x n0 : Int) : Nat → Int
  | 0 => x
  | j + 1 => (pl a (n0 + j)).2
def Fok (a : Cal) (x n0 y : Int) (j : Nat) : Prop := ∀ i : Nat, i < j → atj a x n0 i < y ∧ (pl a (n0 + i)).1 = atj a x n0 i
theorem Fok.zero (a : Cal) (x n0 y : Int) : Fok a x n0 y 0 := fun i h => by omega
theorem Fok.succ {x n0 y : Int} {j : Nat} (h : Fok a x n0 y j) (h1 : atj a x n0 j < y) (h2 : (pl a (n0 + j)).1 = atj a x n0 j) : Fok a x n0 y (j + 1) := fun i hi => by
  rcases Nat.lt_or_ge i j with h3 | h3
  · exact h i h3
  · rw [show i = j by omega]; exact ⟨h1, h2⟩
theorem Fok.grow (hv : Vc a) {x n0 y : Int} : ∀ {j : Nat}, Fok a x n0 y j → x + j ≤ atj a x n0 j
  | 0, _ => by simp [atj]
  | j + 1, h => by
    have h1 := Fok.grow hv (j := j) fun i hi => h i (by omega)
    have h2 := (h j (by omega)).2
    have h3 := hv.pl_lt (n0 + j)
    show _ ≤ (pl a (n0 + j)).2
    push_cast; omega
theorem Fok.small (hv : Vc a) {x n0 y : Int} {j : Nat} (h : Fok a x n0 y j) (hxy : x ≤ y) : (j : Int) ≤ y - x := by
  rcases j with _ | j
  · simp; omega
  · have h1 := Fok.grow hv (j := j) fun i hi => h i (by omega)
    have h2 := (h j (by omega)).1
    push_cast; omega
/-- The span from x to y consists of granules. -/
def fil (a : Cal) (x y : Int) : Bool :=
  (List.range ((y - x).toNat + 1)).any fun j => (List.range j).all (fun i => decide (atj a x (nr a x) i < y) && decide ((pl a (nr a x + (i : Nat))).1 = atj a x (nr a x) i)) && decide (atj a x (nr a x) j = y)
theorem fil_t (hv : Vc a) {x y : Int} {j : Nat} (hxy : x ≤ y) (h : Fok a x (nr a x) y j) (he : atj a x (nr a x) j = y) : fil a x y = true := by
  unfold fil
  rw [List.any_eq_true]
  have := h.small hv hxy
  refine ⟨j, List.mem_range.2 (by omega), ?_⟩
  rw [Bool.and_eq_true, decide_eq_true_iff, List.all_eq_true]
  refine ⟨fun i hi => ?_, he⟩
  obtain ⟨h1, h2⟩ := h i (List.mem_range.1 hi)
  simp [h1, h2]
theorem fil_ex {x y : Int} (h : fil a x y = true) : ∃ j, Fok a x (nr a x) y j ∧ atj a x (nr a x) j = y := by
  unfold fil at h
  rw [List.any_eq_true] at h
  obtain ⟨j, _, hj⟩ := h
  rw [Bool.and_eq_true, decide_eq_true_iff, List.all_eq_true] at hj
  refine ⟨j, fun i hi => ?_, hj.2⟩
  have := hj.1 i (List.mem_range.2 hi)
  simpa using this
theorem fil_f1 {x y : Int} {j : Nat} (h : Fok a x (nr a x) y j) (h1 : atj a x (nr a x) j < y) (h2 : (pl a (nr a x + j)).1 ≠ atj a x (nr a x) j) : fil a x y = false := by
  rcases hf : fil a x y with _ | _
  · rfl
  · exfalso
    obtain ⟨i, hi, he⟩ := fil_ex hf
    rcases Nat.lt_trichotomy i j with hlt | rfl | hgt
    · have := (h i hlt).1; omega
    · omega
    · exact h2 (hi j hgt).2
theorem fil_f2 {x y : Int} {j : Nat} (h : Fok a x (nr a x) y j) (h1 : y < atj a x (nr a x) j) : fil a x y = false := by
  rcases hf : fil a x y with _ | _
  · rfl
  · exfalso
    obtain ⟨i, hi, he⟩ := fil_ex hf
    rcases Nat.lt_trichotomy i j with hlt | rfl | hgt
    · have := (h i hlt).1; omega
    · omega
    · have := (hi j hgt).1; omega
def divB (a b : Cal) (K : Nat) : Bool := (List.range K).all fun k => fil a (pl b (k : Nat)).1 (pl b (k : Nat)).2
theorem divB_t {K : Nat} (h : ∀ k : Nat, k < K → fil a (pl b k).1 (pl b k).2 = true) : divB a b K = true := by
  unfold divB; rw [List.all_eq_true]; intro k hk; exact h k (List.mem_range.1 hk)
theorem divB_f {K k : Nat} (hk : k < K) (h : fil a (pl b k).1 (pl b k).2 = false) : divB a b K = false := by
  rcases hf : divB a b K with _ | _
  · rfl
  · unfold divB at hf; rw [List.all_eq_true] at hf
    rw [hf k (List.mem_range.2 hk)] at h; cases h
theorem divB_p {K : Nat} (h : divB a b K = true) {k : Nat} (hk : k < K) : fil a (pl b k).1 (pl b k).2 = true := by
  unfold divB at h; rw [List.all_eq_true] at h; exact h k (List.mem_range.2 hk)
/-- A calendar is finer than itself, and divides itself. -/
theorem Vc.lies_self (h : Vc a) (k : Int) : lies a a k = true := by
  unfold lies; rw [h.near_self]; exact decide_eq_true (Int.le_refl _)
theorem Vc.fil_self (h : Vc a) (k : Int) : fil a (pl a k).1 (pl a k).2 = true := by
  have hs := h.near_self k
  have lt := h.pl_lt k
  refine fil_t h (j := 1) (by omega) (fun i hi => ?_) ?_
  · obtain rfl : i = 0 := by omega
    rw [hs]; exact ⟨lt, by simp [atj]⟩
  · rw [hs]; show (pl a (k + (0 : Nat))).2 = _
    simp
theorem atj_shift (h : Vc a) (x n0 t : Int) : ∀ j, atj a (x + a.p * t) (n0 + a.l.length * t) j = atj a x n0 j + a.p * t
  | 0 => rfl
  | j + 1 => by
    show (pl a (n0 + a.l.length * t + j)).2 = (pl a (n0 + j)).2 + a.p * t
    rw [show n0 + a.l.length * t + (j : Int) = n0 + j + a.l.length * t by omega, h.pl_shift]
theorem Vc.fil_shift (h : Vc a) {x y : Int} (t : Int) (hxy : x ≤ y) (hf : fil a x y = true) : fil a (x + a.p * t) (y + a.p * t) = true := by
  obtain ⟨j, hj, he⟩ := fil_ex hf
  refine fil_t h (j := j) (by omega) (fun i hi => ?_) ?_
  · rw [h.nr_shift, atj_shift h]
    obtain ⟨h1, h2⟩ := hj i hi
    refine ⟨by omega, ?_⟩
    rw [show nr a x + a.l.length * t + (i : Int) = nr a x + i + a.l.length * t by omega, h.pl_shift]
    dsimp only; omega
  · rw [h.nr_shift, atj_shift h, he]
/-- What holds of the granules in one common period holds of all. -/
theorem div_all (ha : Vc a) (hb : Vc b) {mm qa qb : Int} (cp : Cp a b mm qa qb) (h : divB a b (qb * b.l.length).toNat = true) (k : Int) : fil a (pl b k).1 (pl b k).2 = true := by
  have n1 := hb.n1
  have hK : 0 < qb * (b.l.length : Int) := Int.mul_pos (by have := cp.b1; omega) (by omega)
  have r0 := Int.emod_nonneg k (show qb * (b.l.length : Int) ≠ 0 by omega)
  have r1 := Int.emod_lt_of_pos k hK
  have r2 := Int.mul_ediv_add_emod k (qb * (b.l.length : Int))
  obtain ⟨t, ht⟩ : ∃ t, k / (qb * (b.l.length : Int)) = t := ⟨_, rfl⟩
  obtain ⟨r, hr⟩ : ∃ r, k % (qb * (b.l.length : Int)) = r := ⟨_, rfl⟩
  rw [ht, hr] at r2
  rw [hr] at r0 r1
  have hh := divB_p h (k := r.toNat) (by omega)
  rw [show ((r.toNat : Nat) : Int) = r by omega] at hh
  have hs := ha.fil_shift (qa * t) (by have := hb.pl_lt r; omega) hh
  have e : k = r + b.l.length * (qb * t) := by
    rw [← r2, Int.mul_comm qb, Int.mul_assoc]; omega
  rw [e, hb.pl_shift]
  have e2 : b.p * (qb * t) = a.p * (qa * t) := by rw [← Int.mul_assoc, ← Int.mul_assoc, ← cp.ea, ← cp.eb]
  rw [e2]; exact hs
end
end Go.Proofs.Ytainibnjpkbfpaa.Cv
