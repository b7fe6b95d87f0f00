/- Plain mathematics of tables of leap seconds: no program in sight. -/
namespace Go.Proofs.Ytplgladflhglaaa.M
set_option linter.unusedVariables false
set_option linter.unusedSimpArgs false

/-- How many of the first k steps are not later than x. -/
def tot (A : Nat → Int) (x : Int) : Nat → Int
  | 0 => 0
  | k + 1 => tot A x k + (if A k ≤ x then 1 else 0)
theorem tot_le {A : Nat → Int} {x : Int} {k : Nat} (h : A k ≤ x) : tot A x (k + 1) = tot A x k + 1 := by simp only [tot, if_pos h]
theorem tot_gt {A : Nat → Int} {x : Int} {k : Nat} (h : x < A k) : tot A x (k + 1) = tot A x k := by simp only [tot, if_neg (show ¬ A k ≤ x by omega)]; omega
theorem tot_bd (A : Nat → Int) (x : Int) : ∀ k : Nat, 0 ≤ tot A x k ∧ tot A x k ≤ k
  | 0 => by simp [tot]
  | k + 1 => by
    have := tot_bd A x k
    by_cases h : A k ≤ x
    · rw [tot_le h]; omega
    · rw [tot_gt (by omega)]; omega
/-- A valid table. -/
structure Ok (n : Nat) (A T : Nat → Int) : Prop where
  n100 : n ≤ 100
  lo : ∀ i, i < n → -62135596800 < A i
  hi : ∀ i, i < n → A i < 253402300800
  day : ∀ i, i < n → A i % 86400 = 0
  tt : ∀ i, i < n → T i = i + 1
  inc : ∀ i, i + 1 < n → A i < A (i + 1)
theorem Ok.mono {n : Nat} {A T : Nat → Int} (h : Ok n A T) : ∀ {i j : Nat}, i < j → j < n → A i < A j
  | i, 0, hij, _ => by omega
  | i, j + 1, hij, hj => by
    have := h.inc j hj
    by_cases e : i = j
    · subst e; exact this
    · have := h.mono (i := i) (j := j) (by omega) (by omega); omega
def bfr (A : Nat → Int) : Nat → Int
  | 0 => -62135596800
  | i + 1 => A i
def step (A T : Nat → Int) (i : Nat) : Prop := A i % 86400 = 0 ∧ bfr A i < A i ∧ A i < 253402300800 ∧ T i = i + 1
theorem ok_of {n : Nat} {A T : Nat → Int} (h1 : n ≤ 100) (h : ∀ i, i < n → step A T i) : Ok n A T := by
  have lo : ∀ i, i < n → -62135596800 < A i := by
    intro i
    induction i with
    | zero => intro hi; exact (h 0 hi).2.1
    | succ i ih => intro hi; have h1 := ih (by omega); have h2 := (h (i + 1) hi).2.1; simp only [bfr] at h2; omega
  exact ⟨h1, lo, fun i hi => (h i hi).2.2.1, fun i hi => (h i hi).1, fun i hi => (h i hi).2.2.2, fun i hi => (h (i + 1) hi).2.1⟩
theorem Ok.step {n : Nat} {A T : Nat → Int} (h : Ok n A T) {i : Nat} (hi : i < n) : step A T i := by
  refine ⟨h.day i hi, ?_, h.hi i hi, h.tt i hi⟩
  cases i with
  | zero => exact h.lo 0 hi
  | succ i => exact h.inc i hi
noncomputable def okb (n : Nat) (A T : Nat → Int) : Bool := @decide (Ok n A T) (Classical.propDecidable _)
theorem okb_t {n : Nat} {A T : Nat → Int} (h : Ok n A T) : okb n A T = true := by simp only [okb, decide_eq_true_eq]; exact h
theorem okb_f {n : Nat} {A T : Nat → Int} (h : ¬ Ok n A T) : okb n A T = false := by simp only [okb, decide_eq_false_iff_not]; exact h
theorem ok_of_b {n : Nat} {A T : Nat → Int} (h : okb n A T = true) : Ok n A T := by simp only [okb, decide_eq_true_eq] at h; exact h
theorem not_of_b {n : Nat} {A T : Nat → Int} (h : okb n A T = false) : ¬ Ok n A T := by simp only [okb, decide_eq_false_iff_not] at h; exact h
theorem bfr_bd {A : Nat → Int} {n j : Nat} (h : ∀ i, i < n → -9223372036854775808 ≤ A i ∧ A i ≤ 9223372036854775807) (hj : j ≤ n) : -9223372036854775808 ≤ bfr A j ∧ bfr A j ≤ 9223372036854775807 := by
  cases j with
  | zero => simp [bfr]
  | succ j => exact h j (by omega)
theorem tmod_zero {a : Int} : a.tmod 86400 = 0 ↔ a % 86400 = 0 := by
  constructor
  · intro h; exact Int.emod_eq_zero_of_dvd (Int.dvd_of_tmod_eq_zero h)
  · intro h; exact Int.tmod_eq_zero_of_dvd (Int.dvd_of_emod_eq_zero h)
theorem tm_em (a : Int) : (a.tmod 86400 != 0) = (a % 86400 != 0) := by
  by_cases h : a.tmod 86400 = 0
  · have := tmod_zero.1 h; simp [h, this]
  · have : ¬ a % 86400 = 0 := fun h' => h (tmod_zero.2 h')
    have e1 : (a.tmod 86400 != 0) = true := by simp [h]
    have e2 : (a % 86400 != 0) = true := by simp [this]
    rw [e1, e2]
/-- How one step fares, test by test. -/
theorem step_cases (A T : Nat → Int) (j : Nat) : ((A j).tmod 86400 != 0) = true ∧ ¬ step A T j ∨ ((A j).tmod 86400 != 0) = false ∧ (A j ≤ bfr A j ∧ ¬ step A T j ∨ bfr A j < A j ∧ (253402300800 ≤ A j ∧ ¬ step A T j ∨ A j < 253402300800 ∧ ((T j != (j : Int) + 1) = true ∧ ¬ step A T j ∨ (T j != (j : Int) + 1) = false ∧ step A T j))) := by
  by_cases h1 : (A j).tmod 86400 = 0
  · right
    refine ⟨by simp [h1], ?_⟩
    by_cases h2 : A j ≤ bfr A j
    · left; exact ⟨h2, fun h => by have := h.2.1; omega⟩
    · right
      refine ⟨by omega, ?_⟩
      by_cases h3 : 253402300800 ≤ A j
      · left; exact ⟨h3, fun h => by have := h.2.2.1; omega⟩
      · right
        refine ⟨by omega, ?_⟩
        by_cases h4 : T j = j + 1
        · right; exact ⟨by simp [h4], tmod_zero.1 h1, by omega, by omega, h4⟩
        · left; exact ⟨by simp [h4], fun h => h4 h.2.2.2⟩
  · left; exact ⟨by simp [h1], fun h => h1 (tmod_zero.2 h.1)⟩
/-- The same, by the reference's tests. -/
theorem rstep_cases (A T : Nat → Int) (j : Nat) (hst : ∀ i, i < j → step A T i) : A j ≤ -62135596800 ∧ ¬ step A T j ∨ -62135596800 < A j ∧ (253402300800 ≤ A j ∧ ¬ step A T j ∨ A j < 253402300800 ∧ (((A j).tmod 86400 != 0) = true ∧ ¬ step A T j ∨ ((A j).tmod 86400 != 0) = false ∧ ((T j != (j : Int) + 1) = true ∧ ¬ step A T j ∨
    (T j != (j : Int) + 1) = false ∧ (j = 0 ∧ step A T j ∨ 0 < j ∧ (∀ i, j = i + 1 → A j ≤ A i) ∧ ¬ step A T j ∨ 0 < j ∧ (∀ i, j = i + 1 → A i < A j) ∧ step A T j)))) := by
  have lob : -62135596800 ≤ bfr A j := by
    have : ∀ i, i < j → -62135596800 < A i := by
      intro i
      induction i with
      | zero => intro hi; exact (hst 0 hi).2.1
      | succ i ih => intro hi; have h1 := ih (by omega); have h2 := (hst (i + 1) hi).2.1; simp only [bfr] at h2; omega
    cases j with
    | zero => simp [bfr]
    | succ j => have := this j (by omega); simp only [bfr]; omega
  by_cases h0 : A j ≤ -62135596800
  · left; exact ⟨h0, fun h => by have := h.2.1; omega⟩
  · right
    refine ⟨by omega, ?_⟩
    by_cases h3 : 253402300800 ≤ A j
    · left; exact ⟨h3, fun h => by have := h.2.2.1; omega⟩
    · right
      refine ⟨by omega, ?_⟩
      by_cases h1 : (A j).tmod 86400 = 0
      · right
        refine ⟨by simp [h1], ?_⟩
        by_cases h4 : T j = j + 1
        · right
          refine ⟨by simp [h4], ?_⟩
          rcases Nat.eq_zero_or_pos j with rfl | hj
          · left; exact ⟨rfl, tmod_zero.1 h1, by simp only [bfr]; omega, by omega, h4⟩
          · right
            obtain ⟨i, rfl⟩ : ∃ i, j = i + 1 := ⟨j - 1, by omega⟩
            by_cases h2 : A (i + 1) ≤ A i
            · left; exact ⟨hj, fun i' hi => by obtain rfl : i = i' := by omega
                                               exact h2, fun h => by have := h.2.1; simp only [bfr] at this; omega⟩
            · right; exact ⟨hj, fun i' hi => by obtain rfl : i = i' := by omega
                                                omega, tmod_zero.1 h1, by simp only [bfr]; omega, by omega, h4⟩
        · left; exact ⟨by simp [h4], fun h => h4 h.2.2.2⟩
      · left; exact ⟨by simp [h1], fun h => h1 (tmod_zero.2 h.1)⟩
/-- The steps that are not later than x are the first ones. -/
theorem tot_split {A : Nat → Int} {x : Int} : ∀ {n : Nat}, (∀ i j, i < j → j < n → A i < A j) → ∃ k : Nat, k ≤ n ∧ tot A x n = k ∧ (∀ i, i < k → A i ≤ x) ∧ (∀ i, k ≤ i → i < n → x < A i)
  | 0, _ => ⟨0, by omega, rfl, fun i h => by omega, fun i _ h => by omega⟩
  | n + 1, h => by
    obtain ⟨k, h1, h2, h3, h4⟩ := tot_split (A := A) (x := x) (n := n) fun i j a b => h i j a (by omega)
    by_cases hl : A n ≤ x
    · have : k = n := by
        rcases Nat.lt_or_ge k n with hk | hk
        · have := h4 k (by omega) hk
          have := h k n hk (by omega)
          omega
        · omega
      subst this
      refine ⟨k + 1, by omega, by rw [tot_le hl, h2]; rfl, fun i hi => ?_, fun i a b => by omega⟩
      by_cases e : i = k
      · subst e; exact hl
      · exact h3 i (by omega)
    · refine ⟨k, by omega, by rw [tot_gt (by omega), h2], h3, fun i a b => ?_⟩
      by_cases e : i = n
      · subst e; omega
      · exact h4 i a (by omega)
theorem tot_eq {A : Nat → Int} {x : Int} : ∀ {n k : Nat}, k ≤ n → (∀ i, i < k → A i ≤ x) → (∀ i, k ≤ i → i < n → x < A i) → tot A x n = k
  | 0, k, hk, _, _ => by obtain rfl : k = 0 := by omega
                         rfl
  | n + 1, k, hk, h1, h2 => by
    by_cases e : k = n + 1
    · subst e
      rw [tot_le (h1 n (by omega)), tot_eq (n := n) (k := n) (by omega) (fun i hi => h1 i (by omega)) (fun i a b => by omega)]; rfl
    · rw [tot_gt (h2 n (by omega) (by omega)), tot_eq (n := n) (k := k) (by omega) h1 (fun i a b => h2 i a (by omega))]
/-- The atomic time at which the inserted second of a step is. -/
def at_ (A : Nat → Int) (i : Nat) : Int := A i + i
theorem Ok.monoB {n : Nat} {A T : Nat → Int} (h : Ok n A T) : ∀ i j, i < j → j < n → at_ A i < at_ A j := fun i j a b => by
  have := h.mono a b; unfold at_; omega
/-- The instant of an atomic time: the instant, whether it is the inserted second, and the error. -/
def civ (n : Nat) (A : Nat → Int) (x : Int) : (Int × Bool) × Int :=
  if x < -62135596800 ∨ 253402300800 + (n : Int) ≤ x then ((0, false), 2)
  else if tot (at_ A) x n = tot (at_ A) (x - 1) n then ((x - tot (at_ A) x n, false), 0)
  else ((A (tot (at_ A) (x - 1) n).toNat, true), 0)
theorem civ_range {n : Nat} {A : Nat → Int} {x : Int} (h : x < -62135596800 ∨ 253402300800 + (n : Int) ≤ x) : civ n A x = ((0, false), 2) := by simp only [civ, if_pos h]
theorem civ_cases {n : Nat} {A T : Nat → Int} {x : Int} (h : Ok n A T) (h2 : ¬ (x < -62135596800 ∨ 253402300800 + (n : Int) ≤ x)) :
    ∃ k : Nat, k ≤ n ∧ (∀ i, i < k → A i + i < x) ∧ (∀ i, k ≤ i → i < n → x ≤ A i + i) ∧ ((k < n ∧ A k + k = x ∧ civ n A x = ((A k, true), 0)) ∨ ((k < n → x < A k + k) ∧ civ n A x = ((x - k, false), 0))) := by
  obtain ⟨k, k1, k2, k3, k4⟩ := tot_split (A := at_ A) (x := x - 1) h.monoB
  have k3' : ∀ i, i < k → A i + i < x := fun i hi => by have := k3 i hi; unfold at_ at this; omega
  have k4' : ∀ i, k ≤ i → i < n → x ≤ A i + i := fun i a b => by have := k4 i a b; unfold at_ at this; omega
  refine ⟨k, k1, k3', k4', ?_⟩
  by_cases hk : k < n ∧ A k + k = x
  · left
    have e : tot (at_ A) x n = ((k + 1 : Nat) : Int) := tot_eq (by omega) (fun i hi => by
      unfold at_
      by_cases e : i = k
      · subst e; omega
      · have := k3' i (by omega); omega) (fun i a b => by have := h.monoB k i (by omega) b; unfold at_ at *; omega)
    refine ⟨hk.1, hk.2, ?_⟩
    simp only [civ, if_neg h2]
    rw [if_neg (by rw [e, k2]; omega), k2]; simp
  · right
    have hx : k < n → x < A k + k := fun h => by have := k4' k (Nat.le_refl _) h; omega
    have e : tot (at_ A) x n = k := tot_eq k1 (fun i hi => by have := k3' i hi; unfold at_; omega) (fun i a b => by
      unfold at_
      by_cases e : i = k
      · subst e; exact hx b
      · have := h.monoB k i (by omega) b; have := hx (by omega); unfold at_ at *; omega)
    refine ⟨hx, ?_⟩
    simp only [civ, if_neg h2]
    rw [if_pos (by rw [e, k2]), e]
end Go.Proofs.Ytplgladflhglaaa.M
