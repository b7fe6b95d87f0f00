/- The order of lists of bytes; where a key lies among items. -/
import Derived.Test.YtphiblmkgbkdmaaDoorPgM2
import Derived.Lib.Bytealg
namespace Go.Proofs.YtphiblmkgbkdmaaDoor.Pg
set_option linter.unusedVariables false
set_option linter.unusedSimpArgs false

/-- The order of lists of bytes. -/
def cmpB (a b : List UInt8) : Int := Lib.compareBytes a b
theorem cmpB_cons (x y : UInt8) (a b : List UInt8) : cmpB (x :: a) (y :: b) = if x < y then -1 else if y < x then 1 else cmpB a b := rfl
theorem cmpB_nil : cmpB [] [] = 0 := rfl
theorem cmpB_nc (y : UInt8) (b : List UInt8) : cmpB [] (y :: b) = -1 := rfl
theorem cmpB_cn (x : UInt8) (a : List UInt8) : cmpB (x :: a) [] = 1 := rfl
theorem cmpB_cases (a b : List UInt8) : cmpB a b = -1 ∨ cmpB a b = 0 ∨ cmpB a b = 1 := by
  induction a generalizing b with
  | nil => cases b with
    | nil => exact .inr (.inl rfl)
    | cons y b => exact .inl rfl
  | cons x a ih => cases b with
    | nil => exact .inr (.inr rfl)
    | cons y b =>
      rw [cmpB_cons]
      split
      · exact .inl rfl
      · split
        · exact .inr (.inr rfl)
        · exact ih b
theorem cmpB_eq {a b : List UInt8} : cmpB a b = 0 ↔ a = b := by
  induction a generalizing b with
  | nil => cases b with
    | nil => simp [cmpB_nil]
    | cons y b => simp [cmpB_nc]
  | cons x a ih => cases b with
    | nil => simp [cmpB_cn]
    | cons y b =>
      rw [cmpB_cons]
      split
      · rename_i h
        constructor
        · intro e; cases e
        · intro e; injection e with e; subst e; exact absurd h (UInt8.lt_irrefl _)
      · split
        · rename_i h
          constructor
          · intro e; cases e
          · intro e; injection e with e; subst e; exact absurd h (UInt8.lt_irrefl _)
        · rename_i h1 h2
          have e : x = y := UInt8.le_antisymm (UInt8.not_lt.1 h2) (UInt8.not_lt.1 h1)
          rw [ih, e]
          simp
theorem cmpB_self (a : List UInt8) : cmpB a a = 0 := cmpB_eq.2 rfl
theorem cmpB_swap (a b : List UInt8) : cmpB b a = - cmpB a b := by
  induction a generalizing b with
  | nil => cases b <;> rfl
  | cons x a ih => cases b with
    | nil => rfl
    | cons y b =>
      rw [cmpB_cons, cmpB_cons]
      by_cases h1 : x < y
      · rw [if_pos h1, if_neg (UInt8.lt_asymm h1), if_pos h1]; rfl
      · rw [if_neg h1]
        by_cases h2 : y < x
        · rw [if_pos h2, if_neg h1, if_pos h2]
        · rw [if_neg h2, if_neg h1, if_neg h2, ih b]
theorem cmpB_trans {a b c : List UInt8} (h : cmpB a b < 0) (k : cmpB b c < 0) : cmpB a c < 0 := by
  induction a generalizing b c with
  | nil => cases b with
    | nil => exact absurd h (by decide)
    | cons y b => cases c with
      | nil => rw [cmpB_cn] at k; omega
      | cons z c => rw [cmpB_nc]; omega
  | cons x a ih => cases b with
    | nil => rw [cmpB_cn] at h; omega
    | cons y b => cases c with
      | nil => rw [cmpB_cn] at k; omega
      | cons z c =>
        rw [cmpB_cons] at h k ⊢
        by_cases h1 : x < y
        · rw [if_pos h1] at h
          by_cases k1 : y < z
          · rw [if_pos (UInt8.lt_trans h1 k1)]; omega
          · rw [if_neg k1] at k
            by_cases k2 : z < y
            · rw [if_pos k2] at k; omega
            · have e : y = z := UInt8.le_antisymm (UInt8.not_lt.1 k2) (UInt8.not_lt.1 k1)
              subst e
              rw [if_pos h1]; omega
        · rw [if_neg h1] at h
          by_cases h2 : y < x
          · rw [if_pos h2] at h; omega
          · rw [if_neg h2] at h
            have e : x = y := UInt8.le_antisymm (UInt8.not_lt.1 h2) (UInt8.not_lt.1 h1)
            subst e
            by_cases k1 : x < z
            · rw [if_pos k1]; omega
            · rw [if_neg k1] at k ⊢
              by_cases k2 : z < x
              · rw [if_pos k2] at k; omega
              · rw [if_neg k2] at k ⊢
                exact ih h k
theorem cmpB_ne {a b : List UInt8} (h : cmpB a b < 0) : a ≠ b := fun e => by subst e; rw [cmpB_self] at h; omega
theorem cmpB_asymm {a b : List UInt8} (h : cmpB a b < 0) : ¬ cmpB b a < 0 := by rw [cmpB_swap]; omega
/-- The keys ascend strictly. -/
def Srt (l : List It) : Prop := l.Pairwise fun a b => cmpB a.k b.k < 0
theorem Srt.at_ {l : List It} (h : Srt l) {i j : Nat} {x y : It} (hx : l[i]? = some x) (hy : l[j]? = some y) (hij : i < j) : cmpB x.k y.k < 0 := by
  obtain ⟨h1, rfl⟩ := List.getElem?_eq_some_iff.1 hx
  obtain ⟨h2, rfl⟩ := List.getElem?_eq_some_iff.1 hy
  exact List.pairwise_iff_getElem.1 h i j h1 h2 hij
/-- i is the place of a key among items, and b says whether it is there. -/
structure Plc (l : List It) (key : List UInt8) (i : Nat) (b : Bool) : Prop where
  le : i ≤ l.length
  lo : ∀ (j : Nat) (x : It), j < i → l[j]? = some x → cmpB x.k key < 0
  hi : ∀ (j : Nat) (x : It), i ≤ j → l[j]? = some x → 0 ≤ cmpB x.k key
  fd : b = true ↔ ∃ x, l[i]? = some x ∧ x.k = key
theorem Plc.uniq {l : List It} {key : List UInt8} {i j : Nat} {b c : Bool} (h : Plc l key i b) (k : Plc l key j c) : i = j ∧ b = c := by
  have e : i = j := by
    rcases Nat.lt_trichotomy i j with hlt | rfl | hlt
    · have hx : l[i]? = some (l[i]'(by have := k.le; omega)) := List.getElem?_eq_getElem _
      have := h.hi i _ (Nat.le_refl _) hx
      have := k.lo i _ hlt hx
      omega
    · rfl
    · have hx : l[j]? = some (l[j]'(by have := h.le; omega)) := List.getElem?_eq_getElem _
      have := k.hi j _ (Nat.le_refl _) hx
      have := h.lo j _ hlt hx
      omega
  subst e
  exact ⟨rfl, Bool.eq_iff_iff.2 (h.fd.trans k.fd.symm)⟩
/-- From sorted items: one test tells all. -/
theorem Srt.below {l : List It} (h : Srt l) {key : List UInt8} {m : Nat} {x : It} (hx : l[m]? = some x) (hc : cmpB x.k key < 0) : ∀ (j : Nat) (y : It), j < m + 1 → l[j]? = some y → cmpB y.k key < 0 := by
  intro j y hj hy
  rcases Nat.lt_or_ge j m with hlt | hge
  · exact cmpB_trans (h.at_ hy hx hlt) hc
  · obtain rfl : j = m := by omega
    rw [hx] at hy; injection hy with hy; subst hy; exact hc
theorem Srt.above {l : List It} (h : Srt l) {key : List UInt8} {m : Nat} {x : It} (hx : l[m]? = some x) (hc : ¬ cmpB x.k key < 0) : ∀ (j : Nat) (y : It), m ≤ j → l[j]? = some y → 0 ≤ cmpB y.k key := by
  intro j y hj hy
  rcases Nat.lt_or_ge m j with hlt | hge
  · exact Decidable.byContradiction fun hn => hc (cmpB_trans (h.at_ hx hy hlt) (by omega))
  · obtain rfl : m = j := by omega
    rw [hx] at hy; injection hy with hy; subst hy; omega
end Go.Proofs.YtphiblmkgbkdmaaDoor.Pg
