/- Plain: which logs the reference takes for one of a store. -/
import Derived.Test.YtpmkohnljngbhaaGreatDoorSrM
namespace Go.Proofs.YtpmkohnljngbhaaGreatDoor.Sr
set_option linter.unusedVariables false
set_option linter.unusedSimpArgs false
set_option maxRecDepth 1000000
open Wl

/-- The next number, as the machine has it. -/
def nx64 (t : Int) : Int := if t = 9223372036854775807 then -9223372036854775808 else t + 1
def vstp (s : Option (Nat × Int × Bool)) (r : Rec) : Option (Nat × Int × Bool) :=
  s.bind fun x => if (x.2.2 = true ∧ r.t ≠ x.2.1) ∨ (x.2.2 = false ∧ 0 < x.2.1 ∧ r.t ≠ nx64 x.2.1) then none
    else if r.k = 3 then some (x.1 + 1, r.t, false) else if chR r = none then none else some (x.1, r.t, true)
def vfold (l : List Rec) : Option (Nat × Int × Bool) := l.foldl vstp (some (0, 0, false))
theorem vfold_snoc (l : List Rec) (r : Rec) : vfold (l ++ [r]) = vstp (vfold l) r := by simp [vfold]
theorem vstp_none (l : List Rec) : l.foldl vstp none = none := by induction l with | nil => rfl | cons r l ih => exact ih
theorem vfold_none {l : List Rec} {j : Nat} (h : vfold (l.take j) = none) : vfold l = none := by
  have : vfold l = (l.drop j).foldl vstp (vfold (l.take j)) := by
    unfold vfold; rw [← List.foldl_append, List.take_append_drop]
  rw [this, h, vstp_none]
theorem closed_snoc (l : List Rec) (r : Rec) : closed (l ++ [r]) = decide (r.k = 3) := by unfold closed; simp
def okR (l : List Rec) : Prop := ∀ r ∈ l, 1 ≤ r.t ∧ r.t < 9223372036854775808
theorem tfold_len {tx : Int} (l : List Rec) : ∀ {L : List (List Ch)} {op : List Ch} {t : Int}, tfold tx l = some (L, op, t) → L.length = commits l ∧ t = tx + commits l := by
  refine snoc_ind (P := fun l => ∀ {L : List (List Ch)} {op : List Ch} {t : Int}, tfold tx l = some (L, op, t) → L.length = commits l ∧ t = tx + commits l) ?_ ?_ l
  · intro L op t h
    simp only [tfold, List.foldl_nil, Option.some.injEq, Prod.mk.injEq] at h
    obtain ⟨rfl, rfl, rfl⟩ := h
    simp [commits]
  · intro l r ih L op t h
    rw [tfold_snoc] at h
    rcases hf : tfold tx l with _ | ⟨L0, o0, t0⟩
    · rw [hf] at h; cases h
    · obtain ⟨i1, i2⟩ := ih hf
      rw [hf] at h
      unfold tstp at h
      simp only [Option.bind_some] at h
      rw [commits_snoc]
      split at h
      · cases h
      · split at h
        · rename_i h3
          simp only [Option.some.injEq, Prod.mk.injEq] at h
          obtain ⟨rfl, rfl, rfl⟩ := h
          rw [if_pos h3]
          simp; omega
        · rename_i h3
          rw [if_neg h3]
          rcases hc : chR r with _ | c
          · rw [hc] at h; cases h
          · rw [hc] at h
            simp only [Option.map_some, Option.some.injEq, Prod.mk.injEq] at h
            obtain ⟨rfl, rfl, rfl⟩ := h
            exact ⟨i1, i2⟩
/-- What the reference reads is read with the number that its first record has. -/
theorem vfold_t (l : List Rec) : okR l → ∀ {k : Nat} {tx : Int} {op : Bool}, vfold l = some (k, tx, op) →
    k = commits l ∧ closed l = !op ∧ (l = [] ∧ tx = 0 ∨ 1 ≤ tx ∧ tx < 9223372036854775808 ∧ ∃ t0 L o, tfold t0 l = some (L, o, if op = true then tx else tx + 1)) := by
  refine snoc_ind (P := fun l => okR l → ∀ {k : Nat} {tx : Int} {op : Bool}, vfold l = some (k, tx, op) →
    k = commits l ∧ closed l = !op ∧ (l = [] ∧ tx = 0 ∨ 1 ≤ tx ∧ tx < 9223372036854775808 ∧ ∃ t0 L o, tfold t0 l = some (L, o, if op = true then tx else tx + 1))) ?_ ?_ l
  · intro _ k tx op h
    simp only [vfold, List.foldl_nil, Option.some.injEq, Prod.mk.injEq] at h
    obtain ⟨rfl, rfl, rfl⟩ := h
    exact ⟨rfl, rfl, .inl ⟨rfl, rfl⟩⟩
  · intro l r ih hok k tx op h
    have hr := hok r (by simp)
    rw [vfold_snoc] at h
    rcases hf : vfold l with _ | ⟨k0, t0, o0⟩
    · rw [hf] at h; cases h
    obtain ⟨i1, i2, i3⟩ := ih (fun x hx => hok x (by simp [hx])) hf
    rw [hf] at h
    unfold vstp at h
    simp only [Option.bind_some] at h
    split at h
    · cases h
    rename_i hn
    simp only [not_or, not_and, Decidable.not_not, ne_eq] at hn
    -- the number that is wanted
    have key : ∃ s0 L o, tfold s0 l = some (L, o, r.t) := by
      rcases i3 with ⟨rfl, rfl⟩ | ⟨j1, j2, s0, L, o, j3⟩
      · exact ⟨r.t, [], [], rfl⟩
      · refine ⟨s0, L, o, ?_⟩
        rw [j3]
        cases o0 with
        | true => rw [if_pos rfl, hn.1 rfl]
        | false =>
          have := hn.2 rfl (by omega)
          unfold nx64 at this
          split at this
          · omega
          · simp only [Bool.false_eq_true, if_false]; rw [this]
    obtain ⟨s0, L, o, hk⟩ := key
    rw [commits_snoc, closed_snoc]
    split at h
    · rename_i h3
      simp only [Option.some.injEq, Prod.mk.injEq] at h
      obtain ⟨rfl, rfl, rfl⟩ := h
      refine ⟨by rw [if_pos h3, i1], by simp [h3], .inr ⟨hr.1, hr.2, s0, L ++ [o], [], ?_⟩⟩
      rw [tfold_snoc, hk]
      unfold tstp
      simp [h3]
    · rename_i h3
      split at h
      · cases h
      rename_i hc
      simp only [Option.some.injEq, Prod.mk.injEq] at h
      obtain ⟨rfl, rfl, rfl⟩ := h
      obtain ⟨c, hc⟩ := Option.ne_none_iff_exists'.1 hc
      refine ⟨by rw [if_neg h3, i1], by simp [h3], .inr ⟨hr.1, hr.2, s0, L, o ++ [c], ?_⟩⟩
      rw [tfold_snoc, hk]
      unfold tstp
      simp [h3, hc]
theorem vfold_of {t0 : Int} (h0 : 1 ≤ t0) (l : List Rec) : ∀ {L : List (List Ch)} {o : List Ch} {t : Int}, tfold t0 l = some (L, o, t) → t < 9223372036854775808 →
    vfold l = some (commits l, if closed l = true then (if l = [] then 0 else t - 1) else t, !closed l) := by
  refine snoc_ind (P := fun l => ∀ {L : List (List Ch)} {o : List Ch} {t : Int}, tfold t0 l = some (L, o, t) → t < 9223372036854775808 →
    vfold l = some (commits l, if closed l = true then (if l = [] then 0 else t - 1) else t, !closed l)) ?_ ?_ l
  · intro L o t _ _
    simp [vfold, closed, commits]
  · intro l r ih L o t h ht
    rw [tfold_snoc] at h
    rcases hf : tfold t0 l with _ | ⟨L0, o0, s0⟩
    · rw [hf] at h; cases h
    obtain ⟨_, n2⟩ := tfold_len l hf
    rw [hf] at h
    unfold tstp at h
    simp only [Option.bind_some] at h
    split at h
    · cases h
    rename_i hn
    simp only [ne_eq, Decidable.not_not] at hn
    have hs : s0 < 9223372036854775808 := by
      split at h
      · simp only [Option.some.injEq, Prod.mk.injEq] at h; omega
      · rcases hc : chR r with _ | c
        · rw [hc] at h; cases h
        · rw [hc] at h
          simp only [Option.map_some, Option.some.injEq, Prod.mk.injEq] at h; omega
    have hv := ih hf hs
    rw [vfold_snoc, hv]
    unfold vstp
    simp only [Option.bind_some]
    have hlc : closed l = true → l ≠ [] → 1 ≤ commits l := by
      intro hc he
      obtain ⟨m, x, rfl⟩ : ∃ m x, l = m ++ [x] := ⟨l.dropLast, l.getLast he, (List.dropLast_concat_getLast he).symm⟩
      rw [closed_snoc, decide_eq_true_eq] at hc
      rw [commits_snoc, if_pos hc]; omega
    have hno : ¬ (((!closed l) = true ∧ r.t ≠ (if closed l = true then (if l = [] then 0 else s0 - 1) else s0)) ∨ ((!closed l) = false ∧ 0 < (if closed l = true then (if l = [] then (0:Int) else s0 - 1) else s0) ∧ r.t ≠ nx64 (if closed l = true then (if l = [] then 0 else s0 - 1) else s0))) := by
      rintro (⟨h1, h2⟩ | ⟨h1, h2, h3⟩)
      · have : closed l = false := by simpa using h1
        rw [this] at h2
        exact h2 (by simpa using hn)
      · have hc : closed l = true := by simpa using h1
        rw [hc] at h2 h3
        by_cases he : l = []
        · rw [if_pos rfl, if_pos he] at h2; omega
        · rw [if_pos rfl, if_neg he] at h2 h3
          apply h3
          unfold nx64
          rw [if_neg (by omega), hn]; omega
    rw [if_neg hno, commits_snoc, closed_snoc]
    split at h
    · rename_i h3
      simp only [Option.some.injEq, Prod.mk.injEq] at h
      obtain ⟨_, _, rfl⟩ := h
      rw [if_pos h3, if_pos h3]
      simp [h3, hn]
    · rename_i h3
      rw [if_neg h3, if_neg h3]
      rcases hc : chR r with _ | c
      · rw [hc] at h; cases h
      · rw [hc] at h
        simp only [Option.map_some, Option.some.injEq, Prod.mk.injEq] at h
        obtain ⟨_, _, rfl⟩ := h
        simp [h3, hn]
/-- Whether the reference takes a log for one of a store with a last number. -/
def vend (log : List UInt8) (last : Int) (s : Nat × Int × Bool) : Bool := !(s.2.2 || decide (last < s.1) || (decide (0 < s.1) && decide (s.2.1 ≠ last)))
def vok (log : List UInt8) (last : Int) : Bool :=
  decide (glen log = log.length) && decide (0 ≤ last) && decide (last ≤ 2147483648) && match vfold (rd log) with
    | none => false
    | some s => vend log last s
theorem rd_okR (log : List UInt8) : okR (rd log) := fun r hr => by
  have := rd_ok log r hr
  exact ⟨this.2.2.1, this.2.2.2.1⟩
theorem vok_iff (log : List UInt8) (last : Int) : vok log last = true ↔ 0 ≤ last ∧ last ≤ 2147483648 ∧ ∃ L, trx log last = some L := by
  unfold vok
  constructor
  · intro h
    simp only [Bool.and_eq_true, decide_eq_true_eq] at h
    obtain ⟨⟨⟨h1, h2⟩, h3⟩, h4⟩ := h
    refine ⟨h2, h3, ?_⟩
    rcases hv : vfold (rd log) with _ | ⟨k, tx, op⟩
    · rw [hv] at h4; cases h4
    rw [hv] at h4
    simp only [vend, Bool.not_eq_true', Bool.or_eq_false_iff, decide_eq_false_iff_not, Bool.and_eq_false_iff, Int.not_lt, Decidable.not_not, ne_eq] at h4
    obtain ⟨⟨h5, h6⟩, h7⟩ := h4
    subst h5
    obtain ⟨i1, i2, i3⟩ := vfold_t _ (rd_okR log) hv
    subst i1
    have hc : closed (rd log) = true := by simpa using i2
    unfold trx
    rw [if_neg (by rw [hc]; simp [h1]; omega)]
    rcases i3 with ⟨e, _⟩ | ⟨j1, j2, t0, L, o, j3⟩
    · rw [e]; exact ⟨[], rfl⟩
    · simp only [Bool.false_eq_true, if_false] at j3
      have hl := (tfold_len _ j3).2
      have hk : 0 < commits (rd log) := by
        by_cases he : rd log = []
        · rw [he] at j3
          simp only [tfold, List.foldl_nil, Option.some.injEq, Prod.mk.injEq] at j3
          rw [he] at hv
          simp only [vfold, List.foldl_nil, Option.some.injEq, Prod.mk.injEq] at hv
          omega
        · obtain ⟨m, x, hm⟩ : ∃ m x, rd log = m ++ [x] := ⟨(rd log).dropLast, (rd log).getLast he, (List.dropLast_concat_getLast he).symm⟩
          rw [hm] at hc ⊢
          rw [closed_snoc, decide_eq_true_eq] at hc
          rw [commits_snoc, if_pos hc]; omega
      have : tx = last := by rcases h7 with h7 | h7 <;> omega
      rw [show last - commits (rd log) + 1 = t0 by omega, j3]
      exact ⟨L, rfl⟩
  · rintro ⟨h2, h3, L, h⟩
    obtain ⟨g1, g2, g3, o, t, hf⟩ := trx_ok h
    have hl := (tfold_len _ hf).2
    have hv := vfold_of (by omega) _ hf (by omega)
    rw [hv, g2]
    simp only [Bool.and_eq_true, decide_eq_true_eq]
    refine ⟨⟨⟨g1, h2⟩, h3⟩, ?_⟩
    simp only [vend, Bool.not_true, if_true, Bool.not_eq_true', Bool.or_eq_false_iff, decide_eq_false_iff_not, Bool.and_eq_false_iff, Int.not_lt, Decidable.not_not, ne_eq, true_and]
    refine ⟨g3, ?_⟩
    by_cases he : rd log = []
    · left; rw [he]; simp [commits]
    · right; rw [if_neg he]; omega
end Go.Proofs.YtpmkohnljngbhaaGreatDoor.Sr
