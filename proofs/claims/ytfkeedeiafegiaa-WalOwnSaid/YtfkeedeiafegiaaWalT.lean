/- Plain: what waits for a commit, what is compacted, what is repaired. -/
import Derived.Test.YtfkeedeiafegiaaWalW15
namespace Go.Proofs.Ytfkeedeiafegiaa.Wl
set_option linter.unusedVariables false
set_option linter.unusedSimpArgs false
open Go.Maps

theorem snoc_ind {α : Type} {P : List α → Prop} (h0 : P []) (h1 : ∀ l x, P l → P (l ++ [x])) (l : List α) : P l := by
  suffices h : ∀ n (l : List α), l.length = n → P l from h _ l rfl
  intro n
  induction n with
  | zero => intro l hl; obtain rfl := List.eq_nil_of_length_eq_zero hl; exact h0
  | succ n ih =>
    intro l hl
    rcases List.eq_nil_or_concat l with rfl | ⟨l, x, rfl⟩
    · exact h0
    · rw [List.concat_eq_append] at hl ⊢
      exact h1 l x (ih l (by simpa using hl))
/-- The records that wait for a commit. -/
def pstp (p : List Rec) (r : Rec) : List Rec := if r.k = 3 then p.filter (fun x => decide (x.t ≠ r.t)) else p ++ [r]
def pend (l : List Rec) : List Rec := l.foldl pstp []
theorem pend_snoc (l : List Rec) (r : Rec) : pend (l ++ [r]) = pstp (pend l) r := by simp [pend]
theorem sts_open (l : List Rec) : ∀ t, (sts l).1 t = (pend l).filter (fun x => decide (x.t = t)) := by
  induction l using snoc_ind with
  | h0 => intro t; rfl
  | h1 l r ih =>
    intro t
    rw [sts_snoc, pend_snoc]
    unfold stp pstp
    by_cases hk : r.k = 3
    · rw [if_pos hk, if_pos hk]
      dsimp only
      by_cases e : t = r.t
      · subst e
        rw [upd_same, List.filter_filter]
        symm
        rw [List.filter_eq_nil_iff]
        intro a _ h
        simp at h
      · rw [upd_other _ _ e, ih t, List.filter_filter]
        congr 1
        funext x
        by_cases hx : x.t = t
        · simp [hx, e]
        · simp [hx]
    · rw [if_neg hk, if_neg hk]
      dsimp only
      by_cases e : t = r.t
      · subst e
        rw [upd_same, ih, List.filter_append]
        simp
      · rw [upd_other _ _ e, ih t, List.filter_append]
        have : ¬ r.t = t := fun h => e h.symm
        simp [this]
theorem trs_snoc (l : List Rec) (r : Rec) : trs (l ++ [r]) = if r.k = 3 then trs l ++ [(r.t, (pend l).filter (fun x => decide (x.t = r.t)))] else trs l := by
  unfold trs
  rw [sts_snoc]
  unfold stp
  by_cases hk : r.k = 3
  · rw [if_pos hk, if_pos hk]; dsimp only; rw [sts_open]
  · rw [if_neg hk, if_neg hk]
theorem pend_k (l : List Rec) : ∀ x ∈ pend l, x.k ≠ 3 ∧ x ∈ l := by
  induction l using snoc_ind with
  | h0 => intro x hx; cases hx
  | h1 l r ih =>
    intro x hx
    rw [pend_snoc] at hx
    unfold pstp at hx
    by_cases hk : r.k = 3
    · rw [if_pos hk] at hx
      have := ih x ((List.mem_filter.1 hx).1)
      exact ⟨this.1, List.mem_append_left _ this.2⟩
    · rw [if_neg hk] at hx
      rcases List.mem_append.1 hx with hx | hx
      · exact ⟨(ih x hx).1, List.mem_append_left _ (ih x hx).2⟩
      · obtain rfl : x = r := by simpa using hx
        exact ⟨hk, by simp⟩
theorem trs_k (l : List Rec) : ∀ p ∈ trs l, (∀ x ∈ p.2, x.k ≠ 3 ∧ x.t = p.1 ∧ x ∈ l) ∧ ∃ r ∈ l, r.k = 3 ∧ r.t = p.1 := by
  induction l using snoc_ind with
  | h0 => intro x hx; cases hx
  | h1 l r ih =>
    intro p hp
    rw [trs_snoc] at hp
    have old : p ∈ trs l → (∀ x ∈ p.2, x.k ≠ 3 ∧ x.t = p.1 ∧ x ∈ l ++ [r]) ∧ ∃ q ∈ l ++ [r], q.k = 3 ∧ q.t = p.1 := fun h => by
      obtain ⟨h1, q, h2, h3⟩ := ih p h
      exact ⟨fun x hx => ⟨(h1 x hx).1, (h1 x hx).2.1, List.mem_append_left _ (h1 x hx).2.2⟩, q, List.mem_append_left _ h2, h3⟩
    by_cases hk : r.k = 3
    · rw [if_pos hk] at hp
      rcases List.mem_append.1 hp with hp | hp
      · exact old hp
      · obtain rfl : p = _ := by simpa using hp
        refine ⟨fun x hx => ?_, r, by simp, hk, rfl⟩
        obtain ⟨h1, h2⟩ := List.mem_filter.1 hx
        exact ⟨(pend_k l x h1).1, by simpa using h2, List.mem_append_left _ (pend_k l x h1).2⟩
    · rw [if_neg hk] at hp; exact old hp
def Rec.end_ (t : Int) : Rec := ⟨3, t, []⟩
def grp (p : Int × List Rec) : List Rec := p.2 ++ [Rec.end_ p.1]
/-- The records that are kept by compacting. -/
def cmp (l : List Rec) (f : Int) : List Rec := (((trs l).filter (fun p => decide (f ≤ p.1))).map grp).flatten
theorem encs_len_app (a b : List Rec) : (encs (a ++ b)).length = (encs a).length + (encs b).length := by rw [encs_app, List.length_append]
theorem encs_split_len (p : Rec → Bool) (l : List Rec) : (encs (l.filter p)).length + (encs (l.filter fun x => !p x)).length = (encs l).length := by
  induction l with
  | nil => rfl
  | cons r l ih =>
    rw [encs_cons, List.length_append]
    by_cases h : p r = true
    · have h' : ¬ (!p r) = true := by simp [h]
      rw [List.filter_cons_of_pos h, List.filter_cons_of_neg (p := fun x => !p x) h', encs_cons, List.length_append]; omega
    · have h' : (!p r) = true := by simpa using h
      rw [List.filter_cons_of_neg h, List.filter_cons_of_pos (p := fun x => !p x) h', encs_cons, List.length_append]; omega
theorem trs_len (l : List Rec) (h : ∀ r ∈ l, ok r) : (encs ((trs l).map grp).flatten).length + (encs (pend l)).length = (encs l).length := by
  induction l using snoc_ind with
  | h0 => rfl
  | h1 l r ih =>
    have ih := ih fun x hx => h x (List.mem_append_left _ hx)
    rw [trs_snoc, pend_snoc, encs_len_app l]
    unfold pstp
    by_cases hk : r.k = 3
    · rw [if_pos hk, if_pos hk, List.map_append, List.flatten_append, encs_len_app]
      have hd : r.d = [] := (h r (by simp)).2.2.2.2.2 hk
      have h1 := encs_split_len (fun x => decide (x.t = r.t)) (pend l)
      have h2 : (pend l).filter (fun x => decide (x.t ≠ r.t)) = (pend l).filter fun x => !decide (x.t = r.t) := by congr 1; funext x; simp
      rw [h2]
      have h3 : (encs [r]).length = 21 := by simp [encs, enc_len, hd]
      have h4 : (encs [Rec.end_ r.t]).length = 21 := by simp [encs, enc_len, Rec.end_]
      have h5 : ([(r.t, (pend l).filter (fun x => decide (x.t = r.t)))].map grp).flatten = (pend l).filter (fun x => decide (x.t = r.t)) ++ [Rec.end_ r.t] := by simp [grp]
      rw [h5, encs_len_app, h3, h4]
      omega
    · rw [if_neg hk, if_neg hk, encs_len_app]
      omega
theorem flat_filter_len (q : List (Int × List Rec)) (p : Int × List Rec → Bool) : (encs ((q.filter p).map grp).flatten).length ≤ (encs (q.map grp).flatten).length := by
  induction q with
  | nil => exact Nat.le_refl _
  | cons x q ih =>
    by_cases h : p x = true
    · rw [List.filter_cons_of_pos h]; simp only [List.map_cons, List.flatten_cons, encs_len_app]; omega
    · rw [List.filter_cons_of_neg h]; simp only [List.map_cons, List.flatten_cons, encs_len_app]; omega
theorem cmp_len (l : List Rec) (f : Int) (h : ∀ r ∈ l, ok r) : (encs (cmp l f)).length ≤ (encs l).length := by
  have h1 := trs_len l h
  have h2 := flat_filter_len (trs l) (fun p => decide (f ≤ p.1))
  unfold cmp
  omega
theorem cmp_ok (l : List Rec) (f : Int) (h : ∀ r ∈ l, ok r) : ∀ r ∈ cmp l f, ok r := by
  intro r hr
  unfold cmp at hr
  obtain ⟨g, hg, hr⟩ := List.mem_flatten.1 hr
  obtain ⟨p, hp, rfl⟩ := List.mem_map.1 hg
  obtain ⟨h1, q, h2, h3, h4⟩ := trs_k l p ((List.mem_filter.1 hp).1)
  rcases List.mem_append.1 hr with hr | hr
  · exact h r (h1 r hr).2.2
  · obtain rfl : r = Rec.end_ p.1 := by simpa using hr
    have := h q h2
    unfold ok at this ⊢
    rw [h4] at this
    exact ⟨by show (1 : Int) ≤ 3; decide, by show (3 : Int) ≤ 3; decide, this.2.2.1, this.2.2.2.1, by simp [Rec.end_], fun _ => rfl⟩
/-- A group is read as a transaction. -/
theorem sts_grp (p : Int × List Rec) (h : ∀ x ∈ p.2, x.k ≠ 3 ∧ x.t = p.1) (out : List (Int × List Rec)) : (grp p).foldl stp (fun _ => [], out) = (fun _ => [], out ++ [p]) := by
  obtain ⟨t, l⟩ := p
  have h1 : l.foldl stp (fun _ => [], out) = (upd (fun _ => []) t l, out) := by
    induction l using snoc_ind with
    | h0 =>
      have : upd (fun _ => []) t ([] : List Rec) = fun _ => [] := by funext x; unfold upd; split <;> rfl
      rw [this]; rfl
    | h1 l r ih =>
      rw [List.foldl_append, ih fun x hx => h x (List.mem_append_left _ hx)]
      obtain ⟨hk, ht⟩ := h r (by simp)
      show stp (upd (fun _ => []) t l, out) r = _
      unfold stp
      rw [if_neg hk]
      dsimp only
      have ht : r.t = t := ht
      rw [ht, upd_same]
      congr 1
      funext x
      unfold upd
      split <;> rfl
  unfold grp
  rw [List.foldl_append]
  dsimp only
  rw [h1]
  show stp (upd (fun _ => []) t l, out) (Rec.end_ t) = _
  unfold stp
  rw [if_pos (show (Rec.end_ t).k = 3 from rfl)]
  show (upd (upd (fun _ => []) t l) t [], out ++ [(t, upd (fun _ => []) t l t)]) = _
  rw [upd_same]
  congr 1
  funext x
  unfold upd
  split <;> rfl
theorem trs_grps (q : List (Int × List Rec)) (h : ∀ p ∈ q, ∀ x ∈ p.2, x.k ≠ 3 ∧ x.t = p.1) : ∀ out, (q.map grp).flatten.foldl stp (fun _ => [], out) = (fun _ => [], out ++ q) := by
  induction q with
  | nil => intro out; simp
  | cons p q ih =>
    intro out
    rw [List.map_cons, List.flatten_cons, List.foldl_append, sts_grp p (h p (by simp)), ih fun p hp => h p (by simp [hp])]
    simp
theorem trs_cmp (l : List Rec) (f : Int) : trs (cmp l f) = (trs l).filter (fun p => decide (f ≤ p.1)) := by
  unfold cmp
  rw [trs, sts, trs_grps]
  · simp
  · intro p hp x hx
    have := (trs_k l p ((List.mem_filter.1 hp).1)).1 x hx
    exact ⟨this.1, this.2.1⟩
theorem com_cmp (l : List Rec) (f : Int) : com (cmp l f) = (com l).filter (fun x => decide (f ≤ x.t)) := by
  unfold com
  rw [trs_cmp]
  have h := fun p hp => (trs_k l p hp).1
  revert h
  generalize trs l = q
  intro h
  induction q with
  | nil => rfl
  | cons p q ih =>
    have ih := ih fun p hp => h p (by simp [hp])
    have hp := h p (by simp)
    by_cases e : f ≤ p.1
    · rw [List.filter_cons_of_pos (by simpa using e)]
      simp only [List.map_cons, List.flatten_cons, List.filter_append]
      rw [ih]
      congr 1
      symm
      rw [List.filter_eq_self]
      intro x hx
      rw [(hp x hx).2.1]; simpa using e
    · rw [List.filter_cons_of_neg (by simpa using e)]
      simp only [List.map_cons, List.flatten_cons, List.filter_append]
      rw [ih]
      have : p.2.filter (fun x => decide (f ≤ x.t)) = [] := by
        rw [List.filter_eq_nil_iff]
        intro x hx
        rw [(hp x hx).2.1]; simpa using e
      rw [this, List.nil_append]
theorem com_mem (l : List Rec) : ∀ x ∈ com l, x ∈ l := by
  intro x hx
  unfold com at hx
  obtain ⟨g, hg, hx⟩ := List.mem_flatten.1 hx
  obtain ⟨p, hp, rfl⟩ := List.mem_map.1 hg
  exact ((trs_k l p hp).1 x hx).2.2
theorem com_cmp1 (l : List Rec) (h : ∀ r ∈ l, ok r) : com (cmp l 1) = com l := by
  rw [com_cmp, List.filter_eq_self]
  intro x hx
  simpa using (h x (com_mem l x hx)).2.2.1
/-- The records up to the last commit. -/
def ustp (s : List Rec × List Rec) (r : Rec) : List Rec × List Rec := (if r.k = 3 then s.2 ++ [r] else s.1, s.2 ++ [r])
def upc (l : List Rec) : List Rec := (l.foldl ustp ([], [])).1
theorem ustp_2 (l : List Rec) : (l.foldl ustp ([], [])).2 = l := by
  induction l using snoc_ind with
  | h0 => rfl
  | h1 l r ih => rw [List.foldl_append]; show (l.foldl ustp ([], [])).2 ++ [r] = _; rw [ih]
theorem upc_snoc (l : List Rec) (r : Rec) : upc (l ++ [r]) = if r.k = 3 then l ++ [r] else upc l := by
  unfold upc
  rw [List.foldl_append]
  show (if r.k = 3 then (l.foldl ustp ([], [])).2 ++ [r] else _) = _
  rw [ustp_2]
theorem upc_pre (l : List Rec) : ∃ z, l = upc l ++ z := by
  induction l using snoc_ind with
  | h0 => exact ⟨[], rfl⟩
  | h1 l r ih =>
    rw [upc_snoc]
    by_cases hk : r.k = 3
    · rw [if_pos hk]; exact ⟨[], by simp⟩
    · rw [if_neg hk]
      obtain ⟨z, hz⟩ := ih
      exact ⟨z ++ [r], by rw [← List.append_assoc, ← hz]⟩
theorem upc_upc (l : List Rec) : upc (upc l) = upc l := by
  induction l using snoc_ind with
  | h0 => rfl
  | h1 l r ih =>
    rw [upc_snoc]
    by_cases hk : r.k = 3
    · rw [if_pos hk, upc_snoc, if_pos hk]
    · rw [if_neg hk]; exact ih
theorem trs_upc (l : List Rec) : trs (upc l) = trs l := by
  induction l using snoc_ind with
  | h0 => rfl
  | h1 l r ih =>
    rw [upc_snoc]
    by_cases hk : r.k = 3
    · rw [if_pos hk]
    · rw [if_neg hk, trs_snoc, if_neg hk]; exact ih
theorem com_upc (l : List Rec) : com (upc l) = com l := by unfold com; rw [trs_upc]
theorem upc_grps (q : List (Int × List Rec)) : upc (q.map grp).flatten = (q.map grp).flatten := by
  induction q using snoc_ind with
  | h0 => rfl
  | h1 q p _ =>
    have : ((q ++ [p]).map grp).flatten = ((q.map grp).flatten ++ p.2) ++ [Rec.end_ p.1] := by simp [grp]
    rw [this, upc_snoc, if_pos (show (Rec.end_ p.1).k = 3 from rfl)]
theorem upc_cmp (l : List Rec) (f : Int) : upc (cmp l f) = cmp l f := upc_grps _
/-- The length of what is repaired. -/
def rend (b : List UInt8) : Nat := (encs (upc (rd b))).length
theorem rend_le (b : List UInt8) : rend b ≤ b.length := by
  obtain ⟨z, hz⟩ := upc_pre (rd b)
  have h := glen_le b
  unfold glen at h
  rw [hz, encs_app, List.length_append] at h
  unfold rend
  omega
theorem rend_take (b : List UInt8) : b.take (rend b) = encs (upc (rd b)) := by
  obtain ⟨z, hz⟩ := upc_pre (rd b)
  obtain ⟨_, t, h2, _⟩ := rd_reads b
  have e : b = encs (upc (rd b)) ++ (encs z ++ t) := by
    rw [← List.append_assoc, ← encs_app, ← hz]; exact h2
  have h : rend b = (encs (upc (rd b))).length := rfl
  rw [h]
  generalize encs (upc (rd b)) = y at e ⊢
  rw [e, List.take_left]
theorem upc_ok (l : List Rec) (h : ∀ r ∈ l, ok r) : ∀ r ∈ upc l, ok r := by
  obtain ⟨z, hz⟩ := upc_pre l
  intro r hr
  exact h r (by rw [hz]; exact List.mem_append_left _ hr)
end Go.Proofs.Ytfkeedeiafegiaa.Wl
