/- The tree as the program reads it. -/
import Derived.Test.YtpmkohnljngbhaaDoorPgB1
namespace Go.Proofs.YtpmkohnljngbhaaDoor.Pg
set_option linter.unusedVariables false
set_option linter.unusedSimpArgs false
set_option maxRecDepth 1000000

/-- The pages seen, and the entries. -/
abbrev St := List Nat × List It
def visL (v : Nat → St → Option St) : List It → St → Option St
  | [], s => some s
  | x :: l, s => match v x.ch s with
    | none => none
    | some s' => if (s'.2[s.2.length]?).map It.k = some x.k then visL v l s' else none
def vis (pg : List (List UInt8)) (fr : List Int) : Nat → Nat → St → Option St
  | 0, _, _ => none
  | k + 1, n, s => if n < pg.length ∧ n ∉ s.1 ∧ (n : Int) ∉ fr then
      match dec (pg.getD n []) with
      | none => none
      | some (kd, l) => if kd = 1 then some (n :: s.1, s.2 ++ l) else visL (vis pg fr k) l (n :: s.1, s.2)
    else none
/-- What is read at a root. -/
inductive Rok (pg : List (List UInt8)) (fr : List Int) (root : Int) : St → Prop
  | no (h : root < 0) : Rok pg fr root ([], [])
  | yes (s : St) (h : 0 ≤ root) (hv : vis pg fr (pg.length + 1) root.toNat ([], []) = some s) (hs : Srt s.2) : Rok pg fr root s

theorem visL_snoc {v : Nat → St → Option St} {l : List It} {x : It} {s s' s2 : St} (h : visL v l s = some s') (hv : v x.ch s' = some s2) (hk : (s2.2[s'.2.length]?).map It.k = some x.k) : visL v (l ++ [x]) s = some s2 := by
  induction l generalizing s with
  | nil =>
    have : s = s' := by simpa [visL] using h
    subst this
    simp [visL, hv, hk]
  | cons y l ih =>
    simp only [visL, List.cons_append] at h ⊢
    rcases hy : v y.ch s with _ | t
    · rw [hy] at h; cases h
    · rw [hy] at h
      dsimp only at h ⊢
      split at h
      · rename_i hk'; rw [if_pos hk']; exact ih h
      · cases h
theorem visL_none {v : Nat → St → Option St} {l m : List It} {x : It} {s s' : St} (h : visL v l s = some s') (hv : ∀ s2, v x.ch s' = some s2 → (s2.2[s'.2.length]?).map It.k ≠ some x.k) : visL v (l ++ x :: m) s = none := by
  induction l generalizing s with
  | nil =>
    have : s = s' := by simpa [visL] using h
    subst this
    simp only [visL, List.nil_append]
    rcases hy : v x.ch s with _ | t
    · rfl
    · dsimp only; rw [if_neg (hv t hy)]
  | cons y l ih =>
    simp only [visL, List.cons_append] at h ⊢
    rcases hy : v y.ch s with _ | t
    · rfl
    · rw [hy] at h
      dsimp only at h ⊢
      split at h
      · rename_i hk'; rw [if_pos hk']; exact ih h
      · cases h
/-- What a visit adds. -/
structure Grw (s s' : St) (N : Nat) : Prop where
  nd : s'.1.Nodup
  lt : ∀ m ∈ s'.1, m < N
  sz : s.1.length ≤ s'.1.length
  lim : s'.2.length + 84 * s.1.length ≤ s.2.length + 84 * s'.1.length
  pre : s.2 <+: s'.2
  ok : ∀ x ∈ s'.2, x ∈ s.2 ∨ ItOk 1 x
theorem visL_grw {v : Nat → St → Option St} {N : Nat} (hv : ∀ n s s', s.1.Nodup → (∀ m ∈ s.1, m < N) → v n s = some s' → Grw s s' N) {l : List It} : ∀ {s s' : St}, s.1.Nodup → (∀ m ∈ s.1, m < N) → visL v l s = some s' → Grw s s' N := by
  induction l with
  | nil =>
    intro s s' h1 h2 h
    have : s = s' := by simpa [visL] using h
    subst this
    exact ⟨h1, h2, Nat.le_refl _, by omega, List.prefix_refl _, fun x hx => .inl hx⟩
  | cons x l ih =>
    intro s s' h1 h2 h
    simp only [visL] at h
    rcases hy : v x.ch s with _ | t
    · rw [hy] at h; cases h
    · rw [hy] at h
      dsimp only at h
      split at h
      · have g := hv _ _ _ h1 h2 hy
        have g2 := ih g.nd g.lt h
        exact ⟨g2.nd, g2.lt, by have := g.sz; have := g2.sz; omega, by have := g.lim; have := g2.lim; omega, g.pre.trans g2.pre, fun x hx => (g2.ok x hx).elim (fun h => g.ok x h) .inr⟩
      · cases h
theorem vis_grw {pg : List (List UInt8)} {fr : List Int} (hp : ∀ p ∈ pg, p.length = 256) : ∀ {k n : Nat} {s s' : St}, s.1.Nodup → (∀ m ∈ s.1, m < pg.length) → vis pg fr k n s = some s' → Grw s s' pg.length ∧ s.1.length < s'.1.length
  | 0, n, s, s', _, _, h => by cases h
  | k + 1, n, s, s', h1, h2, h => by
    unfold vis at h
    split at h
    · rename_i hc
      have hg : pg.getD n [] = pg[n]'hc.1 := by rw [List.getD_eq_getElem?_getD, List.getElem?_eq_getElem hc.1]; rfl
      rcases hd : dec (pg.getD n []) with _ | ⟨kd, l⟩
      · rw [hd] at h; cases h
      · rw [hd] at h
        dsimp only at h
        have ok := dec_ok (hp _ (hg ▸ List.getElem_mem hc.1)) hd
        have hlen := tot_ge ok.it
        have htt := ok.tt
        have n1 : (n :: s.1).Nodup := List.nodup_cons.2 ⟨hc.2.1, h1⟩
        have n2 : ∀ m ∈ n :: s.1, m < pg.length := by
          intro m hm
          rcases List.mem_cons.1 hm with rfl | hm
          · exact hc.1
          · exact h2 m hm
        split at h
        · rename_i hk1
          injection h with h; subst h
          subst hk1
          exact ⟨⟨n1, n2, by simp, by simp; omega, List.prefix_append _ _, fun x hx => (List.mem_append.1 hx).imp id (ok.it x)⟩, by simp⟩
        · have g := visL_grw (N := pg.length) (fun n s s' a b c => (vis_grw hp a b c).1) (s := (n :: s.1, s.2)) n1 n2 h
          have q1 := g.sz
          have q2 := g.lim
          simp only [List.length_cons] at q1 q2
          exact ⟨⟨g.nd, g.lt, by omega, by omega, g.pre, g.ok⟩, by omega⟩
    · cases h
theorem visL_more {v : Nat → St → Option St} (hv : ∀ n s s', v n s = some s' → s.2.length < s'.2.length) {l : List It} : ∀ {s s' : St}, visL v l s = some s' → s.2.length + l.length ≤ s'.2.length := by
  induction l with
  | nil =>
    intro s s' h
    have : s = s' := by simpa [visL] using h
    subst this
    simp
  | cons x l ih =>
    intro s s' h
    simp only [visL] at h
    rcases hy : v x.ch s with _ | t
    · rw [hy] at h; cases h
    · rw [hy] at h
      dsimp only at h
      split at h
      · have := hv _ _ _ hy
        have := ih h
        simp; omega
      · cases h
theorem dec_pos {p : List UInt8} {kd : Nat} {l : List It} (h : dec p = some (kd, l)) : 1 ≤ kd ∧ kd ≤ l.length := by
  unfold dec at h
  split at h
  · rename_i hc
    rcases hd : dn (p.getD 4 0).toNat (p.getD 5 0).toNat (p.drop 6) with _ | ⟨m, r⟩
    · rw [hd] at h; cases h
    · rw [hd] at h
      dsimp only at h
      split at h
      · injection h with h; injection h with h1 h2
        subst h1 h2
        have := (dn_ok hd).2.2
        omega
      · cases h
  · cases h
theorem vis_more {pg : List (List UInt8)} {fr : List Int} : ∀ {k n : Nat} {s s' : St}, vis pg fr k n s = some s' → s.2.length < s'.2.length
  | 0, n, s, s', h => by cases h
  | k + 1, n, s, s', h => by
    unfold vis at h
    split at h
    · rcases hd : dec (pg.getD n []) with _ | ⟨kd, l⟩
      · rw [hd] at h; cases h
      · rw [hd] at h
        dsimp only at h
        have := dec_pos hd
        split at h
        · injection h with h; subst h
          simp; omega
        · have := visL_more (fun n s s' h => vis_more h) h
          simp only at this
          omega
    · cases h
/-- So many different numbers below N are at most N. -/
theorem nodup_le {S : List Nat} {N : Nat} (h : S.Nodup) (hl : ∀ m ∈ S, m < N) : S.length ≤ N := by
  induction N generalizing S with
  | zero =>
    cases S with
    | nil => simp
    | cons m S => have := hl m (by simp); omega
  | succ N ih =>
    have h1 := ih (S := S.erase N) (h.erase _) fun m hm => by
      obtain ⟨h2, h3⟩ := (List.Nodup.mem_erase_iff h).1 hm
      have := hl m h3; omega
    have h2 := List.length_erase (a := N) (l := S)
    split at h2 <;> omega
structure RokI (N : Nat) (s : St) : Prop where
  ok : ∀ x ∈ s.2, ItOk 1 x
  lim : s.2.length ≤ 84 * s.1.length
  nd : s.1.Nodup
  lt : ∀ m ∈ s.1, m < N
  sz : s.1.length ≤ N
theorem Rok.items {pg : List (List UInt8)} {fr : List Int} {root : Int} {s : St} (h : Rok pg fr root s) (hp : ∀ p ∈ pg, p.length = 256) : RokI pg.length s := by
  cases h with
  | no h => exact ⟨by simp, by simp, List.nodup_nil, by simp, by simp⟩
  | yes _ h hv hs =>
    have g := (vis_grw hp (s := ([], [])) List.nodup_nil (by simp) hv).1
    exact ⟨fun x hx => (g.ok x hx).elim (fun h => by simp at h) id, by have := g.lim; simpa using this, g.nd, g.lt, nodup_le g.nd g.lt⟩
end Go.Proofs.YtpmkohnljngbhaaDoor.Pg
