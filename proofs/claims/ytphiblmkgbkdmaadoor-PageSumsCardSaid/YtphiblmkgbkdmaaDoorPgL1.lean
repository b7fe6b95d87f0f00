/- Trees as a relation; what is read is a tree. -/
import Derived.Test.YtphiblmkgbkdmaaDoorPgP4
namespace Go.Proofs.YtphiblmkgbkdmaaDoor.Pg
set_option linter.unusedVariables false
set_option linter.unusedSimpArgs false

/-- A page, or a list of children, stands for pages and entries. -/
inductive Tr (pg : List (List UInt8)) : Nat ⊕ List It → List Nat → List It → Prop
  | leaf (n : Nat) (l : List It) (hn : n < pg.length) (hd : dec (pg.getD n []) = some (1, l)) : Tr pg (.inl n) [n] l
  | fork (n : Nat) (l : List It) (ps : List Nat) (es : List It) (hn : n < pg.length) (hd : dec (pg.getD n []) = some (2, l)) (h : Tr pg (.inr l) ps es) : Tr pg (.inl n) (n :: ps) es
  | nil : Tr pg (.inr []) [] []
  | cons (x : It) (l : List It) (ps qs : List Nat) (es fs : List It) (h : Tr pg (.inl x.ch) ps es) (hk : es.head?.map It.k = some x.k) (ht : Tr pg (.inr l) qs fs) : Tr pg (.inr (x :: l)) (ps ++ qs) (es ++ fs)

theorem nd_app {α : Type} {a b : List α} : (a ++ b).Nodup ↔ a.Nodup ∧ b.Nodup ∧ ∀ x, x ∈ a → x ∉ b := by
  rw [List.nodup_append]
  exact ⟨fun ⟨h1, h2, h3⟩ => ⟨h1, h2, fun x ha hb => h3 x ha x hb rfl⟩, fun ⟨h1, h2, h3⟩ => ⟨h1, h2, fun x ha y hb e => h3 x ha (e ▸ hb)⟩⟩
section
variable {pg : List (List UInt8)}
theorem Tr.lt {a : Nat ⊕ List It} {ps : List Nat} {es : List It} (h : Tr pg a ps es) : ∀ m ∈ ps, m < pg.length := by
  induction h with
  | leaf n l hn hd => intro m hm; obtain rfl : m = n := by simpa using hm
                      exact hn
  | fork n l ps es hn hd h ih => intro m hm; rcases List.mem_cons.1 hm with rfl | hm
                                 · exact hn
                                 · exact ih m hm
  | nil => simp
  | cons x l ps qs es fs h hk ht i1 i2 => intro m hm; exact (List.mem_append.1 hm).elim (i1 m) (i2 m)
/-- The entries of a page, and the number of pages. -/
def nAt : Nat ⊕ List It → Nat
  | .inl _ => 1
  | .inr l => l.length
theorem Tr.cnt {a : Nat ⊕ List It} {ps : List Nat} {es : List It} (h : Tr pg a ps es) : ps.length + nAt a ≤ 2 * es.length := by
  induction h with
  | leaf n l hn hd => have := dec_pos hd; simp [nAt]; omega
  | fork n l ps es hn hd h ih => have := dec_pos hd; simp [nAt] at ih ⊢; omega
  | nil => simp [nAt]
  | cons x l ps qs es fs h hk ht i1 i2 => simp [nAt] at i1 i2 ⊢; omega
theorem Tr.ps_pos {n : Nat} {ps : List Nat} {es : List It} (h : Tr pg (.inl n) ps es) : n ∈ ps := by
  cases h with
  | leaf => simp
  | fork => simp
theorem Tr.mono {pg' : List (List UInt8)} {a : Nat ⊕ List It} {ps : List Nat} {es : List It} (h : Tr pg a ps es) (hp : ∀ m ∈ ps, m < pg'.length ∧ pg'.getD m [] = pg.getD m []) : Tr pg' a ps es := by
  induction h with
  | leaf n l hn hd => obtain ⟨h1, h2⟩ := hp n (by simp)
                      exact .leaf n l h1 (by rw [h2]; exact hd)
  | fork n l ps es hn hd h ih =>
    obtain ⟨h1, h2⟩ := hp n (by simp)
    exact .fork n l ps es h1 (by rw [h2]; exact hd) (ih fun m hm => hp m (by simp [hm]))
  | nil => exact .nil
  | cons x l ps qs es fs h hk ht i1 i2 => exact .cons x l ps qs es fs (i1 fun m hm => hp m (by simp [hm])) hk (i2 fun m hm => hp m (by simp [hm]))
theorem Tr.app {l m : List It} {ps qs : List Nat} {es fs : List It} (h : Tr pg (.inr l) ps es) (k : Tr pg (.inr m) qs fs) : Tr pg (.inr (l ++ m)) (ps ++ qs) (es ++ fs) := by
  induction l generalizing ps es with
  | nil => cases h; exact k
  | cons x l ih =>
    cases h with
    | cons _ _ p1 p2 e1 e2 h1 hk h2 =>
      rw [List.append_assoc, List.append_assoc]
      exact .cons x _ _ _ _ _ h1 hk (ih h2)
theorem Tr.split {l m : List It} {ps : List Nat} {es : List It} (h : Tr pg (.inr (l ++ m)) ps es) : ∃ p1 p2 e1 e2, Tr pg (.inr l) p1 e1 ∧ Tr pg (.inr m) p2 e2 ∧ ps = p1 ++ p2 ∧ es = e1 ++ e2 := by
  induction l generalizing ps es with
  | nil => exact ⟨[], ps, [], es, .nil, h, rfl, rfl⟩
  | cons x l ih =>
    cases h with
    | cons _ _ p1 p2 e1 e2 h1 hk h2 =>
      obtain ⟨q1, q2, f1, f2, a, b, rfl, rfl⟩ := ih h2
      exact ⟨p1 ++ q1, q2, e1 ++ f1, f2, .cons x l _ _ _ _ h1 hk a, b, by simp, by simp⟩
theorem Tr.one {x : It} {ps : List Nat} {es : List It} (h : Tr pg (.inr [x]) ps es) : Tr pg (.inl x.ch) ps es ∧ es.head?.map It.k = some x.k := by
  cases h with
  | cons _ _ p1 p2 e1 e2 h1 hk h2 => cases h2; rw [List.append_nil, List.append_nil]; exact ⟨h1, hk⟩
theorem Tr.hd {x : It} {l : List It} {ps : List Nat} {es : List It} (h : Tr pg (.inr (x :: l)) ps es) : es.head?.map It.k = some x.k := by
  cases h with
  | cons _ _ p1 p2 e1 e2 h1 hk h2 =>
    cases e1 with
    | nil => simp at hk
    | cons y e1 => simpa using hk
theorem Tr.ne {n : Nat} {ps : List Nat} {es : List It} (h : Tr pg (.inl n) ps es) : es ≠ [] := by
  intro e; have := h.cnt; rw [e] at this; simp [nAt] at this
end
/-- What is read is a tree of pages that are different, and not free. -/
structure Tv (pg : List (List UInt8)) (fr : List Int) (a : Nat ⊕ List It) (s s' : St) (ps : List Nat) (es : List It) : Prop where
  tr : Tr pg a ps es
  nd : ps.Nodup
  dj : ∀ m ∈ ps, m ∉ s.1 ∧ (m : Int) ∉ fr
  pm : s'.1.Perm (ps ++ s.1)
  en : s'.2 = s.2 ++ es
theorem visL_tv {pg : List (List UInt8)} {fr : List Int} {v : Nat → St → Option St} (hv : ∀ n s s', v n s = some s' → ∃ ps es, Tv pg fr (.inl n) s s' ps es) {l : List It} : ∀ {s s' : St}, visL v l s = some s' → ∃ ps es, Tv pg fr (.inr l) s s' ps es := by
  induction l with
  | nil =>
    intro s s' h
    obtain rfl : s = s' := by simpa [visL] using h
    exact ⟨[], [], .nil, List.nodup_nil, by simp, by simp, by simp⟩
  | cons x l ih =>
    intro s s' h
    simp only [visL] at h
    rcases hy : v x.ch s with _ | t
    · rw [hy] at h; cases h
    · rw [hy] at h
      dsimp only at h
      split at h
      · rename_i hk
        obtain ⟨ps, es, a⟩ := hv _ _ _ hy
        obtain ⟨qs, fs, b⟩ := ih h
        refine ⟨ps ++ qs, es ++ fs, .cons x l ps qs es fs a.tr ?_ b.tr, ?_, ?_, ?_, ?_⟩
        · rw [a.en, List.getElem?_append_right (Nat.le_refl _), Nat.sub_self] at hk
          rw [List.head?_eq_getElem?]; exact hk
        · refine nd_app.2 ⟨a.nd, b.nd, fun m h1 h2 => ?_⟩
          exact (b.dj m h2).1 (a.pm.mem_iff.2 (List.mem_append.2 (.inl h1)))
        · intro m hm
          rcases List.mem_append.1 hm with hm | hm
          · exact a.dj m hm
          · exact ⟨fun h1 => (b.dj m hm).1 (a.pm.mem_iff.2 (by simp [h1])), (b.dj m hm).2⟩
        · refine b.pm.trans ?_
          refine (List.Perm.append_left qs a.pm).trans ?_
          rw [← List.append_assoc]
          exact List.Perm.append_right _ List.perm_append_comm
        · rw [b.en, a.en, List.append_assoc]
      · cases h
theorem vis_tv {pg : List (List UInt8)} {fr : List Int} (h256 : ∀ p ∈ pg, p.length = 256) : ∀ {k n : Nat} {s s' : St}, vis pg fr k n s = some s' → ∃ ps es, Tv pg fr (.inl n) s s' ps es
  | 0, n, s, s', h => by cases h
  | k + 1, n, s, s', h => by
    unfold vis at h
    split at h
    · rename_i hc
      have hg : pg.getD n [] = pg[n]'hc.1 := by rw [List.getD_eq_getElem?_getD, List.getElem?_eq_getElem hc.1]; rfl
      rcases hd : dec (pg.getD n []) with _ | ⟨kd, l⟩
      · rw [hd] at h; cases h
      · rw [hd] at h
        dsimp only at h
        have ok := dec_ok (h256 _ (hg ▸ List.getElem_mem hc.1)) hd
        split at h
        · rename_i hk
          injection h with h; subst h hk
          exact ⟨[n], l, .leaf n l hc.1 hd, by simp, fun m hm => by obtain rfl : m = n := by simpa using hm
                                                                    exact hc.2, by simp, rfl⟩
        · rename_i hk
          obtain rfl : kd = 2 := ok.kd.resolve_left hk
          obtain ⟨ps, es, a⟩ := visL_tv (fun n s s' h => vis_tv h256 h) h
          have hnp : n ∉ ps := fun hm => (a.dj n hm).1 (by simp)
          refine ⟨n :: ps, es, .fork n l ps es hc.1 hd a.tr, List.nodup_cons.2 ⟨hnp, a.nd⟩, ?_, ?_, a.en⟩
          · intro m hm
            rcases List.mem_cons.1 hm with rfl | hm
            · exact hc.2
            · exact ⟨fun h1 => (a.dj m hm).1 (by simp [h1]), (a.dj m hm).2⟩
          · refine a.pm.trans ?_
            simp
    · cases h
/-- A tree is read. -/
theorem tr_vis {pg : List (List UInt8)} {fr : List Int} {a : Nat ⊕ List It} {ps : List Nat} {es : List It} (h : Tr pg a ps es) : ∀ (k : Nat) (s : St), ps.length ≤ k → ps.Nodup → (∀ m ∈ ps, m ∉ s.1 ∧ (m : Int) ∉ fr) →
    ∃ s' : St, s'.1.Perm (ps ++ s.1) ∧ s'.2 = s.2 ++ es ∧ (match a with | .inl n => vis pg fr k n s = some s' | .inr l => visL (vis pg fr k) l s = some s') := by
  induction h with
  | leaf n l hn hd =>
    intro k s hk _ hdj
    obtain ⟨k, rfl⟩ : ∃ j, k = j + 1 := ⟨k - 1, by simp at hk; omega⟩
    refine ⟨(n :: s.1, s.2 ++ l), by simp, rfl, ?_⟩
    have := hdj n (by simp)
    show vis pg fr (k + 1) n s = _
    unfold vis
    rw [if_pos ⟨hn, this.1, this.2⟩, hd]
    simp
  | fork n l ps es hn hd h ih =>
    intro k s hk hnd hdj
    obtain ⟨k, rfl⟩ : ∃ j, k = j + 1 := ⟨k - 1, by simp at hk; omega⟩
    obtain ⟨h1, h2⟩ := List.nodup_cons.1 hnd
    obtain ⟨s', a, b, c⟩ := ih k (n :: s.1, s.2) (by simp at hk; exact hk) h2 (fun m hm => ⟨by
      have := (hdj m (by simp [hm])).1
      have hne : m ≠ n := fun e => h1 (e ▸ hm)
      simp [hne, this], (hdj m (by simp [hm])).2⟩)
    refine ⟨s', a.trans (by simp), b, ?_⟩
    have := hdj n (by simp)
    show vis pg fr (k + 1) n s = _
    unfold vis
    rw [if_pos ⟨hn, this.1, this.2⟩, hd]
    simpa using c
  | nil => intro k s _ _ _; exact ⟨s, by simp, by simp, rfl⟩
  | cons x l ps qs es fs h hk ht i1 i2 =>
    intro k s hkk hnd hdj
    obtain ⟨n1, n2, n3⟩ := nd_app.1 hnd
    obtain ⟨s1, a1, b1, c1⟩ := i1 k s (by simp at hkk; omega) n1 fun m hm => hdj m (by simp [hm])
    obtain ⟨s2, a2, b2, c2⟩ := i2 k s1 (by simp at hkk; omega) n2 fun m hm => ⟨fun hm1 => by
      rcases List.mem_append.1 (a1.mem_iff.1 hm1) with h | h
      · exact n3 m h hm
      · exact (hdj m (by simp [hm])).1 h, (hdj m (by simp [hm])).2⟩
    refine ⟨s2, ?_, by rw [b2, b1, List.append_assoc], ?_⟩
    · refine a2.trans ((List.Perm.append_left qs a1).trans ?_)
      rw [← List.append_assoc]
      exact List.Perm.append_right _ List.perm_append_comm
    · show visL (vis pg fr k) (x :: l) s = some s2
      unfold visL
      rw [c1]
      dsimp only
      rw [if_pos]
      · exact c2
      · rw [b1, List.getElem?_append_right (Nat.le_refl _), Nat.sub_self, ← List.head?_eq_getElem?]; exact hk
/-- A tree at a root. -/
inductive Trt (pg : List (List UInt8)) (root : Int) : List Nat → List It → Prop
  | no (h : root < 0) : Trt pg root [] []
  | yes (ps : List Nat) (es : List It) (h : 0 ≤ root) (ht : Tr pg (.inl root.toNat) ps es) : Trt pg root ps es
theorem rok_iff {pg : List (List UInt8)} {fr : List Int} {root : Int} (h256 : ∀ p ∈ pg, p.length = 256) {s : St} (h : Rok pg fr root s) : ∃ ps, Trt pg root ps s.2 ∧ ps.Nodup ∧ (∀ m ∈ ps, (m : Int) ∉ fr) ∧ Srt s.2 ∧ s.1.Perm ps := by
  cases h with
  | no h => exact ⟨[], .no h, List.nodup_nil, by simp, List.Pairwise.nil, .refl _⟩
  | yes _ h hv hs =>
    obtain ⟨ps, es, a⟩ := vis_tv h256 hv
    have e : s.2 = es := by have := a.en; simpa using this
    exact ⟨ps, .yes _ _ h (e ▸ a.tr), a.nd, fun m hm => (a.dj m hm).2, hs, by have := a.pm; simpa using this⟩
theorem rok_of {pg : List (List UInt8)} {fr : List Int} {root : Int} {ps : List Nat} {es : List It} (h : Trt pg root ps es) (hn : ps.Nodup) (hd : ∀ m ∈ ps, (m : Int) ∉ fr) (hs : Srt es) : ∃ s : St, Rok pg fr root s ∧ s.2 = es ∧ s.1.Perm ps := by
  cases h with
  | no h => exact ⟨([], []), .no h, rfl, .refl _⟩
  | yes _ _ h ht =>
    obtain ⟨s, a, b, c⟩ := tr_vis (fr := fr) ht (pg.length + 1) ([], []) (by have := nodup_le hn ht.lt; omega) hn (fun m hm => ⟨by simp, hd m hm⟩)
    have e : s.2 = es := by simpa using b
    exact ⟨s, .yes s h c (e ▸ hs), e, by simpa using a⟩
end Go.Proofs.YtphiblmkgbkdmaaDoor.Pg
