/- Trees as a relation; what is read is a tree. -/
import Derived.Test.YtpmkohnljngbhaaGreatDoorPgTP
set_option linter.all false
namespace Go.Proofs.YtpmkohnljngbhaaGreatDoor.Pg
set_option linter.unusedVariables false
set_option linter.unusedSimpArgs false
set_option maxRecDepth 1000000

/-- A page, or a list of children, stands for pages and entries. -/
inductive Tr (pg : List (List UInt8)) : Nat ⊕ List It → List Nat → List It → Prop
  | leaf (n : Nat) (l : List It) (hn : n < pg.length) (hd : dec (pg.getD n []) = some (1, l)) : Tr pg (.inl n) [n] l
  | fork (n : Nat) (l : List It) (ps : List Nat) (es : List It) (hn : n < pg.length) (hd : dec (pg.getD n []) = some (2, l)) (h : Tr pg (.inr l) ps es) : Tr pg (.inl n) (n :: ps) es
  | nil : Tr pg (.inr []) [] []
  | cons (x : It) (l : List It) (ps qs : List Nat) (es fs : List It) (h : Tr pg (.inl x.ch) ps es) (hk : es.head?.map It.k = some x.k) (ht : Tr pg (.inr l) qs fs) : Tr pg (.inr (x :: l)) (ps ++ qs) (es ++ fs)

theorem nd_app {α : Type} {a b : List α} : (a ++ b).Nodup ↔ a.Nodup ∧ b.Nodup ∧ ∀ x, x ∈ a → x ∉ b := by
  rw [List.nodup_append]
  exact ⟨fun ⟨h1, h2, h3⟩ => ⟨h1, h2, fun x ha hb => h3 x ha x hb rfl⟩, fun ⟨h1, h2, h3⟩ => ⟨h1, h2, fun x ha y hb e => h3 x ha (e ▸ hb)⟩⟩
section
variable {pg : List (List UInt8)}
theorem Tr.lt {a : Nat ⊕ List It} {ps : List Nat} {es : List It} (h : Tr pg a ps es) : ∀ m ∈ ps, m < pg.length := by
  induction h with
  | leaf n l hn hd => intro m hm; obtain rfl : m = n := by simpa using hm
                      exact hn
  | fork n l ps es hn hd h ih => intro m hm; rcases List.mem_cons.1 hm with rfl | hm
                                 · exact hn
                                 · exact ih m hm
  | nil => simp
  | cons x l ps qs es fs h hk ht i1 i2 => intro m hm; exact (List.mem_append.1 hm).elim (i1 m) (i2 m)
/-- The entries of a page, and the number of pages. -/
def nAt : Nat ⊕ List It → Nat
  | .inl _ => 1
  | .inr l => l.length
theorem Tr.cnt {a : Nat ⊕ List It} {ps : List Nat} {es : List It} (h : Tr pg a ps es) : ps.length + nAt a ≤ 2 * es.length := by
  induction h with
  | leaf n l hn hd => have := dec_pos hd; simp [nAt]; omega
  | fork n l ps es hn hd h ih => have := dec_pos hd; simp [nAt] at ih ⊢; omega
  | nil => simp [nAt]
  | cons x l ps qs es fs h hk ht i1 i2 => simp [nAt] at i1 i2 ⊢; omega
theorem Tr.ps_pos {n : Nat} {ps : List Nat} {es : List It} (h : Tr pg (.inl n) ps es) : n ∈ ps := by
  cases h with
  | leaf => simp
  | fork => simp
theorem Tr.mono {pg' : List (List UInt8)} {a : Nat ⊕ List It} {ps : List Nat} {es : List It} (h : Tr pg a ps es) (hp : ∀ m ∈ ps, m < pg'.length ∧ pg'.getD m [] = pg.getD m []) : Tr pg' a ps es := by
  induction h with
  | leaf n l hn hd => obtain ⟨h1, h2⟩ := hp n (by simp)
                      exact .leaf n l h1 (by rw [h2]; exact hd)
  | fork n l ps es hn hd h ih =>
    obtain ⟨h1, h2⟩ := hp n (by simp)
    exact .fork n l ps es h1 (by rw [h2]; exact hd) (ih fun m hm => hp m (by simp [hm]))
  | nil => exact .nil
  | cons x l ps qs es fs h hk ht i1 i2 => exact .cons x l ps qs es fs (i1 fun m hm => hp m (by simp [hm])) hk (i2 fun m hm => hp m (by simp [hm]))
theorem Tr.app {l m : List It} {ps qs : List Nat} {es fs : List It} (h : Tr pg (.inr l) ps es) (k : Tr pg (.inr m) qs fs) : Tr pg (.inr (l ++ m)) (ps ++ qs) (es ++ fs) := by
  induction l generalizing ps es with
  | nil => cases h; exact k
  | cons x l ih =>
    cases h with
    | cons _ _ p1 p2 e1 e2 h1 hk h2 =>
      rw [List.append_assoc, List.append_assoc]
      exact .cons x _ _ _ _ _ h1 hk (ih h2)
theorem Tr.split {l m : List It} {ps : List Nat} {es : List It} (h : Tr pg (.inr (l ++ m)) ps es) : ∃ p1 p2 e1 e2, Tr pg (.inr l) p1 e1 ∧ Tr pg (.inr m) p2 e2 ∧ ps = p1 ++ p2 ∧ es = e1 ++ e2 := by
  induction l generalizing ps es with
  | nil => exact ⟨[], ps, [], es, .nil, h, rfl, rfl⟩
  | cons x l ih =>
    cases h with
    | cons _ _ p1 p2 e1 e2 h1 hk h2 =>
      obtain ⟨q1, q2, f1, f2, a, b, rfl, rfl⟩ := ih h2
      exact ⟨p1 ++ q1, q2, e1 ++ f1, f2, .cons x l _ _ _ _ h1 hk a, b, by simp, by simp⟩
theorem Tr.one {x : It} {ps : List Nat} {es : List It} (h : Tr pg (.inr [x]) ps es) : Tr pg (.inl x.ch) ps es ∧ es.head?.map It.k = some x.k := by
  cases h with
  | cons _ _ p1 p2 e1 e2 h1 hk h2 => cases h2; rw [List.append_nil, List.append_nil]; exact ⟨h1, hk⟩
theorem Tr.hd {x : It} {l : List It} {ps : List Nat} {es : List It} (h : Tr pg (.inr (x :: l)) ps es) : es.head?.map It.k = some x.k := by
  cases h with
  | cons _ _ p1 p2 e1 e2 h1 hk h2 =>
    cases e1 with
    | nil => simp at hk
    | cons y e1 => simpa using hk
theorem Tr.ne {n : Nat} {ps : List Nat} {es : List It} (h : Tr pg (.inl n) ps es) : es ≠ [] := by
  intro e; have := h.cnt; rw [e] at this; simp [nAt] at this
end
/-- What is read is a tree of pages that are different, and not free. -/
structure Tv (pg : List (List UInt8)) (fr : List Int) (a : Nat ⊕ List It) (s s' : St) (ps : List Nat) (es : List It) : Prop where
  tr : Tr pg a ps es
  nd : ps.Nodup
  dj : ∀ m ∈ ps, m ∉ s.1 ∧ (m : Int) ∉ fr
  pm : s'.1.Perm (ps ++ s.1)
  en : s'.2 = s.2 ++ es
theorem visL_tv {pg : List (List UInt8)} {fr : List Int} {v : Nat → St → Option St} (hv : ∀ n s s', v n s = some s' → ∃ ps es, Tv pg fr (.inl n) s s' ps es) {l : List It} : ∀ {s s' : St}, visL v l s = some s' → ∃ ps es, Tv pg fr (.inr l) s s' ps es := by
  induction l with
  | nil =>
    intro s s' h
    obtain rfl : s = s' := by simpa [visL] using h
    exact ⟨[], [], .nil, List.nodup_nil, by simp, by simp, by simp⟩
  | cons x l ih =>
    intro s s' h
    simp only [visL] at h
    rcases hy : v x.ch s with _ | t
    · rw [hy] at h; cases h
    · rw [hy] at h
      dsimp only at h
      split at h
      · rename_i hk
        obtain ⟨ps, es, a⟩ := hv _ _ _ hy
        obtain ⟨qs, fs, b⟩ := ih h
        refine ⟨ps ++ qs, es ++ fs, .cons x l ps qs es fs a.tr ?_ b.tr, ?_, ?_, ?_, ?_⟩
        · rw [a.en, List.getElem?_append_right (Nat.le_refl _), Nat.sub_self] at hk
          rw [List.head?_eq_getElem?]; exact hk
        · refine nd_app.2 ⟨a.nd, b.nd, fun m h1 h2 => ?_⟩
          exact (b.dj m h2).1 (a.pm.mem_iff.2 (List.mem_append.2 (.inl h1)))
        · intro m hm
          rcases List.mem_append.1 hm with hm | hm
          · exact a.dj m hm
          · exact ⟨fun h1 => (b.dj m hm).1 (a.pm.mem_iff.2 (by simp [h1])), (b.dj m hm).2⟩
        · refine b.pm.trans ?_
          refine (List.Perm.append_left qs a.pm).trans ?_
          rw [← List.append_assoc]
          exact List.Perm.append_right _ List.perm_append_comm
        · rw [b.en, a.en, List.append_assoc]
      · cases h
theorem vis_tv {pg : List (List UInt8)} {fr : List Int} (h256 : ∀ p ∈ pg, p.length = 256) : ∀ {k n : Nat} {s s' : St}, vis pg fr k n s = some s' → ∃ ps es, Tv pg fr (.inl n) s s' ps es
  | 0, n, s, s', h => by cases h
  | k + 1, n, s, s', h => by
    unfold vis at h
    split at h
    · rename_i hc
      have hg : pg.getD n [] = pg[n]'hc.1 := by rw [List.getD_eq_getElem?_getD, List.getElem?_eq_getElem hc.1]; rfl
      rcases hd : dec (pg.getD n []) with _ | ⟨kd, l⟩
      · rw [hd] at h; cases h
      · rw [hd] at h
        dsimp only at h
        have ok := dec_ok (h256 _ (hg ▸ List.getElem_mem hc.1)) hd
        split at h
        · rename_i hk
          injection h with h; subst h hk
          exact ⟨[n], l, .leaf n l hc.1 hd, by simp, fun m hm => by obtain rfl : m = n := by simpa using hm
                                                                    exact hc.2, by simp, rfl⟩
        · rename_i hk
          obtain rfl : kd = 2 := ok.kd.resolve_left hk
          obtain ⟨ps, es, a⟩ := visL_tv (fun n s s' h => vis_tv h256 h) h
          have hnp : n ∉ ps := fun hm => (a.dj n hm).1 (by simp)
          refine ⟨n :: ps, es, .fork n l ps es hc.1 hd a.tr, List.nodup_cons.2 ⟨hnp, a.nd⟩, ?_, ?_, a.en⟩
          · intro m hm
            rcases List.mem_cons.1 hm with rfl | hm
            · exact hc.2
            · exact ⟨fun h1 => (a.dj m hm).1 (by simp [h1]), (a.dj m hm).2⟩
          · refine a.pm.trans ?_
            simp
    · cases h
/-- A tree is read. -/
theorem tr_vis {pg : List (List UInt8)} {fr : List Int} {a : Nat ⊕ List It} {ps : List Nat} {es : List It} (h : Tr pg a ps es) : ∀ (k : Nat) (s : St), ps.length ≤ k → ps.Nodup → (∀ m ∈ ps, m ∉ s.1 ∧ (m : Int) ∉ fr) →
    ∃ s' : St, s'.1.Perm (ps ++ s.1) ∧ s'.2 = s.2 ++ es ∧ (match a with | .inl n => vis pg fr k n s = some s' | .inr l => visL (vis pg fr k) l s = some s') := by
  induction h with
  | leaf n l hn hd =>
    intro k s hk _ hdj
    obtain ⟨k, rfl⟩ : ∃ j, k = j + 1 := ⟨k - 1, by simp at hk; omega⟩
    refine ⟨(n :: s.1, s.2 ++ l), by simp, rfl, ?_⟩
    have := hdj n (by simp)
    show vis pg fr (k + 1) n s = _
    unfold vis
    rw [if_pos ⟨hn, this.1, this.2⟩, hd]
    simp
  | fork n l ps es hn hd h ih =>
    intro k s hk hnd hdj
    obtain ⟨k, rfl⟩ : ∃ j, k = j + 1 := ⟨k - 1, by simp at hk; omega⟩
    obtain ⟨h1, h2⟩ := List.nodup_cons.1 hnd
    obtain ⟨s', a, b, c⟩ := ih k (n :: s.1, s.2) (by simp at hk; exact hk) h2 (fun m hm => ⟨by
      have := (hdj m (by simp [hm])).1
      have hne : m ≠ n := fun e => h1 (e ▸ hm)
      simp [hne, this], (hdj m (by simp [hm])).2⟩)
    refine ⟨s', a.trans (by simp), b, ?_⟩
    have := hdj n (by simp)
    show vis pg fr (k + 1) n s = _
    unfold vis
    rw [if_pos ⟨hn, this.1, this.2⟩, hd]
    simpa using c
  | nil => intro k s _ _ _; exact ⟨s, by simp, by simp, rfl⟩
  | cons x l ps qs es fs h hk ht i1 i2 =>
    intro k s hkk hnd hdj
    obtain ⟨n1, n2, n3⟩ := nd_app.1 hnd
    obtain ⟨s1, a1, b1, c1⟩ := i1 k s (by simp at hkk; omega) n1 fun m hm => hdj m (by simp [hm])
    obtain ⟨s2, a2, b2, c2⟩ := i2 k s1 (by simp at hkk; omega) n2 fun m hm => ⟨fun hm1 => by
      rcases List.mem_append.1 (a1.mem_iff.1 hm1) with h | h
      · exact n3 m h hm
      · exact (hdj m (by simp [hm])).1 h, (hdj m (by simp [hm])).2⟩
    refine ⟨s2, ?_, by rw [b2, b1, List.append_assoc], ?_⟩
    · refine a2.trans ((List.Perm.append_left qs a1).trans ?_)
      rw [← List.append_assoc]
      exact List.Perm.append_right _ List.perm_append_comm
    · show visL (vis pg fr k) (x :: l) s = some s2
      unfold visL
      rw [c1]
      dsimp only
      rw [if_pos]
      · exact c2
      · rw [b1, List.getElem?_append_right (Nat.le_refl _), Nat.sub_self, ← List.head?_eq_getElem?]; exact hk
/-- A tree at a root. -/
inductive Trt (pg : List (List UInt8)) (root : Int) : List Nat → List It → Prop
  | no (h : root < 0) : Trt pg root [] []
  | yes (ps : List Nat) (es : List It) (h : 0 ≤ root) (ht : Tr pg (.inl root.toNat) ps es) : Trt pg root ps es
theorem rok_iff {pg : List (List UInt8)} {fr : List Int} {root : Int} (h256 : ∀ p ∈ pg, p.length = 256) {s : St} (h : Rok pg fr root s) : ∃ ps, Trt pg root ps s.2 ∧ ps.Nodup ∧ (∀ m ∈ ps, (m : Int) ∉ fr) ∧ Srt s.2 ∧ s.1.Perm ps := by
  cases h with
  | no h => exact ⟨[], .no h, List.nodup_nil, by simp, List.Pairwise.nil, .refl _⟩
  | yes _ h hv hs =>
    obtain ⟨ps, es, a⟩ := vis_tv h256 hv
    have e : s.2 = es := by have := a.en; simpa using this
    exact ⟨ps, .yes _ _ h (e ▸ a.tr), a.nd, fun m hm => (a.dj m hm).2, hs, by have := a.pm; simpa using this⟩
theorem rok_of {pg : List (List UInt8)} {fr : List Int} {root : Int} {ps : List Nat} {es : List It} (h : Trt pg root ps es) (hn : ps.Nodup) (hd : ∀ m ∈ ps, (m : Int) ∉ fr) (hs : Srt es) : ∃ s : St, Rok pg fr root s ∧ s.2 = es ∧ s.1.Perm ps := by
  cases h with
  | no h => exact ⟨([], []), .no h, rfl, .refl _⟩
  | yes _ _ h ht =>
    obtain ⟨s, a, b, c⟩ := tr_vis (fr := fr) ht (pg.length + 1) ([], []) (by have := nodup_le hn ht.lt; omega) hn (fun m hm => ⟨by simp, hd m hm⟩)
    have e : s.2 = es := by simpa using b
    exact ⟨s, .yes s h c (e ▸ hs), e, by simpa using a⟩
end Go.Proofs.YtpmkohnljngbhaaGreatDoor.Pg
/- Writing keeps trees. -/
namespace Go.Proofs.YtpmkohnljngbhaaGreatDoor.Pg
set_option maxRecDepth 1000000

/-- A writer, and pages in use. -/
structure Inv (s : Ws) (U : List Nat) : Prop where
  n4 : s.pg.length ≤ 4096
  p256 : ∀ p ∈ s.pg, p.length = 256
  nd : U.Nodup
  ul : ∀ m ∈ U, m < s.pg.length ∧ m ∉ s.fr
  fs : s.fr.Pairwise (· < ·)
  fl : ∀ m ∈ s.fr, m < s.pg.length
  ff : s.full = false
theorem Inv.perm {s : Ws} {U V : List Nat} (h : Inv s U) (hp : U.Perm V) : Inv s V := { h with nd := hp.nodup_iff.1 h.nd, ul := fun m hm => h.ul m (hp.mem_iff.2 hm) }
theorem Inv.sub {s : Ws} {U V : List Nat} (h : Inv s U) (hp : V.Sublist U) : Inv s V := { h with nd := h.nd.sublist hp, ul := fun m hm => h.ul m (hp.subset hm) }
theorem Inv.ok {s : Ws} {U : List Nat} (h : Inv s U) : WsOk s := ⟨h.n4, h.fl⟩
/-- What a writer leaves. -/
structure Ext (s s' : Ws) : Prop where
  le : s.pg.length ≤ s'.pg.length
  pg : ∀ m, m < s.pg.length → m ∉ s.fr → s'.pg.getD m [] = s.pg.getD m []
  fr : ∀ m ∈ s'.fr, m ∈ s.fr
theorem Ext.refl (s : Ws) : Ext s s := ⟨Nat.le_refl _, fun _ _ _ => rfl, fun _ h => h⟩
theorem Ext.trans {a b c : Ws} (h : Ext a b) (k : Ext b c) : Ext a c :=
  ⟨Nat.le_trans h.le k.le, fun m h1 h2 => (k.pg m (by have := h.le; omega) fun h3 => h2 (h.fr m h3)).trans (h.pg m h1 h2), fun m hm => h.fr m (k.fr m hm)⟩
theorem getD_set {l : List (List UInt8)} {i j : Nat} {a : List UInt8} (h : i ≠ j) : (l.set i a).getD j [] = l.getD j [] := by
  rw [List.getD_eq_getElem?_getD, List.getElem?_set_ne h, ← List.getD_eq_getElem?_getD]
theorem getD_self {l : List (List UInt8)} {i : Nat} {a : List UInt8} (h : i < l.length) : (l.set i a).getD i [] = a := by
  rw [List.getD_eq_getElem?_getD, List.getElem?_set_self h]; rfl
theorem getD_app {l : List (List UInt8)} {j : Nat} {a : List UInt8} (h : j < l.length) : (l ++ [a]).getD j [] = l.getD j [] := by
  rw [List.getD_eq_getElem?_getD, List.getElem?_append_left h, ← List.getD_eq_getElem?_getD]
theorem getD_end {l : List (List UInt8)} {a : List UInt8} : (l ++ [a]).getD l.length [] = a := by
  rw [List.getD_eq_getElem?_getD, List.getElem?_append_right (Nat.le_refl _), Nat.sub_self]; rfl
theorem putP_ext (kind : Nat) (l : List It) (s : Ws) : Ext s (putP kind l s).2 := by
  unfold putP
  rcases hfr : s.fr with _ | ⟨x, fr⟩
  · dsimp only
    split
    · exact ⟨Nat.le_refl _, fun _ _ _ => rfl, by simp⟩
    · exact ⟨by simp, fun m h1 _ => getD_app h1, by simp⟩
  · dsimp only
    exact ⟨by simp, fun m _ h2 => getD_set (fun e => h2 (by rw [hfr, ← e]; simp)), fun m hm => by rw [hfr]; exact List.mem_cons.2 (.inr hm)⟩
theorem sto_ext {kind : Nat} : ∀ {f : Nat} {l : List It} {s : Ws}, Ext s (sto kind f l s).2
  | 0, l, s => .refl s
  | f + 1, l, s => by
    unfold sto
    split
    · exact .refl s
    · split
      · split
        · exact .refl s
        · exact putP_ext _ _ _
      · exact (sto_ext (kind := kind) (f := f)).trans (sto_ext (kind := kind) (f := f))
theorem chg_ext {key : List UInt8} {bl : List It} : ∀ {k n : Nat} {s : Ws}, Ext s (chg key bl k n s).2
  | 0, n, s => .refl s
  | k + 1, n, s => by
    unfold chg
    split
    · exact .refl s
    · split
      · exact sto_ext
      · split
        · exact .refl s
        · exact (chg_ext (key := key) (bl := bl) (k := k)).trans sto_ext
theorem dnF_ext : ∀ {f : Nat} {l : List It} {s : Ws}, Ext s (dnF f l s).2
  | 0, l, s => .refl s
  | f + 1, l, s => by
    unfold dnF
    split
    · exact .refl s
    · exact sto_ext.trans (dnF_ext (f := f))
/-- One page written. -/
structure Put1 (kind : Nat) (l : List It) (s : Ws) (U : List Nat) (m : Nat) : Prop where
  it : (putP kind l s).1 = ⟨hkey l, [], m⟩
  lt : m < (putP kind l s).2.pg.length
  at_ : (putP kind l s).2.pg.getD m [] = enc kind l
  inv : Inv (putP kind l s).2 (m :: U)
  up : (putP kind l s).2.pg.length ≤ s.pg.length + 1
theorem putP_inv {kind : Nat} {l : List It} {s : Ws} {U : List Nat} (h : Inv s U) (hr : s.pg.length < 4096) (he : (enc kind l).length = 256) : ∃ m, Put1 kind l s U m := by
  rcases hfr : s.fr with _ | ⟨x, fr⟩
  · have e : putP kind l s = (⟨hkey l, [], s.pg.length⟩, ⟨s.pg ++ [enc kind l], [], s.full⟩) := by
      unfold putP; rw [hfr]; dsimp only; rw [if_neg (by omega)]
    refine ⟨s.pg.length, by rw [e], by rw [e]; simp, by rw [e]; exact getD_end, ?_, by rw [e]; simp⟩
    rw [e]
    refine ⟨by simp; omega, fun p hp => ?_, List.nodup_cons.2 ⟨fun hm => by have := (h.ul _ hm).1; omega, h.nd⟩, fun m hm => ?_, List.Pairwise.nil, by simp, h.ff⟩
    · rcases List.mem_append.1 hp with hp | hp
      · exact h.p256 p hp
      · obtain rfl : p = _ := by simpa using hp
        exact he
    · rcases List.mem_cons.1 hm with rfl | hm
      · simp
      · have := (h.ul m hm).1
        exact ⟨by simp; omega, by simp⟩
  · have e : putP kind l s = (⟨hkey l, [], x⟩, ⟨s.pg.set x (enc kind l), fr, s.full⟩) := by
      unfold putP; rw [hfr]
    have hx := h.fl x (by rw [hfr]; simp)
    have hs := h.fs
    rw [hfr] at hs
    obtain ⟨hs1, hs2⟩ := List.pairwise_cons.1 hs
    refine ⟨x, by rw [e], by rw [e]; simpa using hx, by rw [e]; exact getD_self hx, ?_, by rw [e]; simp⟩
    rw [e]
    refine ⟨by simpa using h.n4, fun p hp => ?_, List.nodup_cons.2 ⟨fun hm => (h.ul _ hm).2 (by rw [hfr]; simp), h.nd⟩, fun m hm => ?_, hs2, fun m hm => ?_, h.ff⟩
    · rcases List.mem_or_eq_of_mem_set hp with hp | rfl
      · exact h.p256 p hp
      · exact he
    · rcases List.mem_cons.1 hm with rfl | hm
      · exact ⟨by simpa using hx, fun hm => by have := hs1 m hm; omega⟩
      · have := h.ul m hm
        exact ⟨by simpa using this.1, fun h2 => this.2 (by rw [hfr]; simp [h2])⟩
    · have := h.fl m (by rw [hfr]; simp [hm])
      simpa using this
theorem Tr.ext {s s' : Ws} {a : Nat ⊕ List It} {ps : List Nat} {es : List It} (h : Tr s.pg a ps es) (he : Ext s s') (hf : ∀ m ∈ ps, m ∉ s.fr) : Tr s'.pg a ps es :=
  h.mono fun m hm => ⟨by have := h.lt m hm; have := he.le; omega, he.pg m (h.lt m hm) (hf m hm)⟩
/-- What storing gives: children for the entries. -/
structure StoT (s : Ws) (R : List Nat) (ps : List Nat) (es : List It) (r : List It × Ws) (ps' : List Nat) : Prop where
  tr : Tr r.2.pg (.inr r.1) ps' es
  inv : Inv r.2 (ps' ++ R)
  up : r.2.pg.length + ps.length ≤ s.pg.length + ps'.length
theorem two_of {kind : Nat} {l : List It} (h : ∀ x ∈ l, ItOk kind x) (e : l ≠ []) (ht : ¬ tot kind l ≤ 250) : 2 ≤ l.length := by
  rcases Nat.lt_or_ge l.length 2 with h2 | h2
  · obtain ⟨x, rfl⟩ := List.length_eq_one_iff.1 (show l.length = 1 by have := List.length_pos_iff.2 e; omega)
    rw [tot_one] at ht
    have := isz_le (h x (by simp)); omega
  · exact h2
theorem sto1_tr : ∀ {f : Nat} {l : List It} {s : Ws} {R : List Nat}, l.length ≤ f → (∀ x ∈ l, ItOk 1 x) → Inv s R → s.pg.length + 2 * l.length ≤ 4096 → ∃ ps', StoT s R [] l (sto 1 f l s) ps'
  | 0, l, s, R, hf, hl, hi, hr => by
    obtain rfl : l = [] := List.length_eq_zero_iff.1 (by omega)
    exact ⟨[], .nil, hi, by simp [sto]⟩
  | f + 1, l, s, R, hf, hl, hi, hr => by
    unfold sto
    by_cases e : l = []
    · subst e; rw [if_pos rfl]; exact ⟨[], .nil, hi, by simp⟩
    · rw [if_neg e]
      have hl1 := List.length_pos_iff.2 e
      by_cases ht : tot 1 l ≤ 250
      · rw [if_pos ht, if_neg (by simp)]
        obtain ⟨m, p⟩ := putP_inv (kind := 1) (l := l) hi (by omega) (enc_len hl ht)
        refine ⟨[m], ?_, ?_, ?_⟩
        · have hd : dec ((putP 1 l s).2.pg.getD m []) = some (1, l) := by rw [p.at_]; exact dec_enc (.inl rfl) hl (by omega) ht
          have := Tr.cons (pg := (putP 1 l s).2.pg) (putP 1 l s).1 [] [m] [] l [] (by rw [p.it]; exact .leaf m l p.lt hd) (by rw [p.it]; cases l with
            | nil => exact absurd rfl e
            | cons => rfl) .nil
          simpa using this
        · exact p.inv
        · have := p.up; simp; omega
      · rw [if_neg ht]
        have h2 := two_of hl e ht
        have c1 := cut_pos (kind := 1) h2
        have c2 := cut_lt (kind := 1) h2
        obtain ⟨p1, a⟩ := sto1_tr (f := f) (l := l.take (cut 1 l)) (s := s) (R := R) (by rw [List.length_take]; omega) (fun x hx => hl x (List.mem_of_mem_take hx)) hi (by rw [List.length_take]; omega)
        have u1 := a.up
        have k1 := a.tr.cnt
        simp only [nAt, List.length_take, List.length_nil] at u1 k1
        obtain ⟨p2, b⟩ := sto1_tr (f := f) (l := l.drop (cut 1 l)) (s := (sto 1 f (l.take (cut 1 l)) s).2) (R := p1 ++ R) (by rw [List.length_drop]; omega) (fun x hx => hl x (List.mem_of_mem_drop hx)) a.inv (by rw [List.length_drop]; omega)
        have u2 := b.up
        simp only [List.length_nil] at u2
        refine ⟨p1 ++ p2, ?_, ?_, ?_⟩
        · have := (a.tr.ext sto_ext fun m hm => (a.inv.ul m (by simp [hm])).2).app b.tr
          rwa [List.take_append_drop] at this
        · refine b.inv.perm ?_
          rw [← List.append_assoc]
          exact List.Perm.append_right _ List.perm_append_comm
        · simp; omega
theorem sto2_tr : ∀ {f : Nat} {l : List It} {s : Ws} {R ps : List Nat} {es : List It}, l.length ≤ f → (∀ x ∈ l, ItOk 2 x) → Inv s (ps ++ R) → Tr s.pg (.inr l) ps es → s.pg.length + 2 * es.length ≤ 4096 + ps.length → ∃ ps', StoT s R ps es (sto 2 f l s) ps'
  | 0, l, s, R, ps, es, hf, hl, hi, ht, hr => by
    obtain rfl : l = [] := List.length_eq_zero_iff.1 (by omega)
    exact ⟨ps, ht, hi, Nat.le_refl _⟩
  | f + 1, l, s, R, ps, es, hf, hl, hi, htr, hr => by
    unfold sto
    by_cases e : l = []
    · subst e; rw [if_pos rfl]; exact ⟨ps, htr, hi, Nat.le_refl _⟩
    · rw [if_neg e]
      have hl1 := List.length_pos_iff.2 e
      have hc := htr.cnt
      simp only [nAt] at hc
      by_cases ht : tot 2 l ≤ 250
      · rw [if_pos ht]
        by_cases h1 : 2 = 2 ∧ l.length = 1
        · rw [if_pos h1]; exact ⟨ps, htr, hi, Nat.le_refl _⟩
        · rw [if_neg h1]
          obtain ⟨m, p⟩ := putP_inv (kind := 2) (l := l) hi (by omega) (enc_len hl ht)
          refine ⟨m :: ps, ?_, ?_, ?_⟩
          · have hd : dec ((putP 2 l s).2.pg.getD m []) = some (2, l) := by rw [p.at_]; exact dec_enc (.inr rfl) hl (by omega) ht
            have h2 : Tr (putP 2 l s).2.pg (.inl m) (m :: ps) es := .fork m l ps es p.lt hd (htr.ext (putP_ext 2 l s) fun m hm => (hi.ul m (by simp [hm])).2)
            have := Tr.cons (pg := (putP 2 l s).2.pg) (putP 2 l s).1 [] (m :: ps) [] es [] (by rw [p.it]; exact h2) (by rw [p.it]; cases l with
              | nil => exact absurd rfl e
              | cons => exact htr.hd) .nil
            simpa using this
          · exact p.inv
          · have := p.up; simp; omega
      · rw [if_neg ht]
        have h2 := two_of hl e ht
        have c1 := cut_pos (kind := 2) h2
        have c2 := cut_lt (kind := 2) h2
        have htr' := htr
        rw [← List.take_append_drop (cut 2 l) l] at htr'
        obtain ⟨p1, p2, e1, e2, t1, t2, rfl, rfl⟩ := htr'.split
        have k1 := t1.cnt
        have k2 := t2.cnt
        simp only [nAt, List.length_take, List.length_drop, List.length_append] at k1 k2 hr hc
        obtain ⟨q1, a⟩ := sto2_tr (f := f) (l := l.take (cut 2 l)) (s := s) (R := p2 ++ R) (by rw [List.length_take]; omega) (fun x hx => hl x (List.mem_of_mem_take hx)) (by rw [← List.append_assoc]; exact hi) t1 (by omega)
        have u1 := a.up
        have j1 := a.tr.cnt
        simp only [nAt] at j1
        have t2' : Tr (sto 2 f (l.take (cut 2 l)) s).2.pg (.inr (l.drop (cut 2 l))) p2 e2 := t2.ext sto_ext fun m hm => (hi.ul m (by simp [hm])).2
        obtain ⟨q2, b⟩ := sto2_tr (f := f) (l := l.drop (cut 2 l)) (s := (sto 2 f (l.take (cut 2 l)) s).2) (R := q1 ++ R) (by rw [List.length_drop]; omega) (fun x hx => hl x (List.mem_of_mem_drop hx)) (a.inv.perm (by
          rw [← List.append_assoc, ← List.append_assoc]
          exact List.Perm.append_right _ List.perm_append_comm)) t2' (by omega)
        have u2 := b.up
        refine ⟨q1 ++ q2, ?_, ?_, ?_⟩
        · exact (a.tr.ext sto_ext fun m hm => (a.inv.ul m (by simp [hm])).2).app b.tr
        · refine b.inv.perm ?_
          rw [← List.append_assoc]
          exact List.Perm.append_right _ List.perm_append_comm
        · simp only [List.length_append]; omega
end Go.Proofs.YtpmkohnljngbhaaGreatDoor.Pg
/- Changing a tree changes its entries as it should. -/
namespace Go.Proofs.YtpmkohnljngbhaaGreatDoor.Pg
set_option maxRecDepth 1000000

def upd (l : List It) (key : List UInt8) (bl : List It) : List It := l.filter (fun x => decide (cmpB x.k key < 0)) ++ bl ++ l.filter (fun x => decide (0 < cmpB x.k key))
theorem ft_all {l : List It} {p : It → Bool} (h : ∀ x ∈ l, p x = true) : l.filter p = l := List.filter_eq_self.2 h
theorem ft_no {l : List It} {p : It → Bool} (h : ∀ x ∈ l, p x = false) : l.filter p = [] := List.filter_eq_nil_iff.2 fun x hx => by rw [h x hx]; simp
theorem upd_mid {a b c : List It} {key : List UInt8} {bl : List It} (ha : ∀ x ∈ a, cmpB x.k key < 0) (hc : ∀ x ∈ c, 0 < cmpB x.k key) : upd (a ++ b ++ c) key bl = a ++ upd b key bl ++ c := by
  unfold upd
  rw [List.filter_append, List.filter_append, List.filter_append, List.filter_append,
    ft_all (l := a) fun x hx => by simpa using ha x hx, ft_no (l := c) (p := fun x => decide (cmpB x.k key < 0)) fun x hx => by have := hc x hx; simp; omega,
    ft_no (l := a) (p := fun x => decide (0 < cmpB x.k key)) fun x hx => by have := ha x hx; simp; omega, ft_all (l := c) (p := fun x => decide (0 < cmpB x.k key)) fun x hx => by simpa using hc x hx]
  simp
theorem mem_take {l : List It} {i : Nat} {x : It} (h : x ∈ l.take i) : ∃ j, j < i ∧ l[j]? = some x := by
  obtain ⟨j, hj⟩ := List.mem_iff_getElem?.1 h
  rw [List.getElem?_take] at hj
  split at hj
  · exact ⟨j, by assumption, hj⟩
  · cases hj
theorem mem_drop {l : List It} {i : Nat} {x : It} (h : x ∈ l.drop i) : ∃ j, i ≤ j ∧ l[j]? = some x := by
  obtain ⟨j, hj⟩ := List.mem_iff_getElem?.1 h
  rw [List.getElem?_drop] at hj
  exact ⟨i + j, by omega, hj⟩
theorem ce_hi {l : List It} (hs : Srt l) (key : List UInt8) {j : Nat} {y : It} (hj : ce l key ≤ j) (hy : l[j]? = some y) : 0 < cmpB y.k key := by
  have p := plc_ix hs key
  unfold ce at hj
  by_cases hf : fd l key = true
  · rw [if_pos hf] at hj
    obtain ⟨x, hx, hk⟩ := p.fd.1 hf
    have := hs.at_ hx hy (by omega)
    rw [hk, cmpB_swap] at this
    omega
  · rw [if_neg hf] at hj
    have h1 := p.hi j y hj hy
    have hf : fd l key = false := by simpa using hf
    rw [hf] at p
    have h2 := p.no hs y (List.mem_of_getElem? hy)
    have h3 : cmpB y.k key ≠ 0 := fun e => h2 (cmpB_eq.1 e)
    omega
theorem ce_lo {l : List It} (hs : Srt l) (key : List UInt8) {j : Nat} {y : It} (hj : j < ce l key) (hy : l[j]? = some y) : cmpB y.k key ≤ 0 := by
  have p := plc_ix hs key
  unfold ce at hj
  by_cases hf : fd l key = true
  · rw [if_pos hf] at hj
    obtain ⟨x, hx, hk⟩ := p.fd.1 hf
    rcases Nat.lt_or_ge j (ix l key) with h | h
    · have := p.lo j y h hy; omega
    · obtain rfl : j = ix l key := by omega
      rw [hx] at hy; injection hy with hy; subst hy
      rw [hk, cmpB_self]; omega
  · rw [if_neg hf] at hj
    have := p.lo j y hj hy; omega
theorem ft_take {l : List It} (hs : Srt l) (key : List UInt8) : l.filter (fun x => decide (cmpB x.k key < 0)) = l.take (ix l key) := by
  have p := plc_ix hs key
  conv => lhs; rw [← List.take_append_drop (ix l key) l]
  rw [List.filter_append, ft_no (l := l.drop (ix l key)) fun x hx => ?_, ft_all (l := l.take (ix l key)) fun x hx => ?_, List.append_nil]
  · obtain ⟨j, hj, hx⟩ := mem_take hx
    simpa using p.lo j x hj hx
  · obtain ⟨j, hj, hx⟩ := mem_drop hx
    have := p.hi j x hj hx
    simp; omega
theorem ft_drop {l : List It} (hs : Srt l) (key : List UInt8) : l.filter (fun x => decide (0 < cmpB x.k key)) = l.drop (ce l key) := by
  conv => lhs; rw [← List.take_append_drop (ce l key) l]
  rw [List.filter_append, ft_no fun x hx => ?_, ft_all fun x hx => ?_, List.nil_append]
  · obtain ⟨j, hj, hx⟩ := mem_drop hx
    simpa using ce_hi hs key hj hx
  · obtain ⟨j, hj, hx⟩ := mem_take hx
    have := ce_lo hs key hj hx
    simp; omega
theorem upd_eq {l : List It} (hs : Srt l) (key : List UInt8) (bl : List It) : upd l key bl = l.take (ix l key) ++ bl ++ l.drop (ce l key) := by
  unfold upd; rw [ft_take hs, ft_drop hs]
theorem upd_len (l : List It) (key : List UInt8) (bl : List It) : (upd l key bl).length ≤ l.length + bl.length := by
  have : (l.filter (fun x => decide (cmpB x.k key < 0))).length + (l.filter (fun x => decide (0 < cmpB x.k key))).length ≤ l.length := by
    induction l with
    | nil => simp
    | cons x l ih =>
      simp only [List.filter_cons]
      split
      · rename_i h
        have h := of_decide_eq_true h
        rw [if_neg (by simp; omega)]
        simp; omega
      · split
        · simp; omega
        · simp; omega
  unfold upd
  simp only [List.length_append]
  omega
theorem upd_srt {l : List It} (hs : Srt l) (key : List UInt8) {bl : List It} (hb : ∀ x ∈ bl, x.k = key) (hb1 : bl.length ≤ 1) : Srt (upd l key bl) := by
  unfold upd Srt
  have hb2 : Srt bl := by
    match bl, hb1 with
    | [], _ => exact List.Pairwise.nil
    | [x], _ => exact List.pairwise_singleton _ _
  refine List.pairwise_append.2 ⟨List.pairwise_append.2 ⟨hs.sublist List.filter_sublist, hb2, ?_⟩, hs.sublist List.filter_sublist, ?_⟩
  · intro x hx y hy
    have := (List.mem_filter.1 hx).2
    rw [hb y hy]; exact of_decide_eq_true this
  · intro x hx y hy
    have h1 := of_decide_eq_true (List.mem_filter.1 hy).2
    have h2 : cmpB key y.k < 0 := by rw [cmpB_swap]; omega
    rcases List.mem_append.1 hx with hx | hx
    · exact cmpB_trans (of_decide_eq_true (List.mem_filter.1 hx).2) h2
    · rw [hb x hx]; exact h2
theorem tr_srt {pg : List (List UInt8)} {l : List It} : ∀ {ps : List Nat} {es : List It}, Tr pg (.inr l) ps es → Srt es → Srt l ∧ ∀ x ∈ l, ∃ y ∈ es, y.k = x.k := by
  induction l with
  | nil => intro ps es _ _; exact ⟨List.Pairwise.nil, by simp⟩
  | cons x l ih =>
    intro ps es h hs
    cases h with
    | cons _ _ p1 p2 e1 e2 h1 hk h2 =>
      obtain ⟨a, b⟩ := ih h2 hs.right
      obtain ⟨z, hz, hzk⟩ := Option.map_eq_some_iff.1 hk
      have hz := List.mem_of_mem_head? (Option.mem_def.2 hz)
      refine ⟨List.pairwise_cons.2 ⟨fun y hy => ?_, a⟩, fun y hy => ?_⟩
      · obtain ⟨u, hu, huk⟩ := b y hy
        have := (List.pairwise_append.1 hs).2.2 z hz u hu
        rwa [hzk, huk] at this
      · rcases List.mem_cons.1 hy with rfl | hy
        · exact ⟨z, List.mem_append.2 (.inl hz), hzk⟩
        · obtain ⟨u, hu, huk⟩ := b y hy
          exact ⟨u, List.mem_append.2 (.inr hu), huk⟩
theorem head_lo {es : List It} (hs : Srt es) {z y : It} (hz : es.head? = some z) (hy : y ∈ es) : y = z ∨ cmpB z.k y.k < 0 := by
  cases es with
  | nil => cases hz
  | cons a es =>
    obtain rfl : a = z := by simpa using hz
    rcases List.mem_cons.1 hy with rfl | hy
    · exact .inl rfl
    · exact .inr ((List.pairwise_cons.1 hs).1 y hy)
/-- Below which child a key lies. -/
theorem ci_split {pg : List (List UInt8)} {l : List It} {ps : List Nat} {es : List It} (h : Tr pg (.inr l) ps es) (hs : Srt es) {key : List UInt8} {x : It} (hx : l[ci l key]? = some x) :
    ∃ p1 px p2 e1 ex e2, Tr pg (.inr (l.take (ci l key))) p1 e1 ∧ Tr pg (.inl x.ch) px ex ∧ Tr pg (.inr (l.drop (ci l key + 1))) p2 e2 ∧ ps = p1 ++ px ++ p2 ∧ es = e1 ++ ex ++ e2 ∧
      (∀ y ∈ e1, cmpB y.k key < 0) ∧ (∀ y ∈ e2, 0 < cmpB y.k key) := by
  have hsl := (tr_srt h hs).1
  have hlt := (List.getElem?_eq_some_iff.1 hx).1
  have el : l = l.take (ci l key) ++ ([x] ++ l.drop (ci l key + 1)) := by
    have := (List.getElem?_eq_some_iff.1 hx).2
    rw [List.singleton_append, ← this, List.getElem_cons_drop, List.take_append_drop]
  have p := plc_ix hsl key
  have hA : 0 < ci l key → cmpB x.k key ≤ 0 := by
    intro h0
    unfold ci at h0 hx
    split at h0
    · rename_i hf
      rw [if_pos hf] at hx
      obtain ⟨z, hz, hk⟩ := p.fd.1 hf
      rw [hx] at hz; injection hz with hz; subst hz
      rw [hk, cmpB_self]; omega
    · rename_i hf
      rw [if_neg hf] at hx
      have := p.lo _ x (by omega) hx; omega
  have hB : ∀ z, l[ci l key + 1]? = some z → 0 < cmpB z.k key := by
    intro z hz
    refine ce_hi hsl key ?_ hz
    unfold ce ci
    split <;> omega
  have h' := h
  rw [el] at h'
  obtain ⟨p1, q, e1, f, t1, t2, rfl, rfl⟩ := h'.split
  obtain ⟨px, p2, ex, e2, t3, t4, rfl, rfl⟩ := t2.split
  obtain ⟨t3, hk⟩ := t3.one
  obtain ⟨z, hz, hzk⟩ := Option.map_eq_some_iff.1 hk
  have hzm := List.mem_of_mem_head? (Option.mem_def.2 hz)
  refine ⟨p1, px, p2, e1, ex, e2, t1, t3, t4, by simp, by simp, fun y hy => ?_, fun y hy => ?_⟩
  · have h0 : 0 < ci l key := by
      rcases Nat.eq_zero_or_pos (ci l key) with h0 | h0
      · rw [h0] at t1
        cases t1
        simp at hy
      · exact h0
    have h1 := (List.pairwise_append.1 hs).2.2 y hy z (List.mem_append.2 (.inl hzm))
    have h2 := hA h0
    rw [hzk] at h1
    rcases cmpB_cases x.k key with h3 | h3 | h3
    · exact cmpB_trans h1 (by omega)
    · rw [← cmpB_eq.1 h3]; exact h1
    · omega
  · have hs2 : Srt e2 := (Srt.right (Srt.right hs))
    rcases hd : l.drop (ci l key + 1) with _ | ⟨u, m⟩
    · rw [hd] at t4; cases t4; simp at hy
    · rw [hd] at t4
      have hu : l[ci l key + 1]? = some u := by
        have : (l.drop (ci l key + 1))[0]? = some u := by rw [hd]; rfl
        rw [List.getElem?_drop] at this; exact this
      obtain ⟨v, hv, hvk⟩ := Option.map_eq_some_iff.1 t4.hd
      have h1 := hB u hu
      rcases head_lo hs2 hv hy with rfl | h2
      · rw [hvk]; exact h1
      · rw [hvk] at h2
        have : cmpB key y.k < 0 := cmpB_trans (by rw [cmpB_swap]; omega) h2
        rw [cmpB_swap] at this; omega
theorem chg_tr {key : List UInt8} {bl : List It} (hb : ∀ x ∈ bl, ItOk 1 x) : ∀ {k n : Nat} {s : Ws} {R ps : List Nat} {es : List It}, ps.length ≤ k → Tr s.pg (.inl n) ps es → Srt es → Inv s (ps ++ R) → s.pg.length + 2 * (upd es key bl).length ≤ 4096 →
    ∃ ps', StoT s R [] (upd es key bl) (chg key bl k n s) ps' ∧ ∀ x ∈ (chg key bl k n s).1, ItOk 2 x
  | 0, n, s, R, ps, es, hk, ht, _, _, _ => by
    have := ht.ps_pos
    obtain rfl : ps = [] := List.length_eq_zero_iff.1 (by omega)
    simp at this
  | k + 1, n, s, R, ps, es, hk, ht, hs, hi, hr => by
    have hn := ht.lt n ht.ps_pos
    have hg : s.pg.getD n [] = s.pg[n]'hn := by rw [List.getD_eq_getElem?_getD, List.getElem?_eq_getElem hn]; rfl
    have h256 := hi.p256 _ (List.getElem_mem hn)
    rw [← hg] at h256
    cases ht with
    | leaf _ l hn hd =>
      have ok := dec_ok h256 hd
      rw [chg_leaf hd]
      have e := upd_eq hs key bl
      rw [e] at hr ⊢
      have hm : ∀ x ∈ es.take (ix es key) ++ bl ++ es.drop (ce es key), ItOk 1 x := mem_three (fun x hx => ok.it x (List.mem_of_mem_take hx)) hb fun x hx => ok.it x (List.mem_of_mem_drop hx)
      obtain ⟨ps', a⟩ := sto1_tr (f := (es.take (ix es key) ++ bl ++ es.drop (ce es key)).length + 1) (R := R) (Nat.le_succ _) hm (hi.sub (List.sublist_append_right _ _)) hr
      exact ⟨ps', a, (sto_ok hi.ok hm).1⟩
    | fork _ l qs _ hn hd h =>
      have ok := dec_ok h256 hd
      have hsl := (tr_srt h hs).1
      have hi2 := ci_lt hsl key (by have := ok.n1; omega)
      have hx : l[ci l key]? = some (l[ci l key]'hi2) := List.getElem?_eq_getElem hi2
      obtain ⟨x, hxe⟩ : ∃ x, l[ci l key]'hi2 = x := ⟨_, rfl⟩
      rw [hxe] at hx
      clear hxe
      rw [chg_fork hd hx]
      obtain ⟨p1, px, p2, e1, ex, e2, t1, tx, t2, rfl, rfl, lo, hi'⟩ := ci_split h hs hx
      rw [upd_mid lo hi'] at hr ⊢
      simp only [List.length_append, List.length_cons] at hr hk
      have hsx : Srt ex := hs.left.right
      obtain ⟨q, a, aok⟩ := chg_tr (key := key) hb (k := k) (n := x.ch) (s := s) (R := p1 ++ p2 ++ R) (ps := px) (es := ex) (by omega) tx hsx ((hi.sub (List.sublist_cons_self _ _)).perm (by
        show ((p1 ++ px ++ p2) ++ R).Perm (px ++ (p1 ++ p2 ++ R))
        rw [List.append_assoc, List.append_assoc, List.append_assoc]
        exact List.perm_append_comm_assoc _ _ _)) (by omega)
      have hdj : ∀ m, m ∈ p1 ∨ m ∈ p2 → m ∉ s.fr := fun m hm => (hi.ul m (by simp; rcases hm with hm | hm <;> simp [hm])).2
      have t1' := t1.ext (chg_ext (key := key) (bl := bl) (k := k) (n := x.ch)) fun m hm => hdj m (.inl hm)
      have t2' := t2.ext (chg_ext (key := key) (bl := bl) (k := k) (n := x.ch)) fun m hm => hdj m (.inr hm)
      have hm : ∀ y ∈ l.take (ci l key) ++ (chg key bl k x.ch s).1 ++ l.drop (ci l key + 1), ItOk 2 y := mem_three (fun y hy => ok.it y (List.mem_of_mem_take hy)) aok fun y hy => ok.it y (List.mem_of_mem_drop hy)
      have up1 := a.up
      simp only [List.length_nil] at up1
      have inv1 : Inv (chg key bl k x.ch s).2 (p1 ++ q ++ p2 ++ R) := a.inv.perm (by
        show (q ++ (p1 ++ p2 ++ R)).Perm (p1 ++ q ++ p2 ++ R)
        rw [List.append_assoc p1 p2, List.append_assoc (p1 ++ q), List.append_assoc p1 q]
        exact List.perm_append_comm_assoc _ _ _)
      obtain ⟨q2, b⟩ := sto2_tr (f := (l.take (ci l key) ++ (chg key bl k x.ch s).1 ++ l.drop (ci l key + 1)).length + 1) (R := R) (Nat.le_succ _) hm inv1 ((t1'.app a.tr).app t2') (by simp only [List.length_append]; omega)
      have up2 := b.up
      have e : (p1 ++ q ++ p2).length = p1.length + q.length + p2.length := by simp only [List.length_append]
      rw [e] at up2
      refine ⟨q2, ⟨b.tr, b.inv, ?_⟩, (sto_ok inv1.ok hm).1⟩
      unfold stoF
      simp only [List.length_nil]
      omega
theorem dnF_tr : ∀ {f : Nat} {l : List It} {s : Ws} {R ps : List Nat} {es : List It}, l.length ≤ f + 1 → (∀ x ∈ l, ItOk 2 x) → Inv s (ps ++ R) → Tr s.pg (.inr l) ps es → s.pg.length + 2 * es.length ≤ 4096 + ps.length → ∃ ps', StoT s R ps es (dnF f l s) ps' ∧ (dnF f l s).1.length ≤ 1
  | 0, l, s, R, ps, es, hf, _, hi, ht, hr => ⟨ps, ⟨ht, hi, Nat.le_refl _⟩, by simpa [dnF] using hf⟩
  | f + 1, l, s, R, ps, es, hf, hl, hi, ht, hr => by
    unfold dnF
    split
    · exact ⟨ps, ⟨ht, hi, Nat.le_refl _⟩, by assumption⟩
    · rename_i h1
      obtain ⟨q, a⟩ := sto2_tr (f := l.length + 1) (R := R) (Nat.le_succ _) hl hi ht hr
      have up := a.up
      have h2 := (sto_len (kind := 2) (f := l.length + 1) (s := s) hl).2 rfl (by omega)
      obtain ⟨q2, b, c⟩ := dnF_tr (f := f) (l := (stoF 2 l s).1) (s := (stoF 2 l s).2) (R := R) (by unfold stoF; omega) (sto_ok hi.ok hl).1 a.inv a.tr (by unfold stoF; omega)
      have up2 := b.up
      refine ⟨q2, ⟨b.tr, b.inv, ?_⟩, c⟩
      unfold stoF at up2 ⊢
      omega
end Go.Proofs.YtpmkohnljngbhaaGreatDoor.Pg
/- What the functions answer at a file that is sound. -/
namespace Go.Proofs.YtpmkohnljngbhaaGreatDoor.Pg
set_option maxRecDepth 1000000

/-- A file that is sound, with its pages in use and its entries. -/
structure Fok (F : Fi) (ps : List Nat) (es : List It) : Prop where
  shp : Shp F
  tr : Trt F.pg F.root ps es
  nd : ps.Nodup
  dj : ∀ m ∈ ps, (m : Int) ∉ F.free
  srt : Srt es
theorem Fok.rok {F : Fi} {ps : List Nat} {es : List It} (h : Fok F ps es) : ∃ s : St, Rok F.pg F.free F.root s ∧ s.2 = es ∧ s.1.Perm ps := rok_of h.tr h.nd h.dj h.srt
theorem Fok.vld {F : Fi} {ps : List Nat} {es : List It} (h : Fok F ps es) : Vld F := ⟨h.shp, by obtain ⟨s, a, _⟩ := h.rok; exact ⟨s, a⟩⟩
theorem Fok.at_ {F : Fi} {ps : List Nat} {es : List It} (h : Fok F ps es) {s : St} (k : Rok F.pg F.free F.root s) : s.2 = es ∧ s.1.Perm ps := by
  obtain ⟨t, a, b, c⟩ := h.rok
  rw [k.uniq a]; exact ⟨b, c⟩
theorem vld_fok {F : Fi} (h : Vld F) : ∃ ps es, Fok F ps es := by
  obtain ⟨hs, s, hr⟩ := h
  obtain ⟨ps, a, b, c, d, _⟩ := rok_iff hs.p256 hr
  exact ⟨ps, s.2, hs, a, b, c, d⟩
theorem Fok.items {F : Fi} {ps : List Nat} {es : List It} (h : Fok F ps es) : ∀ x ∈ es, ItOk 1 x := by
  obtain ⟨s, a, b, _⟩ := h.rok
  rw [← b]; exact (a.items h.shp.p256).ok
theorem fok_new : Fok ⟨[], -1, []⟩ [] [] := ⟨⟨by simp, by simp, by simp, by simp, frok_nil _ _⟩, .no (by decide), List.nodup_nil, by simp, List.Pairwise.nil⟩
theorem frok_nn {n : Nat} {root : Int} {l : List Int} (h : FrOk n root l) : ∃ fr : List Nat, l = nat_int fr ∧ (∀ x ∈ fr, x < n) ∧ fr.Pairwise (· < ·) := by
  refine ⟨l.map Int.toNat, ?_, fun x hx => ?_, ?_⟩
  · unfold nat_int
    rw [List.map_map]
    conv => lhs; rw [← List.map_id l]
    refine List.map_congr_left fun x hx => ?_
    obtain ⟨i, hi⟩ := List.mem_iff_getElem?.1 hx
    have := (h i x hi).1
    simp; omega
  · obtain ⟨y, hy, rfl⟩ := List.mem_map.1 hx
    obtain ⟨i, hi⟩ := List.mem_iff_getElem?.1 hy
    have := h i y hi
    omega
  · rw [List.pairwise_map]
    refine (frok_srt h).imp_of_mem fun {a b} ha hb hab => ?_
    obtain ⟨i, hi⟩ := List.mem_iff_getElem?.1 ha
    have := (h i a hi).1
    omega
theorem mem_ni {m : Nat} {fr : List Nat} : (m : Int) ∈ nat_int fr ↔ m ∈ fr := by
  unfold nat_int
  rw [List.mem_map]
  exact ⟨fun ⟨a, h1, h2⟩ => by obtain rfl : a = m := by omega
                               exact h1, fun h => ⟨m, h, rfl⟩⟩
theorem ni_frok {n : Nat} {root : Int} {fr : List Nat} (hl : ∀ x ∈ fr, x < n) (hs : fr.Pairwise (· < ·)) (hr : ∀ x ∈ fr, (x : Int) ≠ root) : FrOk n root (nat_int fr) := by
  intro i x hx
  unfold nat_int at hx ⊢
  rw [List.getElem?_map] at hx
  obtain ⟨a, ha, rfl⟩ := Option.map_eq_some_iff.1 hx
  have hm := List.mem_of_getElem? ha
  refine ⟨by omega, by have := hl a hm; omega, fun y h0 hy => ?_, hr a hm⟩
  rw [List.getElem?_map] at hy
  obtain ⟨b, hb, rfl⟩ := Option.map_eq_some_iff.1 hy
  obtain ⟨h1, rfl⟩ := List.getElem?_eq_some_iff.1 ha
  obtain ⟨h2, rfl⟩ := List.getElem?_eq_some_iff.1 hb
  have := List.pairwise_iff_getElem.1 hs (i - 1) i h2 h1 (by omega)
  omega
theorem Fok.inv {F : Fi} {ps : List Nat} {es : List It} (h : Fok F ps es) {fr : List Nat} (hf : F.free = nat_int fr) : Inv ⟨F.pg, fr, false⟩ ps := by
  have hlt : ∀ m ∈ ps, m < F.pg.length := by
    intro m hm
    cases h.tr with
    | no => simp at hm
    | yes _ _ _ ht => exact ht.lt m hm
  obtain ⟨fr', hf', h1, h2⟩ := frok_nn h.shp.fr
  obtain rfl : fr = fr' := by
    rw [hf] at hf'
    unfold nat_int at hf'
    exact (List.map_inj_right (fun a b h => by omega)).1 hf'
  exact ⟨h.shp.n4, h.shp.p256, h.nd, fun m hm => ⟨hlt m hm, fun h2 => h.dj m hm (by rw [hf]; exact mem_ni.2 h2)⟩, h2, h1, rfl⟩
/-- What a change leaves. -/
structure Chd (F G : Fi) (n : Nat) : Prop where
  le : F.pg.length ≤ G.pg.length
  up : G.pg.length ≤ F.pg.length + 2 * n
  pg : ∀ m, m < F.pg.length → (m : Int) ∉ F.free → G.pg.getD m [] = F.pg.getD m []
  fr : ∀ x ∈ G.free, x ∈ F.free
theorem out_law {F : Fi} {fr : List Nat} {es : List It} {a : List It × Ws} {ps : List Nat} (hf : F.free = nat_int fr) (ha : StoT ⟨F.pg, fr, false⟩ [] [] es a ps) (hk : ∀ x ∈ a.1, ItOk 2 x) (hl : a.1.length ≤ 1001) (hs : Srt es) (he : Ext ⟨F.pg, fr, false⟩ a.2)
    (hr : F.pg.length + 2 * es.length ≤ 4096) : (dnF 1000 a.1 a.2).2.full = false ∧ (∃ qs, Fok (outF a) qs es) ∧ Chd F (outF a) es.length := by
  have up := ha.up
  simp only [List.length_nil] at up
  obtain ⟨qs, b, c⟩ := dnF_tr (f := 1000) (l := a.1) (s := a.2) (R := []) (ps := ps) hl hk ha.inv ha.tr (by omega)
  have up2 := b.up
  have cnt := b.tr.cnt
  have ext := he.trans (dnF_ext (f := 1000) (l := a.1) (s := a.2))
  have hi := b.inv
  rw [List.append_nil] at hi
  refine ⟨hi.ff, ⟨qs, ?_⟩, ext.le, by show (dnF 1000 a.1 a.2).2.pg.length ≤ _; omega, fun m h1 h2 => ext.pg m h1 (fun h3 => h2 (by rw [hf]; exact mem_ni.2 h3)), fun x hx => ?_⟩
  · have htr : Trt (dnF 1000 a.1 a.2).2.pg (rootOf (dnF 1000 a.1 a.2).1) qs es ∧ -1 ≤ rootOf (dnF 1000 a.1 a.2).1 ∧ rootOf (dnF 1000 a.1 a.2).1 < (dnF 1000 a.1 a.2).2.pg.length ∧ (∀ m : Nat, rootOf (dnF 1000 a.1 a.2).1 = (m : Int) → m ∈ qs) := by
      have ht := b.tr
      rcases hd : (dnF 1000 a.1 a.2).1 with _ | ⟨x, _ | ⟨y, l⟩⟩
      · rw [hd] at ht
        cases ht
        exact ⟨.no (by decide), by decide, by simp only [rootOf]; omega, fun m h => by simp only [rootOf] at h; omega⟩
      · rw [hd] at ht
        have ht := ht.one.1
        have := ht.lt _ ht.ps_pos
        refine ⟨.yes _ _ (by simp [rootOf]) (by simpa [rootOf] using ht), by simp only [rootOf]; omega, by simp only [rootOf]; omega, fun m h => ?_⟩
        simp only [rootOf] at h
        obtain rfl : x.ch = m := by omega
        exact ht.ps_pos
      · rw [hd] at c; simp at c
    obtain ⟨t1, t2, t3, t4⟩ := htr
    exact ⟨⟨hi.n4, t2, t3, hi.p256, ni_frok hi.fl hi.fs fun x hx e => (hi.ul x (t4 x e.symm)).2 hx⟩, t1, hi.nd, fun m hm h2 => (hi.ul m hm).2 (mem_ni.1 h2), hs⟩
  · unfold outF nat_int at hx
    obtain ⟨y, hy, rfl⟩ := List.mem_map.1 hx
    rw [hf]
    exact mem_ni.2 (ext.fr y hy)
theorem fok_pok {F : Fi} (h : Vld F) (hr : ¬ F.root < 0) (key : List UInt8) : Pok F.pg key (F.pg.length + 1) F.root.toNat := by
  obtain ⟨hs, s, hr2⟩ := h
  cases hr2 with
  | no h => exact absurd h hr
  | yes _ _ hv hs2 => exact vis_pok hs.p256 key hv hs2
theorem item_ok {key value : List UInt8} (h : lenKV key value) : ItOk 1 (⟨key, value, 0⟩ : It) := ⟨h.1, h.2.1, h.2.2, fun _ => rfl, fun e => absurd rfl e⟩
theorem put_law {F G : Fi} {ps : List Nat} {es : List It} {key value : List UInt8} {er : Int} (h : Fok F ps es) (hl : lenKV key value) (hr : F.pg.length + 2 * (upd es key [⟨key, value, 0⟩]).length ≤ 4096) (ho : PutO F key value G er) :
    er = 0 ∧ (∃ qs, Fok G qs (upd es key [⟨key, value, 0⟩])) ∧ Chd F G (upd es key [⟨key, value, 0⟩]).length := by
  have hb : ∀ x ∈ [(⟨key, value, 0⟩ : It)], ItOk 1 x := fun x hx => by obtain rfl : x = _ := by simpa using hx
                                                                       exact item_ok hl
  have main : ∀ fr : List Nat, F.free = nat_int fr → (dnF 1000 (putA F fr key value).1 (putA F fr key value).2).2.full = false ∧ (∃ qs, Fok (outF (putA F fr key value)) qs (upd es key [⟨key, value, 0⟩])) ∧ Chd F (outF (putA F fr key value)) (upd es key [⟨key, value, 0⟩]).length := by
    intro fr hf
    have hi := h.inv hf
    have hsr : Srt (upd es key [⟨key, value, 0⟩]) := upd_srt h.srt key (fun x hx => by rw [List.mem_singleton.1 hx]) (by simp)
    cases h.tr with
    | no hneg =>
      have e : upd [] key [⟨key, value, 0⟩] = [⟨key, value, 0⟩] := rfl
      rw [e] at hr hsr ⊢
      have ea : putA F fr key value = stoF 1 [⟨key, value, 0⟩] ⟨F.pg, fr, false⟩ := by unfold putA; rw [if_pos hneg]
      rw [ea]
      obtain ⟨q, a⟩ := sto1_tr (f := 2) (l := [(⟨key, value, 0⟩ : It)]) (s := ⟨F.pg, fr, false⟩) (R := []) (by simp) hb hi hr
      refine out_law hf a (sto_ok hi.ok hb).1 ?_ hsr sto_ext hr
      have := (sto_len (kind := 1) (f := 2) (s := ⟨F.pg, fr, false⟩) hb).1
      exact Nat.le_trans this (by simp)
    | yes _ _ hpos ht =>
      have ea : putA F fr key value = chg key [⟨key, value, 0⟩] (F.pg.length + 1) F.root.toNat ⟨F.pg, fr, false⟩ := by unfold putA; rw [if_neg (by omega)]
      rw [ea]
      obtain ⟨q, a, b⟩ := chg_tr (key := key) hb (k := F.pg.length + 1) (s := ⟨F.pg, fr, false⟩) (R := []) (by have := nodup_le h.nd ht.lt; omega) ht h.srt (by rw [List.append_nil]; exact hi) hr
      have c := (chg_ok (key := key) hb (by simp) (fok_pok h.vld (by omega) key) hi.ok).2.2
      exact out_law hf a b (by omega) hsr chg_ext hr
  cases ho with
  | arg hn => exact absurd hl hn
  | log _ hn => exact absurd h.vld hn
  | full fr hf _ _ hfull => have := (main fr hf).1; rw [hfull] at this; cases this
  | ok fr hf _ _ _ => exact ⟨rfl, (main fr hf).2⟩
theorem lkp_upd {es : List It} (hs : Srt es) {key : List UInt8} : lkp es key = none ↔ fd es key = false := by
  unfold lkp fd
  rw [Option.map_eq_none_iff, List.find?_eq_none, List.any_eq_false]
theorem fnd_law {F : Fi} {es : List It} {root : Int} {key d : List UInt8} {er : Int} (h : ∃ s : St, Rok F.pg F.free root s ∧ s.2 = es) (ho : FndO F root key d er) : (lkp es key = none ∧ d = [] ∧ er = 7) ∨ (lkp es key = some d ∧ er = 0) := by
  obtain ⟨s, hr, rfl⟩ := h
  cases ho with
  | bad hn => exact absurd hr (hn s)
  | none t ht hn => rw [ht.uniq hr] at hn; exact .inl ⟨hn, rfl, rfl⟩
  | some t _ ht hn => rw [ht.uniq hr] at hn; exact .inr ⟨hn, rfl⟩
theorem get_law {F : Fi} {ps : List Nat} {es : List It} {key d : List UInt8} {er : Int} (h : Fok F ps es) (ho : GetO F key d er) : (¬ lenK key ∧ d = [] ∧ er = 1) ∨ (lenK key ∧ lkp es key = none ∧ d = [] ∧ er = 7) ∨ (lenK key ∧ lkp es key = some d ∧ er = 0) := by
  cases ho with
  | arg hn => exact .inl ⟨hn, rfl, rfl⟩
  | log _ hn => exact absurd h.shp hn
  | get hl _ _ _ hf =>
    obtain ⟨s, a, b, _⟩ := h.rok
    rcases fnd_law ⟨s, a, b⟩ hf with ⟨h1, h2, h3⟩ | ⟨h1, h2⟩
    · exact .inr (.inl ⟨hl, h1, h2, h3⟩)
    · exact .inr (.inr ⟨hl, h1, h2⟩)
theorem del_law {F G : Fi} {ps : List Nat} {es : List It} {key : List UInt8} {er : Int} (h : Fok F ps es) (hl : lenK key) (hr : F.pg.length + 2 * es.length ≤ 4096) (ho : DelO F key G er) :
    (lkp es key = none ∧ G = zeroF ∧ er = 7) ∨ ((∃ v, lkp es key = some v) ∧ er = 0 ∧ (∃ qs, Fok G qs (upd es key [])) ∧ Chd F G (upd es key []).length) := by
  have hul := upd_len es key []
  simp only [List.length_nil] at hul
  have main : ∀ fr : List Nat, F.free = nat_int fr → (∃ v, lkp es key = some v) → (dnF 1000 (delA F fr key).1 (delA F fr key).2).2.full = false ∧ (∃ qs, Fok (outF (delA F fr key)) qs (upd es key [])) ∧ Chd F (outF (delA F fr key)) (upd es key []).length := by
    intro fr hf ⟨v, hv⟩
    have hi := h.inv hf
    have hsr : Srt (upd es key []) := upd_srt h.srt key (by simp) (by simp)
    cases h.tr with
    | no hneg => cases hv
    | yes _ _ hpos ht =>
      have ea : delA F fr key = chg key [] (F.pg.length + 1) F.root.toNat ⟨F.pg, fr, false⟩ := rfl
      rw [ea]
      obtain ⟨q, a, b⟩ := chg_tr (key := key) (bl := []) (by simp) (k := F.pg.length + 1) (s := ⟨F.pg, fr, false⟩) (R := []) (by have := nodup_le h.nd ht.lt; omega) ht h.srt (by rw [List.append_nil]; exact hi) (by show F.pg.length + _ ≤ _; omega)
      have c := (chg_ok (key := key) (bl := []) (by simp) (by simp) (fok_pok h.vld (by omega) key) hi.ok).2.2
      exact out_law hf a b (by omega) hsr chg_ext (by omega)
  have nope : ∀ d e, GetO F key d e → (lkp es key = none ∧ e = 7) ∨ ((∃ v, lkp es key = some v) ∧ e = 0) := by
    intro d e hg
    rcases get_law h hg with ⟨h1, _⟩ | ⟨_, h1, _, h2⟩ | ⟨_, h1, h2⟩
    · exact absurd hl h1
    · exact .inl ⟨h1, h2⟩
    · exact .inr ⟨⟨_, h1⟩, h2⟩
  cases ho with
  | err d _ hg he =>
    rcases nope d er hg with ⟨h1, h2⟩ | ⟨_, h2⟩
    · exact .inl ⟨h1, rfl, h2⟩
    · exact absurd h2 he
  | full fr hf d hg hfull =>
    rcases nope d 0 hg with ⟨_, h2⟩ | ⟨h1, _⟩
    · cases h2
    · have := (main fr hf h1).1; rw [hfull] at this; cases this
  | ok fr hf d hg _ =>
    rcases nope d 0 hg with ⟨_, h2⟩ | ⟨h1, _⟩
    · cases h2
    · exact .inr ⟨h1, rfl, (main fr hf h1).2⟩
end Go.Proofs.YtpmkohnljngbhaaGreatDoor.Pg
/- Older roots; the chapter's examples. -/
namespace Go.Proofs.YtpmkohnljngbhaaGreatDoor.Pg
set_option maxRecDepth 1000000

theorem Fok.lt {F : Fi} {ps : List Nat} {es : List It} (h : Fok F ps es) : ∀ m ∈ ps, m < F.pg.length := by
  intro m hm
  cases h.tr with
  | no => simp at hm
  | yes _ _ _ ht => exact ht.lt m hm
/-- An older root is read as it was. -/
theorem old_trt {F : Fi} {pg' : List (List UInt8)} {ps : List Nat} {es : List It} (h : Fok F ps es) (hl : F.pg.length ≤ pg'.length) (hp : ∀ m, m < F.pg.length → (m : Int) ∉ F.free → pg'.getD m [] = F.pg.getD m []) : Trt pg' F.root ps es := by
  cases h.tr with
  | no hn => exact .no hn
  | yes _ _ h0 ht => exact .yes _ _ h0 (ht.mono fun m hm => ⟨by have := h.lt m hm; omega, hp m (h.lt m hm) (h.dj m hm)⟩)
theorem old_fok {F G : Fi} {ps : List Nat} {es : List It} (h : Fok F ps es) (hl : F.pg.length ≤ G.pg.length) (hp : ∀ m, m < F.pg.length → (m : Int) ∉ F.free → G.pg.getD m [] = F.pg.getD m []) (hs : Shp G) : Fok ⟨G.pg, F.root, []⟩ ps es :=
  ⟨⟨hs.n4, h.shp.r1, by have := h.shp.r2; show F.root < (G.pg.length : Int); omega, hs.p256, frok_nil _ _⟩, old_trt (F := F) h hl hp, h.nd, by simp, h.srt⟩
theorem old_law {F G : Fi} {ps : List Nat} {es : List It} {key d : List UInt8} {er : Int} (h : Fok F ps es) (hl : F.pg.length ≤ G.pg.length) (hp : ∀ m, m < F.pg.length → (m : Int) ∉ F.free → G.pg.getD m [] = F.pg.getD m []) (hs : Shp G) (hk : lenK key) (ho : OldO G F.root key d er) :
    (lkp es key = none ∧ d = [] ∧ er = 7) ∨ (lkp es key = some d ∧ er = 0) := by
  cases ho with
  | arg hn => exact absurd ⟨hk, h.shp.r1, by have := h.shp.r2; omega⟩ hn
  | get _ _ _ hg =>
    rcases get_law (old_fok h hl hp hs) hg with ⟨h1, _⟩ | ⟨_, h1, h2, h3⟩ | ⟨_, h1, h2⟩
    · exact absurd hk h1
    · exact .inl ⟨h1, h2, h3⟩
    · exact .inr ⟨h1, h2⟩
theorem awk_es1 : upd [] [97] [⟨[97], [120], 0⟩] = [⟨[97], [120], 0⟩] := rfl
theorem awk_es2 : upd [⟨[97], [120], 0⟩] [98] [⟨[98], [], 0⟩] = [⟨[97], [120], 0⟩, ⟨[98], [], 0⟩] := by
  have : cmpB [97] [98] = -1 := by decide
  unfold upd
  simp [this]
theorem awk_sum : crc [49, 50, 51, 52, 53, 54, 55, 56, 57] = 3421780262 := by decide +kernel
theorem awk_plain {F1 F2 : Fi} {e1 e2 e3 e4 : Int} {d3 d4 : List UInt8} (p1 : PutO ⟨[], -1, []⟩ [97] [120] F1 e1) (p2 : PutO F1 [98] [] F2 e2) (p3 : OldO F2 F1.root [97] d3 e3) (p4 : OldO F2 F1.root [98] d4 e4) :
    e1 = 0 ∧ e2 = 0 ∧ d3 = [120] ∧ e3 = 0 ∧ e4 = 7 := by
  obtain ⟨h1, ⟨qs, f1⟩, c1⟩ := put_law fok_new ⟨by decide, by decide, by decide⟩ (by rw [awk_es1]; simp) p1
  rw [awk_es1] at f1 c1
  have l1 := c1.up
  simp only [List.length_nil, List.length_cons] at l1
  obtain ⟨h2, ⟨qs2, f2⟩, c2⟩ := put_law f1 ⟨by decide, by decide, by decide⟩ (by rw [awk_es2]; simp; omega) p2
  rcases old_law f1 c2.le c2.pg f2.shp ⟨by decide, by decide⟩ p3 with ⟨a, _⟩ | ⟨a, b⟩
  · cases a
  · have a : some [120] = some d3 := a
    injection a with a
    rcases old_law f1 c2.le c2.pg f2.shp ⟨by decide, by decide⟩ p4 with ⟨_, _, c⟩ | ⟨c, _⟩
    · exact ⟨h1, h2, a.symm, b, c⟩
    · cases c
end Go.Proofs.YtpmkohnljngbhaaGreatDoor.Pg
