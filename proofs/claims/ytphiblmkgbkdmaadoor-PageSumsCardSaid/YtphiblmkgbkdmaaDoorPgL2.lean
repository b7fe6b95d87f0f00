/- Writing keeps trees. -/
import Derived.Test.YtphiblmkgbkdmaaDoorPgL1
namespace Go.Proofs.YtphiblmkgbkdmaaDoor.Pg
set_option linter.unusedVariables false
set_option linter.unusedSimpArgs false

/-- A writer, and pages in use. -/
structure Inv (s : Ws) (U : List Nat) : Prop where
  n4 : s.pg.length ≤ 4096
  p256 : ∀ p ∈ s.pg, p.length = 256
  nd : U.Nodup
  ul : ∀ m ∈ U, m < s.pg.length ∧ m ∉ s.fr
  fs : s.fr.Pairwise (· < ·)
  fl : ∀ m ∈ s.fr, m < s.pg.length
  ff : s.full = false
theorem Inv.perm {s : Ws} {U V : List Nat} (h : Inv s U) (hp : U.Perm V) : Inv s V := { h with nd := hp.nodup_iff.1 h.nd, ul := fun m hm => h.ul m (hp.mem_iff.2 hm) }
theorem Inv.sub {s : Ws} {U V : List Nat} (h : Inv s U) (hp : V.Sublist U) : Inv s V := { h with nd := h.nd.sublist hp, ul := fun m hm => h.ul m (hp.subset hm) }
theorem Inv.ok {s : Ws} {U : List Nat} (h : Inv s U) : WsOk s := ⟨h.n4, h.fl⟩
/-- What a writer leaves. -/
structure Ext (s s' : Ws) : Prop where
  le : s.pg.length ≤ s'.pg.length
  pg : ∀ m, m < s.pg.length → m ∉ s.fr → s'.pg.getD m [] = s.pg.getD m []
  fr : ∀ m ∈ s'.fr, m ∈ s.fr
theorem Ext.refl (s : Ws) : Ext s s := ⟨Nat.le_refl _, fun _ _ _ => rfl, fun _ h => h⟩
theorem Ext.trans {a b c : Ws} (h : Ext a b) (k : Ext b c) : Ext a c :=
  ⟨Nat.le_trans h.le k.le, fun m h1 h2 => (k.pg m (by have := h.le; omega) fun h3 => h2 (h.fr m h3)).trans (h.pg m h1 h2), fun m hm => h.fr m (k.fr m hm)⟩
theorem getD_set {l : List (List UInt8)} {i j : Nat} {a : List UInt8} (h : i ≠ j) : (l.set i a).getD j [] = l.getD j [] := by
  rw [List.getD_eq_getElem?_getD, List.getElem?_set_ne h, ← List.getD_eq_getElem?_getD]
theorem getD_self {l : List (List UInt8)} {i : Nat} {a : List UInt8} (h : i < l.length) : (l.set i a).getD i [] = a := by
  rw [List.getD_eq_getElem?_getD, List.getElem?_set_self h]; rfl
theorem getD_app {l : List (List UInt8)} {j : Nat} {a : List UInt8} (h : j < l.length) : (l ++ [a]).getD j [] = l.getD j [] := by
  rw [List.getD_eq_getElem?_getD, List.getElem?_append_left h, ← List.getD_eq_getElem?_getD]
theorem getD_end {l : List (List UInt8)} {a : List UInt8} : (l ++ [a]).getD l.length [] = a := by
  rw [List.getD_eq_getElem?_getD, List.getElem?_append_right (Nat.le_refl _), Nat.sub_self]; rfl
theorem putP_ext (kind : Nat) (l : List It) (s : Ws) : Ext s (putP kind l s).2 := by
  unfold putP
  rcases hfr : s.fr with _ | ⟨x, fr⟩
  · dsimp only
    split
    · exact ⟨Nat.le_refl _, fun _ _ _ => rfl, by simp⟩
    · exact ⟨by simp, fun m h1 _ => getD_app h1, by simp⟩
  · dsimp only
    exact ⟨by simp, fun m _ h2 => getD_set (fun e => h2 (by rw [hfr, ← e]; simp)), fun m hm => by rw [hfr]; exact List.mem_cons.2 (.inr hm)⟩
theorem sto_ext {kind : Nat} : ∀ {f : Nat} {l : List It} {s : Ws}, Ext s (sto kind f l s).2
  | 0, l, s => .refl s
  | f + 1, l, s => by
    unfold sto
    split
    · exact .refl s
    · split
      · split
        · exact .refl s
        · exact putP_ext _ _ _
      · exact (sto_ext (kind := kind) (f := f)).trans (sto_ext (kind := kind) (f := f))
theorem chg_ext {key : List UInt8} {bl : List It} : ∀ {k n : Nat} {s : Ws}, Ext s (chg key bl k n s).2
  | 0, n, s => .refl s
  | k + 1, n, s => by
    unfold chg
    split
    · exact .refl s
    · split
      · exact sto_ext
      · split
        · exact .refl s
        · exact (chg_ext (key := key) (bl := bl) (k := k)).trans sto_ext
theorem dnF_ext : ∀ {f : Nat} {l : List It} {s : Ws}, Ext s (dnF f l s).2
  | 0, l, s => .refl s
  | f + 1, l, s => by
    unfold dnF
    split
    · exact .refl s
    · exact sto_ext.trans (dnF_ext (f := f))
/-- One page written. -/
structure Put1 (kind : Nat) (l : List It) (s : Ws) (U : List Nat) (m : Nat) : Prop where
  it : (putP kind l s).1 = ⟨hkey l, [], m⟩
  lt : m < (putP kind l s).2.pg.length
  at_ : (putP kind l s).2.pg.getD m [] = enc kind l
  inv : Inv (putP kind l s).2 (m :: U)
  up : (putP kind l s).2.pg.length ≤ s.pg.length + 1
theorem putP_inv {kind : Nat} {l : List It} {s : Ws} {U : List Nat} (h : Inv s U) (hr : s.pg.length < 4096) (he : (enc kind l).length = 256) : ∃ m, Put1 kind l s U m := by
  rcases hfr : s.fr with _ | ⟨x, fr⟩
  · have e : putP kind l s = (⟨hkey l, [], s.pg.length⟩, ⟨s.pg ++ [enc kind l], [], s.full⟩) := by
      unfold putP; rw [hfr]; dsimp only; rw [if_neg (by omega)]
    refine ⟨s.pg.length, by rw [e], by rw [e]; simp, by rw [e]; exact getD_end, ?_, by rw [e]; simp⟩
    rw [e]
    refine ⟨by simp; omega, fun p hp => ?_, List.nodup_cons.2 ⟨fun hm => by have := (h.ul _ hm).1; omega, h.nd⟩, fun m hm => ?_, List.Pairwise.nil, by simp, h.ff⟩
    · rcases List.mem_append.1 hp with hp | hp
      · exact h.p256 p hp
      · obtain rfl : p = _ := by simpa using hp
        exact he
    · rcases List.mem_cons.1 hm with rfl | hm
      · simp
      · have := (h.ul m hm).1
        exact ⟨by simp; omega, by simp⟩
  · have e : putP kind l s = (⟨hkey l, [], x⟩, ⟨s.pg.set x (enc kind l), fr, s.full⟩) := by
      unfold putP; rw [hfr]
    have hx := h.fl x (by rw [hfr]; simp)
    have hs := h.fs
    rw [hfr] at hs
    obtain ⟨hs1, hs2⟩ := List.pairwise_cons.1 hs
    refine ⟨x, by rw [e], by rw [e]; simpa using hx, by rw [e]; exact getD_self hx, ?_, by rw [e]; simp⟩
    rw [e]
    refine ⟨by simpa using h.n4, fun p hp => ?_, List.nodup_cons.2 ⟨fun hm => (h.ul _ hm).2 (by rw [hfr]; simp), h.nd⟩, fun m hm => ?_, hs2, fun m hm => ?_, h.ff⟩
    · rcases List.mem_or_eq_of_mem_set hp with hp | rfl
      · exact h.p256 p hp
      · exact he
    · rcases List.mem_cons.1 hm with rfl | hm
      · exact ⟨by simpa using hx, fun hm => by have := hs1 m hm; omega⟩
      · have := h.ul m hm
        exact ⟨by simpa using this.1, fun h2 => this.2 (by rw [hfr]; simp [h2])⟩
    · have := h.fl m (by rw [hfr]; simp [hm])
      simpa using this
theorem Tr.ext {s s' : Ws} {a : Nat ⊕ List It} {ps : List Nat} {es : List It} (h : Tr s.pg a ps es) (he : Ext s s') (hf : ∀ m ∈ ps, m ∉ s.fr) : Tr s'.pg a ps es :=
  h.mono fun m hm => ⟨by have := h.lt m hm; have := he.le; omega, he.pg m (h.lt m hm) (hf m hm)⟩
/-- What storing gives: children for the entries. -/
structure StoT (s : Ws) (R : List Nat) (ps : List Nat) (es : List It) (r : List It × Ws) (ps' : List Nat) : Prop where
  tr : Tr r.2.pg (.inr r.1) ps' es
  inv : Inv r.2 (ps' ++ R)
  up : r.2.pg.length + ps.length ≤ s.pg.length + ps'.length
theorem two_of {kind : Nat} {l : List It} (h : ∀ x ∈ l, ItOk kind x) (e : l ≠ []) (ht : ¬ tot kind l ≤ 250) : 2 ≤ l.length := by
  rcases Nat.lt_or_ge l.length 2 with h2 | h2
  · obtain ⟨x, rfl⟩ := List.length_eq_one_iff.1 (show l.length = 1 by have := List.length_pos_iff.2 e; omega)
    rw [tot_one] at ht
    have := isz_le (h x (by simp)); omega
  · exact h2
theorem sto1_tr : ∀ {f : Nat} {l : List It} {s : Ws} {R : List Nat}, l.length ≤ f → (∀ x ∈ l, ItOk 1 x) → Inv s R → s.pg.length + 2 * l.length ≤ 4096 → ∃ ps', StoT s R [] l (sto 1 f l s) ps'
  | 0, l, s, R, hf, hl, hi, hr => by
    obtain rfl : l = [] := List.length_eq_zero_iff.1 (by omega)
    exact ⟨[], .nil, hi, by simp [sto]⟩
  | f + 1, l, s, R, hf, hl, hi, hr => by
    unfold sto
    by_cases e : l = []
    · subst e; rw [if_pos rfl]; exact ⟨[], .nil, hi, by simp⟩
    · rw [if_neg e]
      have hl1 := List.length_pos_iff.2 e
      by_cases ht : tot 1 l ≤ 250
      · rw [if_pos ht, if_neg (by simp)]
        obtain ⟨m, p⟩ := putP_inv (kind := 1) (l := l) hi (by omega) (enc_len hl ht)
        refine ⟨[m], ?_, ?_, ?_⟩
        · have hd : dec ((putP 1 l s).2.pg.getD m []) = some (1, l) := by rw [p.at_]; exact dec_enc (.inl rfl) hl (by omega) ht
          have := Tr.cons (pg := (putP 1 l s).2.pg) (putP 1 l s).1 [] [m] [] l [] (by rw [p.it]; exact .leaf m l p.lt hd) (by rw [p.it]; cases l with
            | nil => exact absurd rfl e
            | cons => rfl) .nil
          simpa using this
        · exact p.inv
        · have := p.up; simp; omega
      · rw [if_neg ht]
        have h2 := two_of hl e ht
        have c1 := cut_pos (kind := 1) h2
        have c2 := cut_lt (kind := 1) h2
        obtain ⟨p1, a⟩ := sto1_tr (f := f) (l := l.take (cut 1 l)) (s := s) (R := R) (by rw [List.length_take]; omega) (fun x hx => hl x (List.mem_of_mem_take hx)) hi (by rw [List.length_take]; omega)
        have u1 := a.up
        have k1 := a.tr.cnt
        simp only [nAt, List.length_take, List.length_nil] at u1 k1
        obtain ⟨p2, b⟩ := sto1_tr (f := f) (l := l.drop (cut 1 l)) (s := (sto 1 f (l.take (cut 1 l)) s).2) (R := p1 ++ R) (by rw [List.length_drop]; omega) (fun x hx => hl x (List.mem_of_mem_drop hx)) a.inv (by rw [List.length_drop]; omega)
        have u2 := b.up
        simp only [List.length_nil] at u2
        refine ⟨p1 ++ p2, ?_, ?_, ?_⟩
        · have := (a.tr.ext sto_ext fun m hm => (a.inv.ul m (by simp [hm])).2).app b.tr
          rwa [List.take_append_drop] at this
        · refine b.inv.perm ?_
          rw [← List.append_assoc]
          exact List.Perm.append_right _ List.perm_append_comm
        · simp; omega
theorem sto2_tr : ∀ {f : Nat} {l : List It} {s : Ws} {R ps : List Nat} {es : List It}, l.length ≤ f → (∀ x ∈ l, ItOk 2 x) → Inv s (ps ++ R) → Tr s.pg (.inr l) ps es → s.pg.length + 2 * es.length ≤ 4096 + ps.length → ∃ ps', StoT s R ps es (sto 2 f l s) ps'
  | 0, l, s, R, ps, es, hf, hl, hi, ht, hr => by
    obtain rfl : l = [] := List.length_eq_zero_iff.1 (by omega)
    exact ⟨ps, ht, hi, Nat.le_refl _⟩
  | f + 1, l, s, R, ps, es, hf, hl, hi, htr, hr => by
    unfold sto
    by_cases e : l = []
    · subst e; rw [if_pos rfl]; exact ⟨ps, htr, hi, Nat.le_refl _⟩
    · rw [if_neg e]
      have hl1 := List.length_pos_iff.2 e
      have hc := htr.cnt
      simp only [nAt] at hc
      by_cases ht : tot 2 l ≤ 250
      · rw [if_pos ht]
        by_cases h1 : 2 = 2 ∧ l.length = 1
        · rw [if_pos h1]; exact ⟨ps, htr, hi, Nat.le_refl _⟩
        · rw [if_neg h1]
          obtain ⟨m, p⟩ := putP_inv (kind := 2) (l := l) hi (by omega) (enc_len hl ht)
          refine ⟨m :: ps, ?_, ?_, ?_⟩
          · have hd : dec ((putP 2 l s).2.pg.getD m []) = some (2, l) := by rw [p.at_]; exact dec_enc (.inr rfl) hl (by omega) ht
            have h2 : Tr (putP 2 l s).2.pg (.inl m) (m :: ps) es := .fork m l ps es p.lt hd (htr.ext (putP_ext 2 l s) fun m hm => (hi.ul m (by simp [hm])).2)
            have := Tr.cons (pg := (putP 2 l s).2.pg) (putP 2 l s).1 [] (m :: ps) [] es [] (by rw [p.it]; exact h2) (by rw [p.it]; cases l with
              | nil => exact absurd rfl e
              | cons => exact htr.hd) .nil
            simpa using this
          · exact p.inv
          · have := p.up; simp; omega
      · rw [if_neg ht]
        have h2 := two_of hl e ht
        have c1 := cut_pos (kind := 2) h2
        have c2 := cut_lt (kind := 2) h2
        have htr' := htr
        rw [← List.take_append_drop (cut 2 l) l] at htr'
        obtain ⟨p1, p2, e1, e2, t1, t2, rfl, rfl⟩ := htr'.split
        have k1 := t1.cnt
        have k2 := t2.cnt
        simp only [nAt, List.length_take, List.length_drop, List.length_append] at k1 k2 hr hc
        obtain ⟨q1, a⟩ := sto2_tr (f := f) (l := l.take (cut 2 l)) (s := s) (R := p2 ++ R) (by rw [List.length_take]; omega) (fun x hx => hl x (List.mem_of_mem_take hx)) (by rw [← List.append_assoc]; exact hi) t1 (by omega)
        have u1 := a.up
        have j1 := a.tr.cnt
        simp only [nAt] at j1
        have t2' : Tr (sto 2 f (l.take (cut 2 l)) s).2.pg (.inr (l.drop (cut 2 l))) p2 e2 := t2.ext sto_ext fun m hm => (hi.ul m (by simp [hm])).2
        obtain ⟨q2, b⟩ := sto2_tr (f := f) (l := l.drop (cut 2 l)) (s := (sto 2 f (l.take (cut 2 l)) s).2) (R := q1 ++ R) (by rw [List.length_drop]; omega) (fun x hx => hl x (List.mem_of_mem_drop hx)) (a.inv.perm (by
          rw [← List.append_assoc, ← List.append_assoc]
          exact List.Perm.append_right _ List.perm_append_comm)) t2' (by omega)
        have u2 := b.up
        refine ⟨q1 ++ q2, ?_, ?_, ?_⟩
        · exact (a.tr.ext sto_ext fun m hm => (a.inv.ul m (by simp [hm])).2).app b.tr
        · refine b.inv.perm ?_
          rw [← List.append_assoc]
          exact List.Perm.append_right _ List.perm_append_comm
        · simp only [List.length_append]; omega
end Go.Proofs.YtphiblmkgbkdmaaDoor.Pg
