/- Transactions in memory: groups of records under a map, and a row of transactions. -/
import Derived.Test.YtfkeedeiafegiaaWalMap
namespace Go.Proofs.Ytfkeedeiafegiaa.Wl
set_option linter.unusedVariables false
set_option linter.unusedSimpArgs false
open Go.RowKit Go.Maps

/-- A row of records. -/
structure GV where
  A : Option Addr
  n : Nat
  c : Nat
  l : List RV
def GV.v (g : GV) : Value := .slice g.A g.n g.c
def GV.nil : GV := ⟨none, 0, 0, []⟩
/-- A transaction. -/
structure TV where
  tx : Int
  g : GV
def TV.cs (x : TV) : List Value := [.int .i64 x.tx, x.g.v]
def tcells (l : List TV) : List Value := (l.map TV.cs).flatten
theorem tcells_len : ∀ l, (tcells l).length = l.length * 2
  | [] => rfl
  | x :: l => by
    have := tcells_len l
    simp only [tcells, List.map_cons, List.flatten_cons, List.length_append, List.length_cons, TV.cs] at this ⊢
    simp only [List.length_nil]; omega
theorem tcells_snoc (l : List TV) (x : TV) : tcells (l ++ [x]) = tcells l ++ x.cs := by simp [tcells]
theorem tcells_get : ∀ (l : List TV) (i : Nat) (x : TV), l[i]? = some x → (tcells l)[i * 2]? = some (.int .i64 x.tx) ∧ (tcells l)[i * 2 + 1]? = some (.slice x.g.A x.g.n x.g.c)
  | [], i, x, h => by simp at h
  | y :: l, 0, x, h => by
    obtain rfl : y = x := by simpa using h
    simp [tcells, TV.cs, GV.v]
  | y :: l, i + 1, x, h => by
    have := tcells_get l i x (by simpa using h)
    have e : tcells (y :: l) = y.cs ++ tcells l := by simp [tcells]
    have h3 : y.cs.length = 2 := rfl
    rw [e, List.getElem?_append_right (by omega), List.getElem?_append_right (by omega), h3]
    rw [show (i + 1) * 2 - 2 = i * 2 by omega, show (i + 1) * 2 + 1 - 2 = i * 2 + 1 by omega]
    exact this
/-- Two slices lie apart. -/
def ap (A B : Option Addr) : Prop := blk A = none ∨ blk A ≠ blk B
theorem ap.symm {A B : Option Addr} (h : ap A B) : ap B A := by
  unfold ap at h ⊢
  rcases hB : blk B with _ | q
  · exact .inl rfl
  · refine .inr fun e => ?_
    rcases h with h | h
    · rw [h] at e; cases e
    · exact h (by rw [hB, e])
theorem ap_nil (A : Option Addr) : ap none A := .inl rfl
theorem ap_nil' (A : Option Addr) : ap A none := by
  unfold ap
  rcases hA : blk A with _ | q
  · exact .inl rfl
  · exact .inr (by simp [blk])
/-- A row never lies in a map's block. -/
theorem own_map {w : World} {base e size n c M : Nat} {A : Option Addr} {xs : List Value} {es : Array MapEntry} {k : Nat} (h : w.ownsRow base e size (.slice A n c) n xs) (hm : w.heap[M]? = some (.map es k)) : blk A = none ∨ blk A ≠ some M := by
  rcases h.2 with ⟨h1, _⟩ | ⟨g, cap, cur, h1, _, h2, _⟩
  · injection h1 with h1; subst h1; exact .inl rfl
  · injection h1 with h1; subst h1
    refine .inr fun e1 => ?_
    simp only [blk, Option.map_some, Option.some.injEq] at e1
    subst e1
    rw [h2] at hm
    cases hm
theorem Rs.kept {w w' : World} {base n c : Nat} {A : Option Addr} {l : List RV} (h : Rs w base A n c l) {row : Option Nat} (g : w.grownBy w' row) (h1 : blk A = none ∨ blk A ≠ row) (h2 : ∀ x ∈ l, blk x.A = none ∨ blk x.A ≠ row) : Rs w' base A n c l :=
  ⟨h.row.kept g (by rw [own_blk]; exact h1), fun x hx => (h.dat x hx).kept g (by rw [own_blk]; exact h2 x hx)⟩
theorem Rs.turned {w w' : World} {base n c M : Nat} {A : Option Addr} {l : List RV} {es : Array MapEntry} {k : Nat} (h : Rs w base A n c l) (g : w.grownBy w' (some M)) (hm : w.heap[M]? = some (.map es k)) : Rs w' base A n c l :=
  h.kept g (own_map h.row hm) fun x hx => own_map (h.dat x hx) hm
/-- Rows of another type that grow leave records alone. -/
theorem Rs.other {w w' : World} {base base' n c e size n' c' : Nat} {A B B' : Option Addr} {l : List RV} {xs : List Value} (h : Rs w base A n c l) (g : Grew w B w' B') (hB : w.ownsRow base' e size (.slice B n' c') n' xs) (h1 : e ≠ 24) (h2 : e ≠ 5) : Rs w' base A n c l :=
  h.grew g (own_ne h.row hB (Ne.symm h1)) fun x hx => own_ne (h.dat x hx) hB (Ne.symm h2)
/-- Another row of records that grows leaves records alone, if it lies apart. -/
theorem Rs.apart {w w' : World} {base base' n c n' c' : Nat} {A B B' : Option Addr} {l : List RV} {xs : List Value} (h : Rs w base A n c l) (g : Grew w B w' B') (hB : w.ownsRow base' 24 3 (.slice B n' c') n' xs) (ha : ap A B) : Rs w' base A n c l :=
  h.grew g ha fun x hx => own_ne (h.dat x hx) hB (by decide)

/-- The state: a map of groups, a row of transactions. -/
structure Gs (w : World) (base lo M n : Nat) (G : Int → GV) (Ao : Option Addr) (no co : Nat) (out : List TV) : Prop where
  mp : Mp w M n (fun t => (G t).v)
  own : ∀ t, Rs w base (G t).A (G t).n (G t).c (G t).l
  row : w.ownsRow base 73 2 (.slice Ao no co) no (tcells out)
  dat : ∀ x ∈ out, Rs w base x.g.A x.g.n x.g.c x.g.l
  apG : ∀ t t', t ≠ t' → ap (G t).A (G t').A
  apO : out.Pairwise fun x y => ap x.g.A y.g.A
  apX : ∀ t, ∀ x ∈ out, ap (G t).A x.g.A
  loG : ∀ t q, blk (G t).A = some q → lo ≤ q
  loO : ∀ q, blk Ao = some q → lo ≤ q
  lz : lo ≤ w.heap.size
section
variable {w w' w1 w2 : World} {base lo M n no co : Nat} {G : Int → GV} {Ao : Option Addr} {out : List TV}
theorem Gs.below (h : Gs w base lo M n G Ao no co out) (hb : Below w.heap.size w w') : Gs w' base lo M n G Ao no co out :=
  ⟨h.mp.kept (row := none) ⟨hb.os, hb.tape, hb.output, hb.size, fun i hi _ => hb.block i hi⟩ (by simp), fun t => (h.own t).below hb, own_below h.row hb, fun x hx => (h.dat x hx).below hb, h.apG, h.apO, h.apX, h.loG, h.loO, Nat.le_trans h.lz hb.size⟩
theorem Gs.alloc (h : Gs w base lo M n G Ao no co out) (o : Obj) : Gs (w.alloc o) base lo M n G Ao no co out := h.below ((Below.refl _ _).alloc (Nat.le_refl _) _)
theorem Gs.made (w : World) (base : Nat) : Gs (w.alloc (.map #[] 0)) base w.heap.size w.heap.size 0 (fun _ => GV.nil) none 0 0 [] :=
  ⟨Mp.made w, fun _ => Rs.nil_ _ _, World.ownsRow_nil _ _ _ _, by simp, fun _ _ _ => ap_nil _, List.Pairwise.nil, by simp, fun _ _ h => (by cases h), fun _ h => (by cases h), by simp⟩
/-- The map, behind the growing of a row. -/
theorem Gs.mpGrew (h : Gs w base lo M n G Ao no co out) {B B' : Option Addr} {b' e size n' c' : Nat} {xs : List Value} (hB : w.ownsRow b' e size (.slice B n' c') n' xs) (g : Grew w B w1 B') : Mp w1 M n (fun t => (G t).v) := by
  obtain ⟨es, k, hm⟩ := h.mp.map
  refine h.mp.kept g.by_ fun e => ?_
  rcases own_map hB hm with h | h
  · rw [h] at e; cases e
  · exact h e.symm
/-- A record more in a group. -/
theorem Gs.push (h : Gs w base lo M n G Ao no co out) (t : Int) (x : RV) {A' : Option Addr} {c' : Nat} (hx : w.ownsRow base 5 1 (.slice x.A x.d.length x.c) x.d.length (bv x.d))
    (g : Grew w (G t).A w1 A') (row : w1.ownsRow base 24 3 (.slice A' ((G t).n + 1) c') ((G t).n + 1) (cells (G t).l ++ x.cs))
    (m2 : Mp w2 M (n + 1) (upd (fun t => (G t).v) t (.slice A' ((G t).n + 1) c'))) (g2 : w1.grownBy w2 (some M)) : Gs w2 base lo M (n + 1) (upd G t ⟨A', (G t).n + 1, c', (G t).l ++ [x]⟩) Ao no co out := by
  obtain ⟨es, k, hm⟩ := (h.mpGrew (h.own t).row g).map
  have hnew : Rs w1 base A' ((G t).n + 1) c' ((G t).l ++ [x]) := (h.own t).push x hx row g
  have old : ∀ {A : Option Addr} {n c : Nat} {l : List RV}, Rs w base A n c l → ap A (G t).A → ap A A' := fun {A n c l} hr ha => by
    rcases g.at_ with e | ⟨q, e, hq⟩
    · unfold ap; rw [e]; exact ha
    · rcases hA : blk A with _ | q'
      · exact .inl hA
      · refine .inr fun e' => ?_
        have h1 := (own_blk_le hr.row hA).2
        rw [hA, e] at e'
        injection e' with e'
        omega
  have zz := Nat.le_trans h.lz (Nat.le_trans g.by_.size g2.size)
  refine ⟨?_, fun s => ?_, ?_, fun y hy => ?_, fun s s' hne => ?_, h.apO, fun s y hy => ?_, fun s q hq => ?_, h.loO, zz⟩
  · have : (fun s => (upd G t ⟨A', (G t).n + 1, c', (G t).l ++ [x]⟩ s).v) = upd (fun t => (G t).v) t (.slice A' ((G t).n + 1) c') := by
      funext s; unfold upd; split <;> rfl
    rw [this]; exact m2
  · by_cases e : s = t
    · subst e; rw [upd_same]; exact hnew.turned g2 hm
    · rw [upd_other _ _ e]; exact ((h.own s).apart g (h.own t).row (h.apG s t e)).turned g2 hm
  · have r1 := own_grew h.row g (own_ne h.row (h.own t).row (by decide))
    exact r1.kept g2 (by rw [own_blk]; exact own_map r1 hm)
  · exact ((h.dat y hy).apart g (h.own t).row (h.apX t y hy).symm).turned g2 hm
  · by_cases e : s = t
    · subst e; rw [upd_same, upd_other _ _ (Ne.symm hne)]; exact (old (h.own s') (h.apG s' s (Ne.symm hne))).symm
    · rw [upd_other _ _ e]
      by_cases e' : s' = t
      · subst e'; rw [upd_same]; exact old (h.own s) (h.apG s s' e)
      · rw [upd_other _ _ e']; exact h.apG s s' hne
  · by_cases e : s = t
    · subst e; rw [upd_same]; exact (old (h.dat y hy) (h.apX s y hy).symm).symm
    · rw [upd_other _ _ e]; exact h.apX s y hy
  · by_cases e : s = t
    · subst e; rw [upd_same] at hq
      rcases g.at_ with e | ⟨p, e, hp⟩
      · exact h.loG s q (e ▸ hq)
      · have : some p = some q := e ▸ hq
        injection this with this
        have := h.lz
        omega
    · rw [upd_other _ _ e] at hq; exact h.loG s q hq
/-- A transaction more. -/
theorem Gs.commit (h : Gs w base lo M n G Ao no co out) (t : Int) {A' : Option Addr} {c' : Nat}
    (g : Grew w Ao w1 A') (row : w1.ownsRow base 73 2 (.slice A' (no + 1) c') (no + 1) (tcells out ++ [.int .i64 t, (G t).v]))
    (m2 : Mp w2 M n (upd (fun t => (G t).v) t (.slice none 0 0))) (g2 : w1.grownBy w2 (some M)) : Gs w2 base lo M n (upd G t GV.nil) A' (no + 1) c' (out ++ [⟨t, G t⟩]) := by
  obtain ⟨es, k, hm⟩ := (h.mpGrew h.row g).map
  have kept : ∀ {A : Option Addr} {n c : Nat} {l : List RV}, Rs w base A n c l → Rs w2 base A n c l := fun hr => (hr.other g h.row (by decide) (by decide)).turned g2 hm
  have zz := Nat.le_trans h.lz (Nat.le_trans g.by_.size g2.size)
  refine ⟨?_, fun s => ?_, ?_, fun y hy => ?_, fun s s' hne => ?_, ?_, fun s y hy => ?_, fun s q hq => ?_, fun q hq => ?_, zz⟩
  · have : (fun s => (upd G t GV.nil s).v) = upd (fun t => (G t).v) t (.slice none 0 0) := by
      funext s; unfold upd; split <;> rfl
    rw [this]; exact m2
  · by_cases e : s = t
    · subst e; rw [upd_same]; exact Rs.nil_ _ _
    · rw [upd_other _ _ e]; exact kept (h.own s)
  · rw [tcells_snoc]; exact row.kept g2 (by rw [own_blk]; exact own_map row hm)
  · rcases List.mem_append.1 hy with hy | hy
    · exact kept (h.dat y hy)
    · obtain rfl : y = ⟨t, G t⟩ := by simpa using hy
      exact kept (h.own t)
  · by_cases e : s = t
    · subst e; rw [upd_same]; exact ap_nil _
    · rw [upd_other _ _ e]
      by_cases e' : s' = t
      · subst e'; rw [upd_same]; exact ap_nil' _
      · rw [upd_other _ _ e']; exact h.apG s s' hne
  · rw [List.pairwise_append]
    refine ⟨h.apO, List.pairwise_singleton _ _, fun a ha b hb => ?_⟩
    obtain rfl : b = ⟨t, G t⟩ := by simpa using hb
    exact (h.apX t a ha).symm
  · by_cases e : s = t
    · subst e; rw [upd_same]; exact ap_nil _
    · rw [upd_other _ _ e]
      rcases List.mem_append.1 hy with hy | hy
      · exact h.apX s y hy
      · obtain rfl : y = ⟨t, G t⟩ := by simpa using hy
        exact h.apG s t e
  · by_cases e : s = t
    · subst e; rw [upd_same] at hq; cases hq
    · rw [upd_other _ _ e] at hq; exact h.loG s q hq
  · rcases g.at_ with e | ⟨p, e, hp⟩
    · exact h.loO q (e ▸ hq)
    · have : some p = some q := e ▸ hq
      injection this with this
      have := h.lz
      omega
end

/-- What transactions returns. -/
structure Tr (w : World) (base : Nat) (A : Option Addr) (n c : Nat) (out : List TV) : Prop where
  row : w.ownsRow base 73 2 (.slice A n c) n (tcells out)
  dat : ∀ x ∈ out, Rs w base x.g.A x.g.n x.g.c x.g.l
  apO : out.Pairwise fun x y => ap x.g.A y.g.A
theorem Gs.tr {w : World} {base lo M n no co : Nat} {G : Int → GV} {Ao : Option Addr} {out : List TV} (h : Gs w base lo M n G Ao no co out) : Tr w base Ao no co out := ⟨h.row, h.dat, h.apO⟩
theorem Tr.len {w : World} {base n c : Nat} {A : Option Addr} {out : List TV} (h : Tr w base A n c out) : n = out.length := by
  have := h.row.1; rw [tcells_len] at this; omega
theorem Tr.below {w w' : World} {base n c : Nat} {A : Option Addr} {out : List TV} (h : Tr w base A n c out) (hb : Below w.heap.size w w') : Tr w' base A n c out :=
  ⟨own_below h.row hb, fun x hx => (h.dat x hx).below hb, h.apO⟩
theorem Tr.rebase {w : World} {base base' n c : Nat} {A : Option Addr} {out : List TV} (h : Tr w base A n c out) (hb : base' ≤ base) : Tr w base' A n c out :=
  ⟨own_base h.row hb, fun x hx => (h.dat x hx).rebase hb, h.apO⟩

/-- How records make transactions. -/
def stp (s : (Int → List Rec) × List (Int × List Rec)) (r : Rec) : (Int → List Rec) × List (Int × List Rec) :=
  if r.k = 3 then (upd s.1 r.t [], s.2 ++ [(r.t, s.1 r.t)]) else (upd s.1 r.t (s.1 r.t ++ [r]), s.2)
def sts (l : List Rec) : (Int → List Rec) × List (Int × List Rec) := l.foldl stp (fun _ => [], [])
theorem sts_snoc (l : List Rec) (r : Rec) : sts (l ++ [r]) = stp (sts l) r := by simp [sts]
def trs (l : List Rec) : List (Int × List Rec) := (sts l).2
/-- The state in memory is the one of some records. -/
structure Is (G : Int → GV) (out : List TV) (l : List Rec) : Prop where
  g : ∀ t, (G t).l.map RV.r = (sts l).1 t
  o : out.map (fun x => (x.tx, x.g.l.map RV.r)) = (sts l).2
theorem Is.nil_ : Is (fun _ => GV.nil) [] [] := ⟨fun _ => rfl, rfl⟩
theorem Is.push {G : Int → GV} {out : List TV} {l : List Rec} (h : Is G out l) (x : RV) (hk : x.k ≠ 3) (A' : Option Addr) (n' c' : Nat) : Is (upd G x.t ⟨A', n', c', (G x.t).l ++ [x]⟩) out (l ++ [x.r]) := by
  have hr : x.r.t = x.t := rfl
  have hs : stp (sts l) x.r = (upd (sts l).1 x.t ((sts l).1 x.t ++ [x.r]), (sts l).2) := by
    unfold stp; rw [if_neg (show ¬ x.r.k = 3 from hk), hr]
  refine ⟨fun t => ?_, ?_⟩
  · rw [sts_snoc, hs]
    dsimp only
    by_cases e : t = x.t
    · subst e; rw [upd_same, upd_same]; simp [h.g]
    · rw [upd_other _ _ e, upd_other _ _ e]; exact h.g t
  · rw [sts_snoc, hs]; exact h.o
theorem Is.commit {G : Int → GV} {out : List TV} {l : List Rec} (h : Is G out l) (x : RV) (hk : x.k = 3) : Is (upd G x.t GV.nil) (out ++ [⟨x.t, G x.t⟩]) (l ++ [x.r]) := by
  have hr : x.r.t = x.t := rfl
  have hs : stp (sts l) x.r = (upd (sts l).1 x.t [], (sts l).2 ++ [(x.t, (sts l).1 x.t)]) := by
    unfold stp; rw [if_pos (show x.r.k = 3 from hk), hr]
  refine ⟨fun t => ?_, ?_⟩
  · rw [sts_snoc, hs]
    dsimp only
    by_cases e : t = x.t
    · subst e; rw [upd_same, upd_same]; rfl
    · rw [upd_other _ _ e, upd_other _ _ e]; exact h.g t
  · rw [sts_snoc, hs]; simp [h.o, h.g]
end Go.Proofs.Ytfkeedeiafegiaa.Wl
