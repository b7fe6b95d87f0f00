/- What page.read's visit holds in memory. -/
import Derived.Test.YtpmkohnljngbhaaDoorPgB2
import Derived.Test.YtpmkohnljngbhaaDoorKit2
import Derived.Test.YtpmkohnljngbhaaDoorPgW3
import Derived.Test.YtpmkohnljngbhaaDoorPgW4
import Derived.Test.YtpmkohnljngbhaaDoorPgT
namespace Go.Proofs.YtpmkohnljngbhaaDoor.Pg
set_option linter.unusedVariables false
set_option linter.unusedSimpArgs false
set_option maxRecDepth 1000000
open Go.RowKit Wl

/-- The bytes of an item lie in w. -/
def Dw (w : World) (x : IV) : Prop := Rd w 1 x.kA x.k.length x.kc (bv x.k) ∧ Rd w 1 x.vA x.v.length x.vc (bv x.v)
theorem Dw.below {w w' : World} {x : IV} (h : Dw w x) (hb : Below w.heap.size w w') : Dw w' x := ⟨h.1.below hb, h.2.below hb⟩
theorem Rd.back {w w' : World} {size n c : Nat} {A : Option Addr} {xs : List Value} (h : Rd w' size A n c xs) (hb : Below w.heap.size w w') (hA : ∀ g, 0 < n → blk A = some g → g < w.heap.size) : Rd w size A n c xs :=
  ⟨h.len, h.nc, h.nil, h.c63, fun hn => by
    obtain ⟨g, o, e, _, hc⟩ := h.at_ hn
    have hg := hA g hn (by rw [e]; rfl)
    refine ⟨g, o, e, hg, fun j hj => ?_⟩
    rw [← hc j hj]
    exact (World.cell?_of_block (hb.block g hg)).symm⟩
theorem Kg.back {w w' : World} {g : Nat} {x : IV} (h : Kg w' g x) (hb : Below w.heap.size w w') (hg : g < w.heap.size) : Dw w x :=
  ⟨Rd.back h.k hb fun q _ e => by rw [h.bk] at e; injection e with e; exact e ▸ hg, Rd.back h.v hb fun q _ e => by rw [h.bv] at e; injection e with e; exact e ▸ hg⟩
theorem its_split {l : List IV} {j : Nat} {y : IV} (h : l[j]? = some y) : its l = its (l.take j) ++ y.it :: its (l.drop (j + 1)) := by
  have h2 := (List.getElem?_eq_some_iff.1 h).2
  have h1 := (List.getElem?_eq_some_iff.1 h).1
  have e : l = l.take j ++ y :: l.drop (j + 1) := by rw [← h2, List.getElem_cons_drop, List.take_append_drop]
  conv => lhs; rw [e]
  simp [its]
theorem its_take {l : List IV} {j : Nat} {y : IV} (h : l[j]? = some y) : its (l.take (j + 1)) = its (l.take j) ++ [y.it] := by rw [List.take_add_one, h, its_app]; rfl
def pt (b : Nat) : Value := .pointer (some ⟨b, 0, none⟩)
/-- visit, as a value. -/
def fvis (bf bm ba bv : Nat) : Value := .func (.func 70) #[] #[.pointer (some ⟨bf, 0, none⟩), .pointer (some ⟨bm, 0, none⟩), .pointer (some ⟨ba, 0, none⟩), .pointer (some ⟨bv, 0, none⟩)]
/-- The five blocks of a reading. -/
structure Blks (N bf bm ba bv M : Nat) : Prop where
  f1 : N ≤ bf
  m1 : N ≤ bm
  a1 : N ≤ ba
  v1 : N ≤ bv
  M1 : N ≤ M
  fa : bf ≠ ba
  fM : bf ≠ M
  ma : bm ≠ ba
  mM : bm ≠ M
  va : bv ≠ ba
  vM : bv ≠ M
  aM : ba ≠ M
structure Vi (w0 W : World) (f : FV) (bf bm ba bv M : Nat) (S : List Nat) (A : Option Addr) (n c : Nat) (L : List IV) : Prop where
  bw : Below w0.heap.size w0 W
  xf : Bx W bf f.cs
  xm : Bx W bm [.map (some M)]
  xa : Bx W ba [.slice A n c]
  xv : Bx W bv [fvis bf bm ba bv]
  mp : Mb W M S
  own : W.ownsRow w0.heap.size 117 3 (.slice A n c) n (ic L)
  dat : ∀ x ∈ L, Dw w0 x
  lt : ∀ m ∈ S, m < f.ps.length
  lim : L.length ≤ 84 * S.length
  ap : ∀ g, blk A = some g → g ≠ bf ∧ g ≠ bm ∧ g ≠ ba ∧ g ≠ bv ∧ g ≠ M
/-- What a visit may write. -/
def Wx (M ba : Nat) (A : Option Addr) (i : Nat) : Prop := i = M ∨ i = ba ∨ blk A = some i
/-- The new row is the old one, or new. -/
def Nw (W : World) (A A' : Option Addr) : Prop := blk A' = blk A ∨ ∃ g, blk A' = some g ∧ W.heap.size ≤ g
theorem Nw.refl (W : World) (A : Option Addr) : Nw W A A := .inl rfl
theorem Nw.trans {W W1 : World} {A A1 A2 : Option Addr} (h : Nw W A A1) (k : Nw W1 A1 A2) (hs : W.heap.size ≤ W1.heap.size) : Nw W A A2 := by
  rcases k with k | ⟨g, k1, k2⟩
  · rcases h with h | ⟨g, h1, h2⟩
    · exact .inl (k.trans h)
    · exact .inr ⟨g, k.trans h1, h2⟩
  · exact .inr ⟨g, k1, Nat.le_trans hs k2⟩
theorem Nw.wx {W : World} {A A' : Option Addr} {M ba i : Nat} (h : Nw W A A') (hi : i < W.heap.size) (h' : Wx M ba A' i) : Wx M ba A i := by
  rcases h' with h' | h' | h'
  · exact .inl h'
  · exact .inr (.inl h')
  · rcases h with h | ⟨g, h1, h2⟩
    · exact .inr (.inr (h ▸ h'))
    · rw [h1] at h'; injection h' with h'; omega
/-- A step of a visit: nothing else turns. -/
theorem Kp.wx {W W1 W2 : World} {A A1 : Option Addr} {M ba : Nat} (h : Kp W W1 (Wx M ba A)) (k : Kp W1 W2 (Wx M ba A1)) (hn : Nw W A A1) : Kp W W2 (Wx M ba A) :=
  h.trans k fun i hi e => hn.wx hi e
section
variable {w0 W W' : World} {f : FV} {bf bm ba bv M n c : Nat} {S : List Nat} {A : Option Addr} {L : List IV}
theorem Vi.below (h : Vi w0 W f bf bm ba bv M S A n c L) (hb : Below W.heap.size W W') : Vi w0 W' f bf bm ba bv M S A n c L :=
  ⟨h.bw.trans (hb.mono h.bw.size), h.xf.step hb, h.xm.step hb, h.xa.step hb, h.xv.step hb, h.mp.below hb, own_below h.own hb, h.dat, h.lt, h.lim, h.ap⟩
theorem Vi.nlen (h : Vi w0 W f bf bm ba bv M S A n c L) : n = L.length := len3 (Rd.of_own h.own)
theorem Vi.slt (h : Vi w0 W f bf bm ba bv M S A n c L) : S.length ≤ f.ps.length := nodup_le h.mp.nd h.lt
/-- A page is seen. -/
theorem Vi.see (h : Vi w0 W f bf bm ba bv M S A n c L) (B : Blks w0.heap.size bf bm ba bv M) {m : Nat} (hm : m < f.ps.length) (hn : m ∉ S) (hg : W.grownBy W' (some M)) (hM : Mb W' M (ins m S)) :
    Vi w0 W' f bf bm ba bv M (m :: S) A n c L ∧ Kp W W' (Wx M ba A) := by
  have k : Kp W W' (· = M) := ⟨hg.os, hg.tape, hg.output, hg.size, fun i hi e => hg.block i hi fun e' => by injection e' with e'; exact e e'⟩
  have e : ins m S = m :: S := if_neg hn
  rw [e] at hM
  refine ⟨⟨h.bw.trans (k.low h.bw.size fun i e => by subst e; exact B.M1), h.xf.kp k B.fM, h.xm.kp k B.mM, h.xa.kp k B.aM, h.xv.kp k B.vM, hM, own_kp h.own k fun g e => (h.ap g e).2.2.2.2, h.dat, ?_, by have := h.lim; simp; omega, h.ap⟩, k.mono fun i _ e => .inl e⟩
  intro x hx
  rcases List.mem_cons.1 hx with rfl | hx
  · exact hm
  · exact h.lt x hx
/-- Items are added. -/
theorem Vi.add {A' : Option Addr} {n' c' : Nat} {L' : List IV} {v : Value} (h : Vi w0 W f bf bm ba bv M S A n c L) (B : Blks w0.heap.size bf bm ba bv M) (hb : w0.heap.size ≤ W.heap.size)
    (own : W'.ownsRow w0.heap.size 117 3 (.slice A' n' c') n' (ic (L ++ L'))) (g : Grew W A W' A') (hv : v = .slice A' n' c') (hd : ∀ x ∈ L', Dw w0 x) (hl : (L ++ L').length ≤ 84 * S.length) :
    Vi w0 (W'.setCell ⟨ba, 0, none⟩ v) f bf bm ba bv M S A' n' c' (L ++ L') ∧ Kp W (W'.setCell ⟨ba, 0, none⟩ v) (Wx M ba A) ∧ Nw W A A' := by
  subst hv
  have nw : Nw W A A' := g.at_
  have k1 : Kp W W' (fun i => blk A = some i) := Kp.of_grew g fun _ e => e
  have ap' : ∀ q, blk A' = some q → q ≠ bf ∧ q ≠ bm ∧ q ≠ ba ∧ q ≠ bv ∧ q ≠ M := by
    intro q e
    rcases nw with nw | ⟨q', e1, e2⟩
    · exact h.ap q (nw ▸ e)
    · rw [e1] at e; injection e with e; subst e
      have := h.xf.lt; have := h.xm.lt; have := h.xa.lt; have := h.xv.lt; have := h.mp.lt
      omega
  have ka : Kp W' (W'.setCell ⟨ba, 0, none⟩ (.slice A' n' c')) (· = ba) := Kp.of_set W' ⟨ba, 0, none⟩ _ rfl
  have k2 : Kp W (W'.setCell ⟨ba, 0, none⟩ (.slice A' n' c')) (fun i => i = ba ∨ blk A = some i) := (k1.mono fun _ _ e => .inr e).trans ka fun _ _ e => .inl e
  have nf : ∀ {b : Nat}, (∀ q, blk A = some q → q ≠ b) → b ≠ ba → ¬ (b = ba ∨ blk A = some b) := fun h1 h2 e => e.elim h2 fun e => h1 _ e rfl
  refine ⟨⟨h.bw.trans (k2.low h.bw.size fun i e => e.elim (fun e => e ▸ B.a1) fun e => (own_blk_le h.own e).1), h.xf.kp k2 (nf (fun q e => (h.ap q e).1) B.fa), h.xm.kp k2 (nf (fun q e => (h.ap q e).2.1) B.ma),
    ?_, h.xv.kp k2 (nf (fun q e => (h.ap q e).2.2.2.1) B.va), h.mp.kp k2 (nf (fun q e => (h.ap q e).2.2.2.2) (Ne.symm B.aM)), own_kp own ka fun q e => (ap' q e).2.2.1, ?_, h.lt, hl, ap'⟩, k2.mono fun i _ e => .inr e, nw⟩
  · have := (h.xa.kp k1 fun e => (h.ap _ e).2.2.1 rfl).set (j := 0) (by simp) (.slice A' n' c')
    exact this
  · intro x hx
    rcases List.mem_append.1 hx with hx | hx
    · exact h.dat x hx
    · exact hd x hx
end
end Go.Proofs.YtpmkohnljngbhaaDoor.Pg
