/- A writer in memory. -/
import Derived.Test.YtpmkohnljngbhaaGreatDoorPgW9
import Derived.Test.YtpmkohnljngbhaaGreatDoorPgTP
import Derived.Deep.RegionHeld3
import Derived.Deep.DrawnRows
import Derived.Deep.Cut
import Derived.Lib.AppendZeros
import Derived.Deep.CutBlock
set_option linter.all false
namespace Go.Proofs.YtpmkohnljngbhaaGreatDoor.Pg
set_option linter.unusedVariables false
set_option linter.unusedSimpArgs false
set_option maxRecDepth 1000000
open Go.RowKit Wl

def nv (l : List Nat) : List Value := l.map fun (x : Nat) => .int .i64 (x : Int)
theorem nv_len (l : List Nat) : (nv l).length = l.length := by simp [nv]
section
variable {W W' : World} {p T : Nat} {X : Nat → Prop}
theorem Ty.nsf (h : Ty W p T) {base : Nat} (hb : base ≤ p) (hT : T ≠ 5) : ¬ Sf W base p := by
  rintro (hs | ⟨cs, hs⟩)
  · omega
  · obtain ⟨c2, e⟩ := h
    rw [e] at hs; injection hs with hs; injection hs with _ hs; exact hT hs
end
/-- A writer's memory. -/
structure WV where
  PA : Option Addr
  pc : Nat
  ps : List PV
  FA : Option Addr
  fc : Nat
structure Wm (W : World) (base q : Nat) (root : Int) (v : WV) (s : Ws) : Prop where
  gl : Gl W
  b3 : 3 ≤ base
  q1 : base ≤ q
  bx : Bx W q [.slice v.PA v.ps.length v.pc, .int .i64 root, .slice v.FA s.fr.length v.fc, .bool s.full]
  qt : ∃ cs, W.heap[q]? = some (.cells cs 143 (0, 0))
  own : W.ownsRow base 30 1 (.slice v.PA v.ps.length v.pc) v.ps.length (pv v.ps)
  pgs : v.ps.map PV.d = s.pg
  dat : ∀ x ∈ v.ps, By W base x.A x.c x.d
  p256 : ∀ x ∈ v.ps, x.d.length = 256
  dty : ∀ x ∈ v.ps, ∀ g, blk x.A = some g → Ty W g 5
  fr : Rd W 1 v.FA s.fr.length v.fc (nv s.fr)
  frb : ∀ g, 0 < s.fr.length → blk v.FA = some g → g ≠ q ∧ blk v.PA ≠ some g
  frt : ∀ g, 0 < s.fr.length → blk v.FA = some g → Ty W g 3
  frl : ∀ x ∈ s.fr, x < v.ps.length
  apq : blk v.PA ≠ some q
  n4 : s.pg.length ≤ 4096
/-- What a writer's step may write. -/
def Xw (q : Nat) (v : WV) (i : Nat) : Prop := i = q ∨ blk v.PA = some i
section
variable {W W' : World} {base q : Nat} {root : Int} {v v' : WV} {s s' : Ws}
theorem Wm.low (h : Wm W base q root v s) (hb : Below W.heap.size W W') : Wm W' base q root v s :=
  ⟨h.gl.below hb, h.b3, h.q1, h.bx.step hb, by obtain ⟨cs, e⟩ := h.qt; exact ⟨cs, (hb.block q h.bx.lt).trans e⟩, own_below h.own hb, h.pgs, fun x hx => (h.dat x hx).wr (Wr.of_below hb _), h.p256, fun x hx g e => (h.dty x hx g e).step hb, h.fr.below hb, h.frb, fun g a e => (h.frt g a e).step hb, h.frl, h.apq, h.n4⟩
theorem own_type {e n c g : Nat} {A : Option Addr} {xs : List Value} {size : Nat} (h : W.ownsRow base e size (.slice A n c) n xs) (hg : blk A = some g) : ∃ cs, W.heap[g]? = some (.cells cs e (0, 0)) := by
  rcases h.2 with ⟨h1, _⟩ | ⟨g', cap, cu, h1, _, h2, _⟩
  · injection h1 with h1; subst h1; simp [blk] at hg
  · injection h1 with h1; subst h1
    simp [blk] at hg; subst hg
    exact ⟨cu, h2⟩
theorem Wm.nsf (h : Wm W base q root v s) : ∀ i, Xw q v i → ¬ Sf W base i := by
  rintro i (rfl | hi) (hs | ⟨cs, hs⟩)
  · have := h.q1; omega
  · obtain ⟨c2, e⟩ := h.qt
    rw [e] at hs; injection hs with hs; injection hs with _ hs; cases hs
  · have := (own_blk_le h.own hi).1; omega
  · obtain ⟨c2, e⟩ := own_type h.own hi
    rw [e] at hs; injection hs with hs; injection hs with _ hs; cases hs
/-- The new row of pages is the old one, or new. -/
def Nv (W : World) (v v' : WV) : Prop := Nw W v.PA v'.PA
theorem Nv.xw {i : Nat} (h : Nv W v v') (hi : i < W.heap.size) (h' : Xw q v' i) : Xw q v i := by
  rcases h' with h' | h'
  · exact .inl h'
  · rcases h with h | ⟨g, h1, h2⟩
    · exact .inr (h ▸ h')
    · rw [h1] at h'; injection h' with h'; omega
theorem Kp.xw {W2 : World} (h : Kp W W' (Xw q v)) (k : Kp W' W2 (Xw q v')) (hn : Nv W v v') : Kp W W2 (Xw q v) := h.trans k fun i hi e => hn.xw hi e
theorem Iy.xw {x : IV} (h : Iy W base x) (m : Wm W base q root v s) (k : Kp W W' (Xw q v)) : Iy W' base x := h.wr (Wr.of_kp k m.nsf)
theorem Ir.xw {A : Option Addr} {n c : Nat} {l : List IV} (h : Ir W base A n c l) (m : Wm W base q root v s) (k : Kp W W' (Xw q v)) (hA : ∀ g, 0 < n → blk A = some g → ¬ Xw q v g) : Ir W' base A n c l := h.kp k hA m.nsf
end
theorem own_put {w : World} {base e n c g j : Nat} {xs : List Value} (h : w.ownsRow base e 1 (.slice (some ⟨g, 0, none⟩) n c) n xs) (hj : j < n) (v : Value) : (w.setCell ⟨g, j, none⟩ v).ownsRow base e 1 (.slice (some ⟨g, 0, none⟩) n c) n (xs.set j v) := by
  obtain ⟨h0, h1⟩ := h
  refine ⟨by simpa using h0, .inr ?_⟩
  rcases h1 with ⟨h1, _⟩ | ⟨g', cap, cu, h1, h2, h3, h4, h5, h6, h7⟩
  · injection h1 with h1; cases h1
  · injection h1 with h1 _ hc
    injection h1 with h1
    injection h1 with h1
    subst h1 hc
    refine ⟨g, c, cu.setIfInBounds j v, rfl, h2, ?_, h4, h5, by simpa using h6, ?_⟩
    · unfold World.setCell
      rw [Array.getElem?_modify]
      simp only [if_pos, h3, Option.map_some, Option.isSome_none, Bool.false_eq_true, if_false]
    · rw [Array.toList_setIfInBounds, List.take_set, h7]
theorem own_cell {w : World} {base e n c g j : Nat} {xs : List Value} (h : w.ownsRow base e 1 (.slice (some ⟨g, 0, none⟩) n c) n xs) (hj : j < n) : w.cell? ⟨g, j, none⟩ = xs[j]? ∧ w.frozen? ⟨g, j, none⟩ = false := by
  have hr := Rd.of_own h
  obtain ⟨g', o, e1, _, hc⟩ := hr.at_ (by omega)
  injection e1 with e1; injection e1 with e1 e2; subst e1 e2
  refine ⟨by have := hc j (by omega); rwa [Nat.zero_add] at this, ?_⟩
  obtain ⟨cs, hb⟩ := own_type h rfl
  unfold World.frozen?
  simp [hb]
section
variable {W W' : World} {base q : Nat} {root : Int} {v v' : WV} {s s' : Ws} {X : Nat → Prop}
theorem Wm.kp (h : Wm W base q root v s) (k : Kp W W' X) (h1 : ¬ X q) (h2 : ∀ g, blk v.PA = some g → ¬ X g) (h3 : ∀ g, 0 < s.fr.length → blk v.FA = some g → ¬ X g) (h4 : ∀ i, X i → ¬ Sf W base i) : Wm W' base q root v s := by
  have g1 : ¬ X 1 := fun e => h4 1 e (.inl (by have := h.b3; omega))
  have g2 : ¬ X 2 := fun e => h4 2 e (.inl (by have := h.b3; omega))
  have hz := h.gl.sz
  refine ⟨⟨Nat.le_trans hz k.size, fun i hi => by rw [World.cell?_of_block (k.block 1 (by omega) g1)]; exact h.gl.first i hi, fun i hi => by rw [World.cell?_of_block (k.block 2 (by omega) g2)]; exact h.gl.acc i hi⟩, h.b3, h.q1, h.bx.kp k h1, ?_, own_kp h.own k h2, h.pgs, fun x hx => (h.dat x hx).wr (Wr.of_kp k h4), h.p256, fun x hx g e => (h.dty x hx g e).kp k fun e' => h4 g e' (.inr (h.dty x hx g e)), Rd.kp h.fr k h3, h.frb, fun g a e => (h.frt g a e).kp k (h3 g a e), h.frl, h.apq, h.n4⟩
  obtain ⟨cs, e⟩ := h.qt
  exact ⟨cs, (k.block q h.bx.lt h1).trans e⟩
theorem Row.by_ {P base : Nat} {d : List UInt8} (h : Row W P d) (hd : d.length = 256) : By W base (some ⟨P, 0, none⟩) 256 d :=
  ⟨by have := h.rd hd.symm (by omega); rw [hd]; exact this, fun g _ e => by simp [blk] at e; subst e; exact .inr ⟨_, h.h⟩⟩
/-- A page is written into the first free place. -/
theorem Wm.take (M : Wm W base q root v s) {x : Nat} {fr9 : List Nat} (hfr : s.fr = x :: fr9) {gp gf of' P k : Nat} (hPA : v.PA = some ⟨gp, 0, none⟩) (hFA : blk v.FA = some gf) (FT : Rd W 1 (some ⟨gf, of', none⟩) fr9.length (v.fc - 1) (nv fr9))
    {d : List UInt8} (row : Row W P d) (hd : d.length = 256) :
    Wm (((W.setCell ⟨q, 2, none⟩ (.slice (some ⟨gf, of', none⟩) fr9.length (v.fc - 1))).drewN k).setCell ⟨gp, x, none⟩ (.slice (some ⟨P, 0, none⟩) 256 256)) base q root ⟨v.PA, v.pc, v.ps.set x ⟨some ⟨P, 0, none⟩, 256, d⟩, some ⟨gf, of', none⟩, v.fc - 1⟩ ⟨s.pg.set x d, fr9, s.full⟩ ∧
      Kp W (((W.setCell ⟨q, 2, none⟩ (.slice (some ⟨gf, of', none⟩) fr9.length (v.fc - 1))).drewN k).setCell ⟨gp, x, none⟩ (.slice (some ⟨P, 0, none⟩) 256 256)) (Xw q v) := by
  have hx := M.frl x (by rw [hfr]; simp)
  have hgq : gp ≠ q := fun e => M.apq (by rw [hPA]; simp [blk, e])
  obtain ⟨nf1, nf2⟩ := M.frb gf (by rw [hfr]; simp) hFA
  have hgf : gp ≠ gf := fun e => nf2 (by rw [hPA]; simp [blk, e])
  have k1 : Kp W (W.setCell ⟨q, 2, none⟩ (.slice (some ⟨gf, of', none⟩) fr9.length (v.fc - 1))) (· = q) := Kp.of_set W ⟨q, 2, none⟩ _ rfl
  have k2 : Kp W ((W.setCell ⟨q, 2, none⟩ (.slice (some ⟨gf, of', none⟩) fr9.length (v.fc - 1))).drewN k) (· = q) := k1.trans (Kp.drewN _ k fun _ => False) fun _ _ e => e.elim
  have k3 : Kp ((W.setCell ⟨q, 2, none⟩ (.slice (some ⟨gf, of', none⟩) fr9.length (v.fc - 1))).drewN k) (((W.setCell ⟨q, 2, none⟩ (.slice (some ⟨gf, of', none⟩) fr9.length (v.fc - 1))).drewN k).setCell ⟨gp, x, none⟩ (.slice (some ⟨P, 0, none⟩) 256 256)) (· = gp) := Kp.of_set _ ⟨gp, x, none⟩ _ rfl
  have kx : Kp W (((W.setCell ⟨q, 2, none⟩ (.slice (some ⟨gf, of', none⟩) fr9.length (v.fc - 1))).drewN k).setCell ⟨gp, x, none⟩ (.slice (some ⟨P, 0, none⟩) 256 256)) (Xw q v) :=
    (k2.mono fun i _ e => .inl e).trans (Y := (· = gp)) k3 fun i _ e => .inr (by rw [hPA, e]; rfl)
  have hP1 : P ≠ q := fun e => by obtain ⟨cs, h2⟩ := M.qt; have := row.h; rw [e, h2] at this; injection this with this; injection this with _ this; cases this
  have hP2 : P ≠ gp := fun e => by obtain ⟨cs, h2⟩ := own_type M.own (show blk v.PA = some gp by rw [hPA]; rfl); have := row.h; rw [e, h2] at this; injection this with this; injection this with _ this; cases this
  have OW := M.own
  rw [hPA] at OW
  have own2 := own_put (own_drewN (own_set OW ⟨q, 2, none⟩ (.slice (some ⟨gf, of', none⟩) fr9.length (v.fc - 1)) (by simp [blk]; exact hgq)) k) hx (.slice (some ⟨P, 0, none⟩) 256 256)
  have g1 : ¬ Xw q v 1 := fun e => M.nsf 1 e (.inl (by have := M.b3; omega))
  have g2 : ¬ Xw q v 2 := fun e => M.nsf 2 e (.inl (by have := M.b3; omega))
  have hz := M.gl.sz
  have rowk := row.kp kx (by rintro (e | e); exact hP1 e; rw [hPA] at e; simp [blk] at e; exact hP2 e.symm)
  refine ⟨⟨⟨Nat.le_trans hz kx.size, fun i hi => by rw [World.cell?_of_block (kx.block 1 (by omega) g1)]; exact M.gl.first i hi, fun i hi => by rw [World.cell?_of_block (kx.block 2 (by omega) g2)]; exact M.gl.acc i hi⟩, M.b3, M.q1, ?_, ?_, ?_, ?_, ?_, ?_, ?_, ?_, ?_, ?_, ?_, M.apq, by simpa using M.n4⟩, kx⟩
  · have b1 := (M.bx.set (j := 2) (by simp) (.slice (some ⟨gf, of', none⟩) fr9.length (v.fc - 1))).drewN k
    have b2 := b1.kp k3 (fun e => hgq e.symm)
    simpa using b2
  · exact Ty.set (Ty.step (Ty.set (show Ty W q 143 from M.qt) q 2 (.slice (some ⟨gf, of', none⟩) fr9.length (v.fc - 1))) (bdrewN (n := k) (Below.refl _ _))) gp x (.slice (some ⟨P, 0, none⟩) 256 256)
  · simp only [List.length_set]
    rw [hPA]
    have e : pv (v.ps.set x ⟨some ⟨P, 0, none⟩, 256, d⟩) = (pv v.ps).set x (.slice (some ⟨P, 0, none⟩) 256 256) := by
      simp [pv, List.map_set, PV.v, hd]
    rw [e]
    exact own2
  · rw [List.map_set, M.pgs]
  · intro y hy
    rcases List.mem_or_eq_of_mem_set hy with hy | rfl
    · exact (M.dat y hy).wr (Wr.of_kp kx M.nsf)
    · exact rowk.by_ hd
  · intro y hy
    rcases List.mem_or_eq_of_mem_set hy with hy | rfl
    · exact M.p256 y hy
    · exact hd
  · intro y hy g e
    rcases List.mem_or_eq_of_mem_set hy with hy | rfl
    · exact (M.dty y hy g e).kp kx fun e' => M.nsf g e' (.inr (M.dty y hy g e))
    · simp [blk] at e; subst e; exact ⟨_, rowk.h⟩
  · exact Rd.kp FT kx fun g _ e => by
      simp [blk] at e; subst e
      rintro (e | e)
      · exact nf1 e
      · exact nf2 e
  · intro g _ e
    simp [blk] at e; subst e
    exact ⟨nf1, nf2⟩
  · intro g _ e
    simp [blk] at e; subst e
    refine (M.frt gf (by rw [hfr]; simp) hFA).kp kx ?_
    rintro (e | e)
    · exact nf1 e
    · exact nf2 e
  · intro y hy
    rw [List.length_set]
    exact M.frl y (by rw [hfr]; simp [hy])
/-- The writer is full. -/
theorem Wm.setFull (M : Wm W base q root v s) : Wm (W.setCell ⟨q, 3, none⟩ (.bool true)) base q root v ⟨s.pg, s.fr, true⟩ ∧ Kp W (W.setCell ⟨q, 3, none⟩ (.bool true)) (Xw q v) := by
  have k1 : Kp W (W.setCell ⟨q, 3, none⟩ (.bool true)) (· = q) := Kp.of_set W ⟨q, 3, none⟩ _ rfl
  have nq : ∀ i, i = q → ¬ Sf W base i := fun i e => M.nsf i (.inl e)
  have g1 : ¬ 1 = q := by have := M.q1; have := M.b3; omega
  have g2 : ¬ 2 = q := by have := M.q1; have := M.b3; omega
  have hz := M.gl.sz
  refine ⟨⟨⟨Nat.le_trans hz k1.size, fun i hi => by rw [World.cell?_of_block (k1.block 1 (by omega) g1)]; exact M.gl.first i hi, fun i hi => by rw [World.cell?_of_block (k1.block 2 (by omega) g2)]; exact M.gl.acc i hi⟩, M.b3, M.q1, ?_, Ty.set (show Ty W q 143 from M.qt) q 3 _,
    own_kp M.own k1 (fun g e e' => M.apq (e' ▸ e)), M.pgs, fun x hx => (M.dat x hx).wr (Wr.of_kp k1 nq), M.p256, fun x hx g e => (M.dty x hx g e).kp k1 fun e' => nq g e' (.inr (M.dty x hx g e)), Rd.kp M.fr k1 fun g h e => (M.frb g h e).1, M.frb, fun g h e => (M.frt g h e).kp k1 (M.frb g h e).1, M.frl, M.apq, M.n4⟩, k1.mono fun i _ e => .inl e⟩
  have := M.bx.set (j := 3) (by simp) (.bool true)
  simpa using this
/-- A page is written behind all others. -/
theorem Wm.push {W5 : World} {A' : Option Addr} {c' P : Nat} {d : List UInt8} (M : Wm W base q root v s) (hfr : s.fr = []) (hp : s.pg.length ≠ 4096) (row : Row W P d) (hd : d.length = 256)
    (own5 : W5.ownsRow base 30 1 (.slice A' (v.ps.length + 1) c') (v.ps.length + 1) (pv v.ps ++ [.slice (some ⟨P, 0, none⟩) 256 256])) (g5 : Grew W v.PA W5 A') :
    Wm (W5.setCell ⟨q, 0, none⟩ (.slice A' (v.ps.length + 1) c')) base q root ⟨A', c', v.ps ++ [⟨some ⟨P, 0, none⟩, 256, d⟩], v.FA, v.fc⟩ ⟨s.pg ++ [d], [], s.full⟩ ∧
      Kp W (W5.setCell ⟨q, 0, none⟩ (.slice A' (v.ps.length + 1) c')) (Xw q v) ∧ Nv W v ⟨A', c', v.ps ++ [⟨some ⟨P, 0, none⟩, 256, d⟩], v.FA, v.fc⟩ := by
  have k1 : Kp W W5 (fun i => blk v.PA = some i) := Kp.of_grew g5 fun _ e => e
  have k2 : Kp W5 (W5.setCell ⟨q, 0, none⟩ (.slice A' (v.ps.length + 1) c')) (· = q) := Kp.of_set W5 ⟨q, 0, none⟩ _ rfl
  have kx : Kp W (W5.setCell ⟨q, 0, none⟩ (.slice A' (v.ps.length + 1) c')) (Xw q v) := (k1.mono fun i _ e => .inr e).trans (Y := (· = q)) k2 fun i _ e => .inl e
  have nw : Nw W v.PA A' := g5.at_
  have hqW := M.bx.lt
  have aq : blk A' ≠ some q := by
    intro e
    rcases nw with h | ⟨g, h1, h2⟩
    · exact M.apq (h ▸ e)
    · rw [h1] at e; injection e with e; omega
  have hP1 : P ≠ q := fun e => by obtain ⟨cs, h2⟩ := M.qt; have := row.h; rw [e, h2] at this; injection this with this; injection this with _ this; cases this
  have hP2 : blk v.PA ≠ some P := fun e => by obtain ⟨cs, h2⟩ := own_type M.own e; have := row.h; rw [h2] at this; injection this with this; injection this with _ this; cases this
  have g1 : ¬ Xw q v 1 := fun e => M.nsf 1 e (.inl (by have := M.b3; omega))
  have g2 : ¬ Xw q v 2 := fun e => M.nsf 2 e (.inl (by have := M.b3; omega))
  have hz := M.gl.sz
  have rowk := row.kp kx (by rintro (e | e); exact hP1 e; exact hP2 e)
  have PN : v.ps.length = s.pg.length := by have := congrArg List.length M.pgs; simpa using this
  refine ⟨⟨⟨Nat.le_trans hz kx.size, fun i hi => by rw [World.cell?_of_block (kx.block 1 (by omega) g1)]; exact M.gl.first i hi, fun i hi => by rw [World.cell?_of_block (kx.block 2 (by omega) g2)]; exact M.gl.acc i hi⟩, M.b3, M.q1, ?_, ?_, ?_, ?_, ?_, ?_, ?_, ?_, by simp, by simp, by simp, aq, ?_⟩, kx, nw⟩
  · have b1 := (M.bx.kp k1 M.apq).set (j := 0) (by simp) (.slice A' (v.ps.length + 1) c')
    rw [hfr] at b1
    simpa using b1
  · exact Ty.set (Ty.kp (show Ty W q 143 from M.qt) k1 M.apq) q 0 _
  · have e : pv (v.ps ++ [⟨some ⟨P, 0, none⟩, 256, d⟩]) = pv v.ps ++ [.slice (some ⟨P, 0, none⟩) 256 256] := by simp [pv, PV.v, hd]
    simp only [List.length_append, List.length_cons, List.length_nil, Nat.zero_add]
    rw [e]
    exact own_set own5 ⟨q, 0, none⟩ _ aq
  · simp [M.pgs]
  · intro y hy
    rcases List.mem_append.1 hy with hy | hy
    · exact (M.dat y hy).wr (Wr.of_kp kx M.nsf)
    · obtain rfl : y = _ := by simpa using hy
      exact rowk.by_ hd
  · intro y hy
    rcases List.mem_append.1 hy with hy | hy
    · exact M.p256 y hy
    · obtain rfl : y = _ := by simpa using hy
      exact hd
  · intro y hy g e
    rcases List.mem_append.1 hy with hy | hy
    · exact (M.dty y hy g e).kp kx fun e' => M.nsf g e' (.inr (M.dty y hy g e))
    · obtain rfl : y = _ := by simpa using hy
      simp [blk] at e; subst e; exact ⟨_, rowk.h⟩
  · have := M.fr
    rw [hfr] at this
    exact Rd.kp this kx fun g h => by simp at h
  · have := M.n4
    simp only [List.length_append, List.length_cons, List.length_nil]
    omega
end
end Go.Proofs.YtpmkohnljngbhaaGreatDoor.Pg
/- The walk of the writer's put. -/
namespace Go.Proofs.YtpmkohnljngbhaaGreatDoor.Pg
set_option maxRecDepth 1000000
open Go.RowKit Wl

theorem encode_any {kind : Nat} {A : Option Addr} {n c : Nat} {l : List IV} (hk : kind = 1 ∨ kind = 2) (w : World) (h : Hid (Rd w 3 A n c (ic l))) (hd1 : Hid (∀ x ∈ l, Rd w 1 x.kA x.k.length x.kc (bv x.k) ∧ Rd w 1 x.vA x.v.length x.vc (bv x.v)))
    (hl : Hid (∀ x ∈ its l, ItOk kind x)) (ht : Hid (tot kind (its l) ≤ 250)) (hn : n ≤ 250) :
    Calls Tryz.prog 121 #[.int .i64 (kind : Int), .slice A n c] w (EncPost w kind l) := by
  rcases hk with rfl | rfl
  · exact encode_1 w h hd1 hl ht hn
  · exact encode_2 w h hd1 hl ht hn
theorem putP_cons {kind : Nat} {l : List It} {s : Ws} {x : Nat} {fr : List Nat} (h : s.fr = x :: fr) : putP kind l s = (⟨hkey l, [], x⟩, ⟨s.pg.set x (enc kind l), fr, s.full⟩) := by unfold putP; rw [h]
theorem putP_full {kind : Nat} {l : List It} {s : Ws} (h : s.fr = []) (hp : s.pg.length = 4096) : putP kind l s = (⟨hkey l, [], 0⟩, ⟨s.pg, [], true⟩) := by unfold putP; rw [h]; simp only; rw [if_pos hp]
theorem putP_add {kind : Nat} {l : List It} {s : Ws} (h : s.fr = []) (hp : s.pg.length ≠ 4096) : putP kind l s = (⟨hkey l, [], s.pg.length⟩, ⟨s.pg ++ [enc kind l], [], s.full⟩) := by unfold putP; rw [h]; simp only; rw [if_neg hp]
/-- The free places but the first. -/
theorem fr_tail {W : World} {A : Option Addr} {n c x : Nat} {l : List Nat} (h : Rd W 1 A n c (nv (x :: l))) : ∃ g o o', A = some ⟨g, o, none⟩ ∧ g < W.heap.size ∧ W.cell? ⟨g, o, none⟩ = some (.int .i64 (x : Int)) ∧ (if c = 1 then o' = o else o' = o + 1) ∧ Rd W 1 (some ⟨g, o', none⟩) (n - 1) (c - 1) (nv l) := by
  have hn : n = l.length + 1 := by have := h.len; rw [nv_len] at this; simp at this; omega
  obtain ⟨g, o, e, hb, hc⟩ := h.at_ (by omega)
  have h63 := h.c63
  have hnc := h.nc
  refine ⟨g, o, if c = 1 then o else o + 1, e, hb, by have := hc 0 (by omega); simpa [nv] using this, by split <;> rfl, by rw [nv_len]; omega, by omega, fun e => (by cases e), by omega, fun hp => ?_⟩
  rw [if_neg (by omega)]
  refine ⟨g, o + 1, rfl, hb, fun j hj => ?_⟩
  rw [Nat.add_assoc, hc (1 + j) (by omega), Nat.add_comm 1 j]
  simp [nv]
def PuPost (W : World) (base q : Nat) (root : Int) (v : WV) (s : Ws) (kind : Nat) (l : List IV) (e : Ending) (W' : World) : Prop :=
  ∃ (x : IV) (v' : WV), e = .returned (.agg #[.slice x.kA x.k.length x.kc, .slice x.vA x.v.length x.vc, .int .i64 (x.ch : Int)]) ∧ x.it = (putP kind (its l) s).1 ∧ Hid (Wm W' base q root v' (putP kind (its l) s).2) ∧ Hid (Kp W W' (Xw q v)) ∧ Hid (Nv W v v') ∧ Hid (Iy W' base x)
/-- The end of put: its result is laid. -/
theorem put_end {W W6 : World} {base q kind R0 kn kc ch : Nat} {kA : Option Addr} {kd : List UInt8} {root : Int} {v v' : WV} {s s' : Ws} {l : List IV} {a b c : Value} (hR0 : W.heap.size = R0) (hb : base ≤ R0) (M : Wm W base q root v s) (M6 : Wm W6 base q root v' s') (k6 : Kp W W6 (Xw q v)) (n6 : Nv W v v') (ty : Ty W6 R0 96)
    (hkn : kd.length = kn) (key : By W base kA kc kd) (hA : blk v'.PA ≠ some R0) (hF : ∀ g, 0 < s'.fr.length → blk v'.FA = some g → g ≠ R0) (hP : putP kind (its l) s = (⟨kd, [], ch⟩, s')) :
    PuPost W base q root v s kind l (.returned (.agg #[.slice kA kn kc, .slice none 0 0, .int .i64 (ch : Int)])) (((W6.setCell ⟨R0, 0, none⟩ a).setCell ⟨R0, 1, none⟩ b).setCell ⟨R0, 2, none⟩ c) := by
  have k1 : Kp W6 (W6.setCell ⟨R0, 0, none⟩ a) (· = R0) := Kp.of_set W6 ⟨R0, 0, none⟩ _ rfl
  have k2 : Kp (W6.setCell ⟨R0, 0, none⟩ a) ((W6.setCell ⟨R0, 0, none⟩ a).setCell ⟨R0, 1, none⟩ b) (· = R0) := Kp.of_set _ ⟨R0, 1, none⟩ _ rfl
  have k3 : Kp ((W6.setCell ⟨R0, 0, none⟩ a).setCell ⟨R0, 1, none⟩ b) (((W6.setCell ⟨R0, 0, none⟩ a).setCell ⟨R0, 1, none⟩ b).setCell ⟨R0, 2, none⟩ c) (· = R0) := Kp.of_set _ ⟨R0, 2, none⟩ _ rfl
  have kk := (k1.trans k2 fun _ _ e => e).trans k3 fun _ _ e => e
  have hqR : q < R0 := hR0 ▸ M.bx.lt
  have M7 := M6.kp kk (fun e => by omega) (fun g e e' => hA (e' ▸ e)) (fun g h e e' => hF g h e e') fun i e => e ▸ ty.nsf hb (by decide)
  have K7 : Kp W _ (Xw q v) := (k6.mono (Y := fun i => Xw q v i ∨ i = R0) fun _ _ e => .inl e).trans kk (fun i _ e => .inr e) |>.mono fun i hi e => e.elim id fun e => by omega
  refine ⟨⟨kA, kc, kd, none, 0, [], ch⟩, v', by simp only [List.length_nil]; rw [hkn], by rw [hP]; rfl, by rw [hP]; exact Lib.hid M7, Lib.hid K7, Lib.hid n6, Lib.hid ⟨key.wr (Wr.of_kp K7 M.nsf), ⟨Rd.nil_ _ _, fun g h => by simp at h⟩⟩⟩
set_option maxRecDepth 1000000 in
set_option maxHeartbeats 6400000 in
theorem put_any {base q kind : Nat} {root : Int} {v : WV} {s : Ws} {A : Option Addr} {n c : Nat} {l : List IV} {y : IV} (W : World) (hk : kind = 1 ∨ kind = 2) (M : Hid (Wm W base q root v s)) (hI : Hid (Ir W base A n c l)) (hy : Hid (l[0]? = some y))
    (hok : Hid (∀ x ∈ its l, ItOk kind x)) (ht : Hid (tot kind (its l) ≤ 250)) (hn : n ≤ 250) (hbW : base ≤ W.heap.size) :
    Calls Tryz.prog 98 #[.pointer (some ⟨q, 0, none⟩), .int .i64 (kind : Int), .slice A n c] W (PuPost W base q root v s kind l) := by
  obtain ⟨R0, hR0⟩ : ∃ R0, W.heap.size = R0 := ⟨_, rfl⟩
  obtain ⟨W0, hW0⟩ : ∃ W0, W.alloc (.cells #[.slice none 0 0, .slice none 0 0, .int .i64 0] 96) = W0 := ⟨_, rfl⟩
  have hb0 : Below W.heap.size W W0 := hW0 ▸ bal _ _
  have X0 : Hid (Bx W0 R0 [.slice none 0 0, .slice none 0 0, .int .i64 0]) := hW0 ▸ Lib.hid (Bx.put W hR0 #[.slice none 0 0, .slice none 0 0, .int .i64 0] 96)
  have hs0 : W0.heap.size = R0 + 1 := by rw [← hW0, ← hR0]; simp
  have I0 := Lib.hid (hI.out.below hb0)
  have M0 := Lib.hid (M.out.low hb0)
  have HW0 := Lib.hid hW0
  have hqR : q < R0 := hR0 ▸ M.out.bx.lt
  have D0 : Hid (∀ x ∈ l, Rd W0 1 x.kA x.k.length x.kc (bv x.k) ∧ Rd W0 1 x.vA x.v.length x.vc (bv x.v)) := Lib.hid fun x hx => ⟨(I0.out.dat x hx).k.rd, (I0.out.dat x hx).v.rd⟩
  have HLI : Hid ((its l)[0]? = some y.it) := Lib.hid (by unfold its; rw [List.getElem?_map, hy.out]; rfl)
  have HK : Hid (hkey (its l) = y.k) := Lib.hid (by
    have := HLI.out
    rcases he : its l with _ | ⟨a, m⟩
    · rw [he] at this; cases this
    · rw [he] at this; injection this with this; rw [this]; rfl)
  have hn1 : 1 ≤ n := by have := hI.out.len; have := (List.getElem?_eq_some_iff.1 hy.out).1; omega
  clear hW0
  go_enter Tryz.func98, Tryz.ntmps98
  go_wp2_with fail
  rw [HW0.out]
  go_at_call 121
  refine (encode_any hk _ (Lib.hid I0.out.row) D0 hok ht hn).mono ?_
  rintro e W1 ⟨rfl, RW, b1⟩
  rw [hs0] at RW ⊢
  have M1 := Lib.hid (M0.out.low b1)
  have I1 := Lib.hid (I0.out.below b1)
  have X1 := Lib.hid (X0.out.step b1)
  have hs1 : R0 + 2 ≤ W1.heap.size := by have := RW.out.lt; omega
  have KB1 : Hid (Below W.heap.size W W1) := Lib.hid (hb0.trans (b1.mono hb0.size))
  obtain ⟨g, o, y', hA, hg, hy', c0, c1, c2⟩ := Rd.item I1.out.row (show 0 < n by omega)
  obtain rfl : y = y' := by have := hy.out; rw [this] at hy'; injection hy'
  clear hy' c1 c2
  subst hA
  simp only [IV.kv, Nat.zero_mul, Nat.add_zero] at c0
  obtain ⟨X, hX⟩ : ∃ X, W1.heap.size = X := ⟨_, rfl⟩
  obtain ⟨kn, hkn⟩ : ∃ kn, y.k.length = kn := ⟨_, rfl⟩
  rw [hkn] at c0
  have hc := I1.out.row.nc
  have hc63 := I1.out.row.c63
  -- the writer's cells
  obtain ⟨W2, hW2⟩ : ∃ W2, W1.alloc (.cells #[.slice y.kA kn y.kc, .slice none 0 0, .int .i64 0] 96) = W2 := ⟨_, rfl⟩
  have b2 : Below W1.heap.size W1 W2 := hW2 ▸ bal _ _
  have M2 := Lib.hid (M1.out.low b2)
  have X2 := Lib.hid (X1.out.step b2)
  have RW2 := Lib.hid (RW.out.step b2)
  have IX2 : Hid (Bx W2 X [.slice y.kA kn y.kc, .slice none 0 0, .int .i64 0]) := hW2 ▸ Lib.hid (Bx.put W1 hX #[.slice y.kA kn y.kc, .slice none 0 0, .int .i64 0] 96)
  have KB2 : Hid (Below W.heap.size W W2) := Lib.hid (KB1.out.trans (b2.mono KB1.out.size))
  have YK2 := Lib.hid ((I1.out.dat y (List.mem_of_getElem? hy.out)).wr (Wr.of_below b2 base)).k
  have hs2 : W2.heap.size = X + 1 := by rw [← hW2, ← hX]; simp
  have HW2 := Lib.hid hW2
  clear hW2
  have z0 := M2.out.bx.at_ 0 (by simp)
  have z2 := M2.out.bx.at_ 2 (by simp)
  have z3 := M2.out.bx.at_ 3 (by simp)
  simp only [List.getElem?_cons_succ, List.getElem?_cons_zero] at z0 z2 z3
  have f0 := M2.out.bx.fz 0 (by simp)
  have f2 := M2.out.bx.fz 2 (by simp)
  have f3 := M2.out.bx.fz 3 (by simp)
  have x0 := IX2.out.at_ 0 (by simp)
  have x1 := IX2.out.at_ 1 (by simp)
  have x2 := IX2.out.at_ 2 (by simp)
  simp only [List.getElem?_cons_succ, List.getElem?_cons_zero] at x0 x1 x2
  have xf2 := IX2.out.fz 2 (by simp)
  have PN : Hid (v.ps.length = s.pg.length) := Lib.hid (by have := congrArg List.length M.out.pgs; simpa using this)
  have hpg4 := M.out.n4
  go_upto_region 5 with fail
  rw [HW2.out]
  rcases hfr : s.fr with _ | ⟨x9, fr9⟩
  · rw [hfr] at z2
    have KY := Lib.hid ((hI.out.dat y (List.mem_of_getElem? hy.out)).k)
    have HFR := Lib.hid hfr
    obtain ⟨pn, hpnn⟩ : ∃ pn, v.ps.length = pn := ⟨_, rfl⟩
    rw [hpnn] at z0
    have HPN := Lib.hid hpnn
    have hpn4 : pn ≤ 4096 := by have := PN.out; omega
    have PNN : Hid (s.pg.length = pn) := Lib.hid (by have := PN.out; omega)
    have TY2 : Hid (Ty W2 R0 96) := Lib.hid (((HW0.out ▸ hR0 ▸ Ty.new W _ _ : Ty W0 R0 96).step b1).step b2)
    have nRA : ¬ blk v.PA = some R0 := fun e => by have := (own_blk_le M.out.own e).2; omega
    have nXA : ¬ blk v.PA = some X := fun e => by have := (own_blk_le M.out.own e).2; omega
    have nX : ¬ Xw q v X := by rintro (e | e); omega; exact nXA e
    have nR : ¬ Xw q v R0 := by rintro (e | e); omega; exact nRA e
    clear hfr hpnn PN hpg4
    by_cases h4 : pn = 4096
    · subst h4
      have HP := Lib.hid (putP_full (kind := kind) (l := its l) HFR.out PNN.out)
      obtain ⟨M6, K6⟩ := M2.out.setFull
      rw [HFR.out] at M6
      obtain ⟨W6, hW6⟩ : ∃ W6, W2.setCell ⟨q, 3, none⟩ (.bool true) = W6 := ⟨_, rfl⟩
      rw [hW6] at M6 K6
      have HW6 := Lib.hid hW6
      clear hW6
      go_upto_region 11 with fail
      rw [HW6.out]
      have KX6 : Hid (Kp W W6 (Xw q v)) := Lib.hid ((Kp.of_below KB2.out (Xw q v)).trans K6 fun _ _ e => e)
      have NV6 : Nv W v v := .inl rfl
      have nRA2 : blk v.PA ≠ some R0 := nRA
      have IX6 := Lib.hid (IX2.out.kp K6 nX)
      have X6 := Lib.hid (X2.out.kp K6 nR)
      have TY6 := Lib.hid (TY2.out.kp K6 nR)
      have i0 := IX6.out.at_ 0 (by simp)
      have i1 := IX6.out.at_ 1 (by simp)
      have i2 := IX6.out.at_ 2 (by simp)
      have r0 := X6.out.at_ 0 (by simp)
      have r1 := X6.out.at_ 1 (by simp)
      have r2 := X6.out.at_ 2 (by simp)
      simp only [List.getElem?_cons_succ, List.getElem?_cons_zero] at i0 i1 i2 r0 r1 r2
      have g0 := X6.out.fz 0 (by simp)
      have g1 := X6.out.fz 1 (by simp)
      have g2 := X6.out.fz 2 (by simp)
      have PEND := fun a b c => put_end (kind := kind) (l := l) (kn := kn) (ch := 0) (a := a) (b := b) (c := c) hR0 (by omega) M.out M6 KX6.out NV6 TY6.out hkn KY.out nRA2 (fun g h e => by simp at h) (by rw [HP.out, HK.out])
      have PEND := Lib.hid PEND
      clear K6 M6
      go_wp2_with fail
      have h0 := World.cell?_setCell_same W6 ⟨R0, 0, none⟩ (.slice y.kA kn y.kc) r0
      have h1 := World.cell?_setCell_same (W6.setCell ⟨R0, 0, none⟩ (.slice y.kA kn y.kc)) ⟨R0, 1, none⟩ (.slice none 0 0) ((World.cell?_setCell_other _ _ _ _ (by simp)).trans r1)
      have h2 := World.cell?_setCell_same ((W6.setCell ⟨R0, 0, none⟩ (.slice y.kA kn y.kc)).setCell ⟨R0, 1, none⟩ (.slice none 0 0)) ⟨R0, 2, none⟩ (.int .i64 0) ((World.cell?_setCell_other _ _ _ _ (by simp)).trans ((World.cell?_setCell_other _ _ _ _ (by simp)).trans r2))
      exact bodyPost_ret (v := .agg #[.slice y.kA kn y.kc, .slice none 0 0, .int .i64 0]) (by simp [results, Tryz.results98, go_sem, h0, h1, h2]) rfl (PEND.out _ _ _)
    · have HP := Lib.hid (putP_add (kind := kind) (l := its l) HFR.out (by rw [PNN.out]; exact h4))
      obtain ⟨i0, hi, hz0, hz1, hz2⟩ := info_parts info_page
      obtain ⟨W3, hW3⟩ : ∃ W3, W2.setCell ⟨X, 2, none⟩ (.int .i64 (pn : Int)) = W3 := ⟨_, rfl⟩
      have k23 : Kp W2 W3 (· = X) := hW3 ▸ Kp.of_set W2 ⟨X, 2, none⟩ _ rfl
      have b13 : Below W1.heap.size W1 W3 := b2.trans (k23.low b2.size fun i e => by omega)
      have M3 := Lib.hid (M1.out.low b13)
      have RW3 := Lib.hid (RW.out.step b13)
      have X3 := Lib.hid (X1.out.step b13)
      have TY3 : Hid (Ty W3 R0 96) := Lib.hid (((HW0.out ▸ hR0 ▸ Ty.new W _ _ : Ty W0 R0 96).step b1).step b13)
      have IX3 : Hid (Bx W3 X [.slice y.kA kn y.kc, .slice none 0 0, .int .i64 (pn : Int)]) := hW3 ▸ Lib.hid (IX2.out.set (j := 2) (by simp) (.int .i64 (pn : Int)))
      have KB3 : Hid (Below W.heap.size W W3) := Lib.hid (KB1.out.trans (b13.mono KB1.out.size))
      have hs3 : W3.heap.size = X + 1 := by rw [← hW3]; simp; exact hs2
      have HW3 := Lib.hid hW3
      clear hW3
      go_upto_region 4 with fail
      rw [HW3.out]
      have z0 := M3.out.bx.at_ 0 (by simp)
      rw [HPN.out] at z0
      simp only [List.getElem?_cons_succ, List.getElem?_cons_zero] at z0
      obtain ⟨W4, hW4⟩ : ∃ W4, W3.alloc (.cells #[.slice (some ⟨R0 + 1, 0, none⟩) 256 256] 30) = W4 := ⟨_, rfl⟩
      have b34 : Below W3.heap.size W3 W4 := hW4 ▸ bal _ _
      have RL : Hid (Rd W4 1 (some ⟨W3.heap.size, 0, none⟩) 1 1 [.slice (some ⟨R0 + 1, 0, none⟩) 256 256]) := hW4 ▸ Lib.hid (Rd.lit W3 30 1 #[.slice (some ⟨R0 + 1, 0, none⟩) 256 256] 1 (by omega) rfl)
      rw [hs3] at RL
      have M4 := Lib.hid (M3.out.low b34)
      have RW4 := Lib.hid (RW3.out.step b34)
      have X4 := Lib.hid (X3.out.step b34)
      have IX4 := Lib.hid (IX3.out.step b34)
      have TY4 := Lib.hid (TY3.out.step b34)
      have KB4 : Hid (Below W.heap.size W W4) := Lib.hid (KB3.out.trans (b34.mono KB3.out.size))
      have OW := M4.out.own
      rw [HPN.out] at OW
      have hbW4 : base ≤ W4.heap.size := by have := KB4.out.size; omega
      have HW4 := Lib.hid hW4
      clear hW4
      go_wp2_with (at_builtin; apply hold)
      unfold Hold
      rw [HW4.out]
      refine wpList_app _ rfl (.tmp 29) (.tmp 31) 26 rfl base 30 i0 (.slice none 0 0) 1 24 Tryz.underlying26 hi hz0 hz1 hz2 rfl (by omega) (by rfl) OW (by rfl) RL.out (one1 _ rfl) (by omega) (by omega) hbW4 ?_
      intro A5 c5 W5 own5 g5
      have P := M4.out.push HFR.out (by rw [PNN.out]; exact h4) RW4.out (enc_len hok.out ht.out) (by rw [HPN.out]; exact own5) g5
      rw [HPN.out] at P
      obtain ⟨M6, K6, N6⟩ := P
      have BQ := M4.out.bx.kp (Kp.of_grew (X := fun i => blk v.PA = some i) g5 fun _ e => e) M4.out.apq
      have q0 := BQ.at_ 0 (by simp)
      simp only [List.getElem?_cons_zero] at q0
      have qf0 := BQ.fz 0 (by simp)
      obtain ⟨W6, hW6⟩ : ∃ W6, W5.setCell ⟨q, 0, none⟩ (.slice A5 (pn + 1) c5) = W6 := ⟨_, rfl⟩
      rw [hW6] at M6 K6
      have HW6 := Lib.hid hW6
      clear hW6 BQ own5 g5
      go_upto_region 11 with fail
      rw [HW6.out]
      have KX6 : Hid (Kp W W6 (Xw q v)) := Lib.hid ((Kp.of_below KB4.out (Xw q v)).trans K6 fun _ _ e => e)
      have NV6 : Nv W v ⟨A5, c5, v.ps ++ [⟨some ⟨R0 + 1, 0, none⟩, 256, enc kind (its l)⟩], v.FA, v.fc⟩ := by
        rcases N6 with h | ⟨g, h1, h2⟩
        · exact .inl h
        · exact .inr ⟨g, h1, by have := KB4.out.size; omega⟩
      have nRA2 : blk A5 ≠ some R0 := by
        intro e
        rcases N6 with h | ⟨g, h1, h2⟩
        · exact nRA (h ▸ e)
        · have h1 : blk A5 = some g := h1
          rw [h1] at e; injection e with e; have := KB4.out.size; have := RW4.out.lt; omega
      have HP : Hid (putP kind (its l) s = (⟨hkey (its l), [], pn⟩, ⟨s.pg ++ [enc kind (its l)], [], s.full⟩)) := by rw [HP.out, PNN.out]; exact Lib.hid rfl
      clear q0 qf0
      have IX6 := Lib.hid (IX4.out.kp K6 nX)
      have X6 := Lib.hid (X4.out.kp K6 nR)
      have TY6 := Lib.hid (TY4.out.kp K6 nR)
      have i0 := IX6.out.at_ 0 (by simp)
      have i1 := IX6.out.at_ 1 (by simp)
      have i2 := IX6.out.at_ 2 (by simp)
      have r0 := X6.out.at_ 0 (by simp)
      have r1 := X6.out.at_ 1 (by simp)
      have r2 := X6.out.at_ 2 (by simp)
      simp only [List.getElem?_cons_succ, List.getElem?_cons_zero] at i0 i1 i2 r0 r1 r2
      have g0 := X6.out.fz 0 (by simp)
      have g1 := X6.out.fz 1 (by simp)
      have g2 := X6.out.fz 2 (by simp)
      have PEND := fun a b c => put_end (kind := kind) (l := l) (kn := kn) (ch := pn) (a := a) (b := b) (c := c) hR0 (by omega) M.out M6 KX6.out NV6 TY6.out hkn KY.out nRA2 (fun g h e => by simp at h) (by rw [HP.out, HK.out])
      have PEND := Lib.hid PEND
      clear K6 M6
      go_wp2_with fail
      have h0 := World.cell?_setCell_same W6 ⟨R0, 0, none⟩ (.slice y.kA kn y.kc) r0
      have h1 := World.cell?_setCell_same (W6.setCell ⟨R0, 0, none⟩ (.slice y.kA kn y.kc)) ⟨R0, 1, none⟩ (.slice none 0 0) ((World.cell?_setCell_other _ _ _ _ (by simp)).trans r1)
      have h2 := World.cell?_setCell_same ((W6.setCell ⟨R0, 0, none⟩ (.slice y.kA kn y.kc)).setCell ⟨R0, 1, none⟩ (.slice none 0 0)) ⟨R0, 2, none⟩ (.int .i64 (pn : Int)) ((World.cell?_setCell_other _ _ _ _ (by simp)).trans ((World.cell?_setCell_other _ _ _ _ (by simp)).trans r2))
      exact bodyPost_ret (v := .agg #[.slice y.kA kn y.kc, .slice none 0 0, .int .i64 (pn : Int)]) (by simp [results, Tryz.results98, go_sem, h0, h1, h2]) rfl (PEND.out _ _ _)
  · have HP := Lib.hid (putP_cons (kind := kind) (l := its l) hfr)
    obtain ⟨fn, hfn⟩ : ∃ fn, s.fr.length = fn := ⟨_, rfl⟩
    have hfn9 : fr9.length + 1 = fn := by rw [← hfn, hfr]; rfl
    have hx9 := M2.out.frl x9 (by rw [hfr]; simp)
    have FR2 := M2.out.fr
    have FB2 := M2.out.frb
    rw [hfn] at FB2
    rw [hfr, show (x9 :: fr9).length = fn by rw [← hfn, hfr]] at FR2
    obtain ⟨gf, of, of', hFA, hgf, cf, hof, FT⟩ := fr_tail FR2
    have FT := Lib.hid FT
    have FC := FR2.nc
    have FC63 := FR2.c63
    obtain ⟨nf1, nf2⟩ := FB2 gf (by omega) (by rw [hFA]; rfl)
    rw [hfn, hFA] at z2
    obtain ⟨gp, hPA, hpn, hp63⟩ := own_pos M2.out.own (by omega)
    rw [hPA] at z0
    have OW := M2.out.own
    rw [hPA] at OW
    obtain ⟨pc0, pf0⟩ := own_cell OW hx9
    have OW := Lib.hid OW
    have hgpq : gp ≠ q := fun e => M2.out.apq (by rw [hPA]; simp [blk, e])
    have hgpf : gp ≠ gf := fun e => nf2 (by rw [hPA]; simp [blk, e])
    have hgpX : gp < X := by have := (own_blk_le M1.out.own (show blk v.PA = some gp by rw [hPA]; rfl)).2; omega
    have hgpR : gp < R0 := by have := (own_blk_le M.out.own (show blk v.PA = some gp by rw [hPA]; rfl)).2; omega
    have hqX : q < X := by omega
    obtain ⟨pn, hpnn⟩ : ∃ pn, v.ps.length = pn := ⟨_, rfl⟩
    rw [hpnn] at z0 hpn hx9
    have HPN := Lib.hid hpnn
    clear hpnn FR2 FB2
    have pc0' : ∃ u, W2.cell? ⟨gp, x9, none⟩ = some u := by
      rw [pc0, List.getElem?_eq_getElem (by rw [pv_len]; have := HPN.out; omega)]; exact ⟨_, rfl⟩
    obtain ⟨u9, pc0'⟩ := pc0'
    clear pc0
    have HFR := Lib.hid hfr
    have HFN := Lib.hid hfn
    have hPA := Lib.hid hPA
    have hFA := Lib.hid hFA
    clear hfr hfn
    have KY := Lib.hid ((hI.out.dat y (List.mem_of_getElem? hy.out)).k)
    have hgfR : gf < R0 := by
      obtain ⟨g', o', e', hb', _⟩ := M.out.fr.at_ (by rw [HFR.out]; simp)
      rw [hFA.out] at e'; injection e' with e'; injection e' with e1 _; omega
    obtain ⟨W3, hW3⟩ : ∃ W3, W2.setCell ⟨X, 2, none⟩ (.int .i64 (x9 : Int)) = W3 := ⟨_, rfl⟩
    have k23 : Kp W2 W3 (· = X) := hW3 ▸ Kp.of_set W2 ⟨X, 2, none⟩ _ rfl
    have b13 : Below W1.heap.size W1 W3 := b2.trans (k23.low b2.size fun i e => by omega)
    have M3 := Lib.hid (M1.out.low b13)
    have RW3 := Lib.hid (RW.out.step b13)
    have X3 := Lib.hid (X1.out.step b13)
    have TY3 : Hid (Ty W3 R0 96) := Lib.hid (((HW0.out ▸ hR0 ▸ Ty.new W _ _ : Ty W0 R0 96).step b1).step b13)
    have IX3 : Hid (Bx W3 X [.slice y.kA kn y.kc, .slice none 0 0, .int .i64 (x9 : Int)]) := hW3 ▸ Lib.hid (IX2.out.set (j := 2) (by simp) (.int .i64 (x9 : Int)))
    have FT3 := Lib.hid (Rd.kp FT.out k23 fun g _ e => by simp [blk] at e; omega)
    have KB3 : Hid (Below W.heap.size W W3) := Lib.hid (KB1.out.trans (b13.mono KB1.out.size))
    have pc3 : W3.cell? ⟨gp, x9, none⟩ = some u9 := (k23.cell (by have := b13.size; have := M2.out.bx.lt; omega) (by omega)).trans pc0'
    have pf3 : W3.frozen? ⟨gp, x9, none⟩ = false := (World.frozen?_of_block (k23.block gp (by omega) (by omega))).trans pf0
    have nRA : blk v.PA ≠ some R0 := by rw [hPA.out]; simp [blk]; omega
    have HW3 := Lib.hid hW3
    clear hW3
    by_cases hc1 : v.fc = 1
    · obtain rfl : of' = of := by rwa [if_pos hc1] at hof
      go_upto_region 8 with fail
      rw [HW3.out]
      obtain ⟨W4, hW4⟩ : ∃ W4, W3.setCell ⟨q, 2, none⟩ (.slice (some ⟨gf, of', none⟩) (fn - 1) 0) = W4 := ⟨_, rfl⟩
      have k34 : Kp W3 W4 (· = q) := hW4 ▸ Kp.of_set W3 ⟨q, 2, none⟩ _ rfl
      have hq3 : q < W3.heap.size := M3.out.bx.lt
      have e0 : W4.cell? ⟨q, 0, none⟩ = some (.slice (some ⟨gp, 0, none⟩) pn v.pc) := by
        rw [← hW4, ← hPA.out, ← HPN.out]; exact (M3.out.bx.set (j := 2) (by simp) _).at_ 0 (by simp)
      have e1 : W4.cell? ⟨X, 2, none⟩ = some (.int .i64 (x9 : Int)) := (k34.cell IX3.out.lt (by omega)).trans (IX3.out.at_ 2 (by simp))
      have e2 : W4.cell? ⟨gp, x9, none⟩ = some u9 := (k34.cell (by have := k23.size; omega) hgpq).trans pc3
      have e3 : W4.frozen? ⟨gp, x9, none⟩ = false := (World.frozen?_of_block (k34.block gp (by have := k23.size; omega) hgpq)).trans pf3
      have HW4 := Lib.hid hW4
      rw [hW4]
      clear hW4
      refine wp_region_mid (fun w' => ∃ k : Nat, w' = W4.drewN k) 9 1 (by kernel_rfl) (by kernel_rfl) ⟨1, rfl⟩ ?_
      simp only [List.take_succ_cons, List.take_zero, List.drop_succ_cons, List.drop_zero]
      repeat (go_big_quiet_step (fail))
      refine wpQuiet_nil ?_
      rintro w5 ⟨k5, rfl⟩
      go_wp2_with fail
      refine MidQ.intro (fun w' => w' = _) rfl ?_
      refine wpQuiet_nil ?_
      rintro W6 hW6
      obtain ⟨M6, K6⟩ := M3.out.take (k := k5) HFR.out hPA.out (by rw [hFA.out]; rfl) (by rw [show fr9.length = fn - 1 by omega]; exact FT3.out) RW3.out (enc_len hok.out ht.out)
      rw [show fr9.length = fn - 1 by omega, show v.fc - 1 = 0 by omega, HW4.out, ← hW6] at M6 K6
      have KX6 : Hid (Kp W W6 (Xw q v)) := Lib.hid ((Kp.of_below KB3.out (Xw q v)).trans K6 fun _ _ e => e)
      have nX : ¬ Xw q v X := by rintro (e | e); omega; rw [hPA.out] at e; simp [blk] at e; omega
      have nR : ¬ Xw q v R0 := by rintro (e | e); omega; rw [hPA.out] at e; simp [blk] at e; omega
      have IX6 := Lib.hid (IX3.out.kp K6 nX)
      have X6 := Lib.hid (X3.out.kp K6 nR)
      have TY6 := Lib.hid (TY3.out.kp K6 nR)
      have i0 := IX6.out.at_ 0 (by simp)
      have i1 := IX6.out.at_ 1 (by simp)
      have i2 := IX6.out.at_ 2 (by simp)
      have r0 := X6.out.at_ 0 (by simp)
      have r1 := X6.out.at_ 1 (by simp)
      have r2 := X6.out.at_ 2 (by simp)
      simp only [List.getElem?_cons_succ, List.getElem?_cons_zero] at i0 i1 i2 r0 r1 r2
      have g0 := X6.out.fz 0 (by simp)
      have g1 := X6.out.fz 1 (by simp)
      have g2 := X6.out.fz 2 (by simp)
      have PEND := fun a b c => put_end (kind := kind) (l := l) (kn := kn) (ch := x9) (a := a) (b := b) (c := c) hR0 (by omega) M.out M6 KX6.out (.inl rfl) TY6.out hkn KY.out nRA (fun g h e => by simp [blk] at e; omega) (by rw [HP.out, HK.out])
      have PEND := Lib.hid PEND
      clear K6 M6 hW6 e0 e1 e2 e3
      go_wp2_with fail
      have h0 := World.cell?_setCell_same W6 ⟨R0, 0, none⟩ (.slice y.kA kn y.kc) r0
      have h1 := World.cell?_setCell_same (W6.setCell ⟨R0, 0, none⟩ (.slice y.kA kn y.kc)) ⟨R0, 1, none⟩ (.slice none 0 0) ((World.cell?_setCell_other _ _ _ _ (by simp)).trans r1)
      have h2 := World.cell?_setCell_same ((W6.setCell ⟨R0, 0, none⟩ (.slice y.kA kn y.kc)).setCell ⟨R0, 1, none⟩ (.slice none 0 0)) ⟨R0, 2, none⟩ (.int .i64 (x9 : Int)) ((World.cell?_setCell_other _ _ _ _ (by simp)).trans ((World.cell?_setCell_other _ _ _ _ (by simp)).trans r2))
      exact bodyPost_ret (v := .agg #[.slice y.kA kn y.kc, .slice none 0 0, .int .i64 (x9 : Int)]) (by simp [results, Tryz.results98, go_sem, h0, h1, h2]) rfl (PEND.out _ _ _)
    · obtain rfl : of' = of + 1 := by rwa [if_neg hc1] at hof
      go_upto_region 8 with fail
      rw [HW3.out]
      obtain ⟨W4, hW4⟩ : ∃ W4, W3.setCell ⟨q, 2, none⟩ (.slice (some ⟨gf, of + 1, none⟩) (fn - 1) (v.fc - 1)) = W4 := ⟨_, rfl⟩
      have k34 : Kp W3 W4 (· = q) := hW4 ▸ Kp.of_set W3 ⟨q, 2, none⟩ _ rfl
      have hq3 : q < W3.heap.size := M3.out.bx.lt
      have e0 : W4.cell? ⟨q, 0, none⟩ = some (.slice (some ⟨gp, 0, none⟩) pn v.pc) := by
        rw [← hW4, ← hPA.out, ← HPN.out]; exact (M3.out.bx.set (j := 2) (by simp) _).at_ 0 (by simp)
      have e1 : W4.cell? ⟨X, 2, none⟩ = some (.int .i64 (x9 : Int)) := (k34.cell IX3.out.lt (by omega)).trans (IX3.out.at_ 2 (by simp))
      have e2 : W4.cell? ⟨gp, x9, none⟩ = some u9 := (k34.cell (by have := k23.size; omega) hgpq).trans pc3
      have e3 : W4.frozen? ⟨gp, x9, none⟩ = false := (World.frozen?_of_block (k34.block gp (by have := k23.size; omega) hgpq)).trans pf3
      have HW4 := Lib.hid hW4
      rw [hW4]
      clear hW4
      refine wp_region_mid (fun w' => ∃ k : Nat, w' = W4.drewN k) 9 1 (by kernel_rfl) (by kernel_rfl) ⟨1, rfl⟩ ?_
      simp only [List.take_succ_cons, List.take_zero, List.drop_succ_cons, List.drop_zero]
      repeat (go_big_quiet_step (fail))
      refine wpQuiet_nil ?_
      rintro w5 ⟨k5, rfl⟩
      go_wp2_with fail
      refine MidQ.intro (fun w' => w' = _) rfl ?_
      refine wpQuiet_nil ?_
      rintro W6 hW6
      obtain ⟨M6, K6⟩ := M3.out.take (k := k5) HFR.out hPA.out (by rw [hFA.out]; rfl) (by rw [show fr9.length = fn - 1 by omega]; exact FT3.out) RW3.out (enc_len hok.out ht.out)
      rw [show fr9.length = fn - 1 by omega, show v.fc - 1 = (v.fc - 1) by omega, HW4.out, ← hW6] at M6 K6
      have KX6 : Hid (Kp W W6 (Xw q v)) := Lib.hid ((Kp.of_below KB3.out (Xw q v)).trans K6 fun _ _ e => e)
      have nX : ¬ Xw q v X := by rintro (e | e); omega; rw [hPA.out] at e; simp [blk] at e; omega
      have nR : ¬ Xw q v R0 := by rintro (e | e); omega; rw [hPA.out] at e; simp [blk] at e; omega
      have IX6 := Lib.hid (IX3.out.kp K6 nX)
      have X6 := Lib.hid (X3.out.kp K6 nR)
      have TY6 := Lib.hid (TY3.out.kp K6 nR)
      have i0 := IX6.out.at_ 0 (by simp)
      have i1 := IX6.out.at_ 1 (by simp)
      have i2 := IX6.out.at_ 2 (by simp)
      have r0 := X6.out.at_ 0 (by simp)
      have r1 := X6.out.at_ 1 (by simp)
      have r2 := X6.out.at_ 2 (by simp)
      simp only [List.getElem?_cons_succ, List.getElem?_cons_zero] at i0 i1 i2 r0 r1 r2
      have g0 := X6.out.fz 0 (by simp)
      have g1 := X6.out.fz 1 (by simp)
      have g2 := X6.out.fz 2 (by simp)
      have PEND := fun a b c => put_end (kind := kind) (l := l) (kn := kn) (ch := x9) (a := a) (b := b) (c := c) hR0 (by omega) M.out M6 KX6.out (.inl rfl) TY6.out hkn KY.out nRA (fun g h e => by simp [blk] at e; omega) (by rw [HP.out, HK.out])
      have PEND := Lib.hid PEND
      clear K6 M6 hW6 e0 e1 e2 e3
      go_wp2_with fail
      have h0 := World.cell?_setCell_same W6 ⟨R0, 0, none⟩ (.slice y.kA kn y.kc) r0
      have h1 := World.cell?_setCell_same (W6.setCell ⟨R0, 0, none⟩ (.slice y.kA kn y.kc)) ⟨R0, 1, none⟩ (.slice none 0 0) ((World.cell?_setCell_other _ _ _ _ (by simp)).trans r1)
      have h2 := World.cell?_setCell_same ((W6.setCell ⟨R0, 0, none⟩ (.slice y.kA kn y.kc)).setCell ⟨R0, 1, none⟩ (.slice none 0 0)) ⟨R0, 2, none⟩ (.int .i64 (x9 : Int)) ((World.cell?_setCell_other _ _ _ _ (by simp)).trans ((World.cell?_setCell_other _ _ _ _ (by simp)).trans r2))
      exact bodyPost_ret (v := .agg #[.slice y.kA kn y.kc, .slice none 0 0, .int .i64 (x9 : Int)]) (by simp [results, Tryz.results98, go_sem, h0, h1, h2]) rfl (PEND.out _ _ _)
end Go.Proofs.YtpmkohnljngbhaaGreatDoor.Pg
/- Walks: slices.Grow of nothing, slices.Concat of items. -/
namespace Go.Proofs.YtpmkohnljngbhaaGreatDoor.Pg
set_option maxRecDepth 1000000
open Go.RowKit Wl

/-- A list of items in memory. -/
structure LV where
  A : Option Addr
  c : Nat
  l : List IV
def LV.v (x : LV) : Value := .slice x.A x.l.length x.c
def sumL (l : List LV) : Nat := (l.map fun x => x.l.length).sum
theorem sumL_take {l : List LV} {k : Nat} {x : LV} (h : l[k]? = some x) : sumL (l.take (k + 1)) = sumL (l.take k) + x.l.length := by
  rw [List.take_add_one, h]; simp [sumL]
theorem sumL_le (l : List LV) (k : Nat) : sumL (l.take k) ≤ sumL l := by
  have : sumL l = sumL (l.take k) + sumL (l.drop k) := by
    have e := congrArg sumL (List.take_append_drop k l)
    unfold sumL at e ⊢
    rw [← e, List.map_append, List.sum_append]
  omega
def joinL (l : List LV) : List IV := (l.map LV.l).flatten
theorem joinL_take {l : List LV} {k : Nat} {x : LV} (h : l[k]? = some x) : joinL (l.take (k + 1)) = joinL (l.take k) ++ x.l := by
  rw [List.take_add_one, h]; simp [joinL]
theorem joinL_len (l : List LV) : (joinL l).length = sumL l := by
  unfold joinL sumL
  induction l with
  | nil => rfl
  | cons x l ih => simp [ih]
set_option maxRecDepth 1000000 in
theorem Grow_nil (N : Nat) (w : World) (hN : N ≤ 100000) :
    Calls Tryz.prog 120 #[.slice none 0 0, .int .i64 (N : Int)] w fun e w' => ∃ A c, e = .returned (.slice A 0 c) ∧ Hid (w'.ownsRow w.heap.size 96 3 (.slice A 0 c) 0 []) ∧ Below w.heap.size w w' := by
  obtain ⟨i0, hi, hz0, hz1, hz2⟩ := info_parts info_item
  rcases Nat.eq_zero_or_pos N with h0 | h0
  · subst h0
    go_enter Tryz.func120, Tryz.ntmps120
    go_wp2
    go_ret
    exact ⟨none, 0, rfl, Lib.hid (World.ownsRow_nil _ _ _ _), Below.refl _ _⟩
  · have happ := Lib.run_append_nil_zeros (P := Tryz.prog) w 92 3 92 96 i0 (.agg #[.slice none 0 0, .slice none 0 0, .int .i64 0]) .i64 .i64 Tryz.underlying92 Tryz.underlying3 hi hz0 N h0 (by rw [hz1]; decide) (by omega) (by rw [hz2]; omega)
    generalize hcap : grownCap w N 0 96 = cap2 at happ
    have hcapge : N ≤ cap2 := by rw [← hcap]; exact grownCap_ge w _ 0 _
    have hcaple : cap2 ≤ maxLen := by rw [← hcap]; exact grownCap_le_maxLen w _ 0 _ (by unfold maxLen; omega)
    generalize hZ : (Builtin.zeroCells (Value.agg #[.slice none 0 0, .slice none 0 0, .int .i64 0]).cells N ++ Builtin.zeroCells (Value.agg #[.slice none 0 0, .slice none 0 0, .int .i64 0]).cells (cap2 - N)) = Z at happ
    have hZs : Z.size = cap2 * 3 := by rw [← hZ]; simp [size_zeroCells, Value.cells]; omega
    have O : Hid ((w.drew.alloc (.cells Z 96)).ownsRow w.heap.size 96 3 (.slice (some ⟨w.heap.size, 0, none⟩) 0 cap2) 0 []) := Lib.hid ⟨by simp, .inr ⟨w.heap.size, cap2, Z, rfl, Nat.le_refl _, heap_alloc_new w.drew _, by omega, hcaple, hZs, by simp⟩⟩
    have hcap63 : cap2 ≤ 9223372036854775807 := by unfold maxLen at hcaple; omega
    have HZ := Lib.hid hZ
    have HCAP := Lib.hid hcap
    clear hZ hcap hZs hcaple
    go_enter Tryz.func120, Tryz.ntmps120
    go_wp2_with (at_builtin; refine Lib.wpList_append_run _ rfl _ _ _ _ rfl _ _ rfl rfl _ _ happ ?_)
    go_ret
    exact ⟨_, cap2, rfl, O, ((Below.refl _ _).drew).alloc (Nat.le_refl _) _⟩
set_option maxRecDepth 1000000 in
set_option maxHeartbeats 1600000 in
theorem Concat_any {P n c : Nat} {L : List LV} (w : World) (hr : Hid (Rd w 1 (some ⟨P, 0, none⟩) n c (L.map LV.v))) (hd : Hid (∀ x ∈ L, Rd w 3 x.A x.l.length x.c (ic x.l))) (hs : sumL L ≤ 100000) :
    Calls Tryz.prog 96 #[.slice (some ⟨P, 0, none⟩) n c] w (Mv w 96 3 (sumL L) (ic (joinL L))) := by
  obtain ⟨i0, hi, hz0, hz1, hz2⟩ := info_parts info_item
  have hnc := hr.out.nc
  have hc63 := hr.out.c63
  have HN : Hid (n = L.length) := Lib.hid (by have := hr.out.len; rw [List.length_map] at this; omega)
  go_enter Tryz.func96, Tryz.ntmps96
  go_wp2_with fail
  go_loopw [3, 11] (fun sv iv wr => ∃ j : Nat, j ≤ n ∧ iv = .int .i64 j ∧ sv = .int .i64 (sumL (L.take j) : Nat) ∧ w = wr) (fun _ iv _ => (n - intOf iv).toNat)
  case atStart => exact ⟨0, by omega, rfl, rfl, rfl⟩
  case round =>
    obtain ⟨j, hj, rfl, rfl, rfl⟩ := hrel
    have hsl := sumL_le L j
    obtain ⟨s, hs'⟩ : ∃ s, sumL (L.take j) = s := ⟨_, rfl⟩
    rw [hs'] at hsl ⊢
    have HS := Lib.hid hs'
    clear hs'
    by_cases hlt : j < n
    · obtain ⟨g, o, x, e, hg, hx, hcell⟩ := Rd.at1 hr.out hlt
      injection e with e; injection e with e1 e2; subst e1 e2
      unfold LV.v at hcell
      rw [Nat.zero_add] at hcell
      obtain ⟨xn, hxn⟩ : ∃ xn, x.l.length = xn := ⟨_, rfl⟩
      rw [hxn] at hcell
      have HT : Hid (sumL (L.take (j + 1)) = s + xn) := Lib.hid (by rw [sumL_take hx, HS.out, hxn])
      have hT2 : s + xn ≤ 100000 := by have := sumL_le L (j + 1); rw [HT.out] at this; omega
      clear hx hxn
      go_wp2_with fail
      go_roundw
      case rel => exact ⟨j + 1, by omega, by go_num, by rw [HT.out]; go_num, by first | trivial | rfl⟩
      case measure => simp [intOf]; omega
    · obtain rfl : n = j := by omega
      have HSS : Hid (sumL L = s) := Lib.hid (by rw [← HS.out, List.take_of_length_le (by have := HN.out; omega)])
      go_wp2_with fail
      go_at_call 120
      refine (Grow_nil s _ (by omega)).mono ?_
      rintro e w1 ⟨A1, c1, rfl, own1, b1⟩
      have hr1 := Lib.hid (Rd.below hr.out b1)
      go_wp2_with fail
      go_loopw [6, 27] (fun ov iv wr => ∃ (k m : Nat) (A : Option Addr) (cc : Nat), k ≤ n ∧ iv = .int .i64 k ∧ ov = .slice A m cc ∧ Hid (m = sumL (L.take k)) ∧ Hid (wr.ownsRow w.heap.size 96 3 (.slice A m cc) m (ic (joinL (L.take k)))) ∧ Below w.heap.size w wr) (fun _ iv _ => (n - intOf iv).toNat)
      case atStart => exact ⟨0, 0, A1, c1, by omega, rfl, rfl, Lib.hid rfl, own1, b1⟩
      case round =>
        obtain ⟨k, m, A, cc, hk, rfl, rfl, hm, own, bw⟩ := hrel
        have hm1 : m ≤ 100000 := by have := hm.out; have := sumL_le L k; omega
        by_cases hlt : k < n
        · obtain ⟨g, o, x, e, hg, hx, hcell⟩ := Rd.at1 (Rd.below hr.out bw) hlt
          injection e with e; injection e with e1 e2; subst e1 e2
          unfold LV.v at hcell
          rw [Nat.zero_add] at hcell
          have hxd := Lib.hid (Rd.below (hd.out x (List.mem_of_getElem? hx)) bw)
          obtain ⟨xn, hxn⟩ : ∃ xn, x.l.length = xn := ⟨_, rfl⟩
          rw [hxn] at hcell hxd
          have HT : Hid (sumL (L.take (k + 1)) = m + xn) := Lib.hid (by rw [sumL_take hx, hm.out, hxn])
          have HJ := Lib.hid (joinL_take hx)
          have hT2 : m + xn ≤ 100000 := by have := sumL_le L (k + 1); rw [HT.out] at this; omega
          have hbw : w.heap.size ≤ wr.heap.size := bw.size
          clear hx hxn
          go_wp2_with (at_builtin; apply hold)
          unfold Hold
          refine wpList_app _ rfl (.tmp 31) (.tmp 32) 92 rfl w.heap.size 96 i0 (.agg #[.slice none 0 0, .slice none 0 0, .int .i64 0]) 3 56 Tryz.underlying92 hi hz0 hz1 hz2 rfl (by omega) (by rfl) own.out (by rfl) hxd.out (ic_one _) (by omega) (by omega) hbw ?_
          intro A5 c5 W5 own5 g5
          rw [← ic_app] at own5
          have own5 := Lib.hid own5
          have b5 : Below w.heap.size w W5 := g5.low bw hbw fun q e => (own_blk_le own.out e).1
          clear g5
          go_wp2_with fail
          go_roundw
          case rel => exact ⟨k + 1, m + xn, A5, c5, by omega, by go_num, rfl, Lib.hid HT.out.symm, by rw [HJ.out]; exact own5, b5⟩
          case measure => simp [intOf]; omega
        · obtain rfl : n = k := by omega
          have HM : Hid (m = sumL L) := Lib.hid (by rw [hm.out, List.take_of_length_le (by have := HN.out; omega)])
          have own : Hid (wr.ownsRow w.heap.size 96 3 (.slice A m cc) m (ic (joinL L))) := by have h := own.out; rw [List.take_of_length_le (by have := HN.out; omega)] at h; exact Lib.hid h
          go_wp2_with fail
          go_ret
          exact ⟨A, cc, by rw [← HM.out]; rfl, by rw [← HM.out]; exact own, bw⟩
end Go.Proofs.YtpmkohnljngbhaaGreatDoor.Pg
/- The walk of the writer's store. -/
namespace Go.Proofs.YtpmkohnljngbhaaGreatDoor.Pg
set_option maxRecDepth 1000000
open Go.RowKit Wl

theorem Rd.cutk {w : World} {n c g o k : Nat} {l : List IV} (h : Rd w 3 (some ⟨g, o, none⟩) n c (ic l)) (hk : k ≤ n) : Rd w 3 (some ⟨g, o, none⟩) k c (ic (l.take k)) := by
  have hl := len3 h
  have hnc := h.nc
  refine ⟨by rw [ic_len, List.length_take]; omega, by omega, fun e => (by cases e), h.c63, fun hp => ?_⟩
  obtain ⟨g', o', e, hb, hc⟩ := h.at_ (by omega)
  refine ⟨g', o', e, hb, fun j hj => ?_⟩
  rw [hc j (by omega), ← ic_take l k (by omega), List.getElem?_take, if_pos hj]
theorem Ir.pre {w : World} {base n c g o k : Nat} {l : List IV} (h : Ir w base (some ⟨g, o, none⟩) n c l) (hk : k ≤ n) : Ir w base (some ⟨g, o, none⟩) k c (l.take k) :=
  ⟨Rd.cutk h.row hk, fun x hx => h.dat x (List.mem_of_mem_take hx)⟩
theorem Ir.suf {w : World} {base n c g o k : Nat} {l : List IV} (h : Ir w base (some ⟨g, o, none⟩) n c l) (hk : k ≤ n) : Ir w base (some ⟨g, o + k * 3, none⟩) (n - k) (c - k) (l.drop k) := by
  have := h.cut (lo := k) (hi := n) hk (Nat.le_refl _)
  rwa [List.take_of_length_le (by rw [List.length_drop, h.len]; omega)] at this
theorem its_tk (l : List IV) (k : Nat) : its (l.take k) = (its l).take k := by simp [its, List.map_take]
theorem its_dr (l : List IV) (k : Nat) : its (l.drop k) = (its l).drop k := by simp [its, List.map_drop]
/-- What store leaves. -/
structure StR (W : World) (base q : Nat) (root : Int) (v : WV) (kind f : Nat) (A : Option Addr) (l : List IV) (s : Ws) (W' : World) (A' : Option Addr) (n' c' : Nat) (l' : List IV) (v' : WV) : Prop where
  it : its l' = (sto kind f (its l) s).1
  wm : Wm W' base q root v' (sto kind f (its l) s).2
  ir : Ir W' base A' n' c' l'
  kp : Kp W W' (Xw q v)
  nv : Nv W v v'
  ow : ((kind = 2 ∧ l.length = 1) ∧ A' = A) ∨ W'.ownsRow W.heap.size 96 3 (.slice A' n' c') n' (ic l')
def StPost (W : World) (base q : Nat) (root : Int) (v : WV) (kind f : Nat) (A : Option Addr) (l : List IV) (s : Ws) (e : Ending) (W' : World) : Prop :=
  ∃ (A' : Option Addr) (n' c' : Nat) (l' : List IV) (v' : WV), e = .returned (.slice A' n' c') ∧ Hid (StR W base q root v kind f A l s W' A' n' c' l' v')
section
variable {W w1 w2 w3 w4 : World} {base q kind f g o n c k n1 c1 n2 c2 c3 : Nat} {root : Int} {v v1 v2 : WV} {s : Ws} {l l1 l2 : List IV} {A1 A2 A3 : Option Addr}
theorem own_xw {e n c base0 : Nat} {A : Option Addr} {xs : List Value} (h : w1.ownsRow base0 96 e (.slice A n c) n xs) (m : Wm w1 base q root v s) (k : Kp w1 w2 (Xw q v)) : w2.ownsRow base0 96 e (.slice A n c) n xs := by
  refine own_kp h k fun g hg => ?_
  obtain ⟨cs, h1⟩ := own_type h hg
  rintro (rfl | e2)
  · obtain ⟨c2, h2⟩ := m.qt
    rw [h1] at h2; injection h2 with h2; injection h2 with _ h2; cases h2
  · obtain ⟨c2, h2⟩ := own_type m.own e2
    rw [h1] at h2; injection h2 with h2; injection h2 with _ h2; cases h2
/-- The second part may be stored. -/
theorem StR.next (M : Wm w1 base q root v s) (I : Ir w1 base (some ⟨g, o, none⟩) n c l) (ap : ¬ Xw q v g) (hk : k ≤ n) (hg : g < w1.heap.size) (S : StR w1 base q root v kind f (some ⟨g, o, none⟩) (l.take k) s w2 A1 n1 c1 l1 v1) :
    Ir w2 base (some ⟨g, o + k * 3, none⟩) (n - k) (c - k) (l.drop k) ∧ ¬ Xw q v1 g :=
  ⟨(I.xw M S.kp fun g' _ e => by simp [blk] at e; subst e; exact ap).suf hk, fun e => ap (S.nv.xw hg e)⟩
/-- Both parts are joined. -/
theorem StR.join (hW : Below W.heap.size W w1) (M : Wm w1 base q root v s) (hb : base ≤ W.heap.size) (hk2 : ¬ (kind = 2 ∧ (l.take k).length = 1))
    (S1 : StR w1 base q root v kind f (some ⟨g, o, none⟩) (l.take k) s w2 A1 n1 c1 l1 v1) (S2 : StR w2 base q root v1 kind f (some ⟨g, o + k * 3, none⟩) (l.drop k) (sto kind f (its (l.take k)) s).2 w3 A2 n2 c2 l2 v2) :
    w3.ownsRow W.heap.size 96 3 (.slice A1 n1 c1) n1 (ic l1) ∧ Rd w3 3 A2 n2 c2 (ic l2) ∧ n1 = l1.length ∧ n2 = l2.length ∧ W.heap.size ≤ w3.heap.size := by
  have o1 := S1.ow.resolve_left fun h => hk2 h.1
  have o2 := own_base (own_xw o1 S1.wm S2.kp) hW.size
  exact ⟨o2, S2.ir.row, S1.ir.len, S2.ir.len, Nat.le_trans hW.size (Nat.le_trans S1.kp.size S2.kp.size)⟩
theorem StR.fin (hW : Below W.heap.size W w1) (M : Wm w1 base q root v s) (hb : base ≤ W.heap.size) (hk2 : ¬ (kind = 2 ∧ (l.take k).length = 1)) (S1 : StR w1 base q root v kind f (some ⟨g, o, none⟩) (l.take k) s w2 A1 n1 c1 l1 v1) (S2 : StR w2 base q root v1 kind f (some ⟨g, o + k * 3, none⟩) (l.drop k) (sto kind f (its (l.take k)) s).2 w3 A2 n2 c2 l2 v2)
    (R : sto kind (f + 1) (its l) s = ((sto kind f (its (l.take k)) s).1 ++ (sto kind f (its (l.drop k)) (sto kind f (its (l.take k)) s).2).1, (sto kind f (its (l.drop k)) (sto kind f (its (l.take k)) s).2).2))
    (own4 : w4.ownsRow W.heap.size 96 3 (.slice A3 (n1 + n2) c3) (n1 + n2) (ic l1 ++ ic l2)) (g4 : Grew w3 A1 w4 A3) :
    StR W base q root v kind (f + 1) (some ⟨g, o, none⟩) l s w4 A3 (n1 + n2) c3 (l1 ++ l2) v2 := by
  obtain ⟨o1, r2, _, _, hz⟩ := StR.join hW M hb hk2 S1 S2
  have k4 : Kp w3 w4 (fun i => blk A1 = some i) := Kp.of_grew g4 fun _ e => e
  have ty : ∀ i, blk A1 = some i → Ty w3 i 96 := fun i e => own_type o1 e
  have nsf : ∀ i, blk A1 = some i → ¬ Sf w3 base i := fun i e => (ty i e).nsf (Nat.le_trans hb (own_blk_le o1 e).1) (by decide)
  have M4 : Wm w4 base q root v2 (sto kind f (its (l.drop k)) (sto kind f (its (l.take k)) s).2).2 := by
    refine S2.wm.kp k4 (fun e => ?_) (fun g' e' e => ?_) (fun g' h0 e' e => ?_) nsf
    · obtain ⟨a, h1⟩ := ty _ e; obtain ⟨b, h2⟩ := S2.wm.qt
      rw [h1] at h2; injection h2 with h2; injection h2 with _ h2; cases h2
    · obtain ⟨a, h1⟩ := ty _ e; obtain ⟨b, h2⟩ := own_type S2.wm.own e'
      rw [h1] at h2; injection h2 with h2; injection h2 with _ h2; cases h2
    · obtain ⟨a, h1⟩ := ty _ e; obtain ⟨b, h2⟩ := S2.wm.frt g' h0 e'
      rw [h1] at h2; injection h2 with h2; injection h2 with _ h2; cases h2
  have k13 : Kp w1 w3 (Xw q v) := S1.kp.xw S2.kp S1.nv
  have k03 : Kp W w3 (Xw q v) := (Kp.of_below hW (Xw q v)).trans k13 fun _ _ e => e
  have k04 : Kp W w4 (Xw q v) := ((k03.mono (Y := fun i => Xw q v i ∨ blk A1 = some i) fun _ _ e => .inl e).trans k4 fun i _ e => .inr e).mono fun i hi e => e.elim id fun e => by have := (own_blk_le o1 e).1; omega
  rw [← ic_app] at own4
  refine ⟨by rw [R, its_app, S1.it, S2.it], by rw [R]; exact M4, ⟨Rd.of_own own4, fun x hx => ?_⟩, k04, ?_, .inr own4⟩
  · rcases List.mem_append.1 hx with hx | hx
    · exact ((S1.ir.dat x hx).xw S1.wm S2.kp).wr (Wr.of_kp k4 nsf)
    · exact (S2.ir.dat x hx).wr (Wr.of_kp k4 nsf)
  · rcases S2.nv with h | ⟨g', h1, h2⟩
    · rcases S1.nv with h' | ⟨g', h1, h2⟩
      · exact .inl (h.trans h')
      · exact .inr ⟨g', h.trans h1, Nat.le_trans hW.size h2⟩
    · exact .inr ⟨g', h1, Nat.le_trans hW.size (Nat.le_trans S1.kp.size h2)⟩
end
theorem lim_ok {kind : Nat} {l : List IV} (h : ∀ x ∈ its l, ItOk kind x) : Lim l := fun x hx => by
  have := h x.it (its_mem hx)
  exact ⟨this.k2, this.v2⟩
theorem drop_two {l : List It} {k : Nat} {x : It} (h : l[k]? = some x) (hk : k + 1 < l.length) : ∃ y m, l.drop k = x :: y :: m := by
  obtain ⟨h1, rfl⟩ := List.getElem?_eq_some_iff.1 h
  exact ⟨l[k + 1], l.drop (k + 1 + 1), by rw [List.drop_eq_getElem_cons h1, List.drop_eq_getElem_cons hk]⟩
theorem cut_step {kind half : Nat} {l : List It} {k n : Nat} {x : It} (h : l[k]? = some x) (hk : k + 1 < l.length) : cutN kind half (l.drop k) k n = if k = 0 ∨ n + isz kind x ≤ half then cutN kind half (l.drop (k + 1)) (k + 1) (n + isz kind x) else k := by
  obtain ⟨y, m, e⟩ := drop_two h hk
  have e2 : l.drop (k + 1) = y :: m := by
    have := congrArg (List.drop 1) e
    rwa [List.drop_drop, List.drop_succ_cons, List.drop_zero] at this
  rw [e, e2]; rfl
theorem cut_stop {kind half : Nat} {l : List It} {k n : Nat} (hk : ¬ k + 1 < l.length) : cutN kind half (l.drop k) k n = k := by
  have : (l.drop k).length ≤ 1 := by rw [List.length_drop]; omega
  match hd : l.drop k, this with
  | [], _ => rfl
  | [a], _ => rfl
set_option maxRecDepth 1000000 in
set_option maxHeartbeats 12800000 in
theorem store_any {base q kind : Nat} {root : Int} (hk : kind = 1 ∨ kind = 2) : ∀ (f : Nat) (v : WV) (s : Ws) (A : Option Addr) (n c : Nat) (l : List IV) (W : World), l.length < f → Hid (Wm W base q root v s) → Hid (Ir W base A n c l) → Hid (∀ g, 0 < n → blk A = some g → ¬ Xw q v g) →
    Hid (∀ x ∈ its l, ItOk kind x) → n ≤ 100000 → base ≤ W.heap.size →
    Calls Tryz.prog 68 #[.pointer (some ⟨q, 0, none⟩), .int .i64 (kind : Int), .slice A n c] W (StPost W base q root v kind f A l s) := by
  obtain ⟨i0, hi, hz0, hz1, hz2⟩ := info_parts info_item
  intro f
  induction f with
  | zero => intro v s A n c l W h; omega
  | succ f ih =>
  intro v s A n c l W hlf M I ap ok hn hbW
  have IH := Lib.hid ih
  clear ih
  have HL := Lib.hid I.out.len
  have hnc := I.out.row.nc
  have hc63 := I.out.row.c63
  by_cases q1 : n = 0
  · subst q1
    obtain rfl : l = [] := List.eq_nil_of_length_eq_zero HL.out.symm
    have R : Hid (sto kind (f + 1) (its []) s = ([], s)) := Lib.hid (by show sto kind (f + 1) [] s = _; unfold sto; rw [if_pos rfl])
    go_enter Tryz.func68, Tryz.ntmps68
    go_wp2_with fail
    go_ret
    exact ⟨none, 0, 0, [], v, rfl, Lib.hid ⟨by rw [R.out]; rfl, by rw [R.out]; exact M.out, ⟨Rd.nil_ _ _, by simp⟩, Kp.refl _ _, .inl rfl, .inr (World.ownsRow_nil _ _ _ _)⟩⟩
  have NE : Hid (its l ≠ []) := Lib.hid fun e => by have := congrArg List.length e; rw [its_len, ← HL.out] at this; simp at this; omega
  have LM := Lib.hid (lim_ok ok.out)
  by_cases q2 : tot kind (its l) ≤ 250
  · have hn250 : n ≤ 250 := by have := tot_ge ok.out; rw [its_len, ← HL.out] at this; omega
    by_cases q3 : kind = 2 ∧ n = 1
    · obtain ⟨rfl, rfl⟩ := q3
      have R : Hid (sto 2 (f + 1) (its l) s = (its l, s)) := Lib.hid (by unfold sto; rw [if_neg NE.out, if_pos q2, if_pos ⟨rfl, by rw [its_len]; exact HL.out.symm⟩])
      go_enter Tryz.func68, Tryz.ntmps68
      go_wp2_with fail
      go_at_call 97
      refine (room_any _ (.inr rfl) (Lib.hid I.out.row) LM (by omega)).mono ?_
      rw [decide_eq_true q2]
      rintro e W1 ⟨rfl, b1⟩
      go_wp2_with fail
      go_ret
      exact ⟨A, 1, c, l, v, rfl, Lib.hid ⟨by rw [R.out], by rw [R.out]; exact M.out.low b1, I.out.below b1, Kp.of_below b1 _, .inl rfl, .inl ⟨⟨rfl, HL.out.symm⟩, rfl⟩⟩⟩
    · obtain ⟨y, hy⟩ : ∃ y, l[0]? = some y := ⟨_, List.getElem?_eq_getElem (show 0 < l.length by have := HL.out; omega)⟩
      have R : Hid (sto kind (f + 1) (its l) s = ([(putP kind (its l) s).1], (putP kind (its l) s).2)) := Lib.hid (by unfold sto; rw [if_neg NE.out, if_pos q2, if_neg (by rw [its_len, ← HL.out]; exact q3)])
      have T2 := Lib.hid q2
      clear q2
      have hkk : ((kind : Int) = 2 ∧ (n : Int) ≠ 1) ∨ (kind : Int) ≠ 2 := by omega
      go_enter Tryz.func68, Tryz.ntmps68
      go_wp2_with fail
      go_at_call 97
      refine (room_any _ hk (Lib.hid I.out.row) LM (by omega)).mono ?_
      rw [decide_eq_true T2.out]
      rintro e W1 ⟨rfl, b1⟩
      have M1 := Lib.hid (M.out.low b1)
      have I1 := Lib.hid (I.out.below b1)
      have PUT := put_any (kind := kind) (A := A) (n := n) (c := c) W1 hk M1 I1 (Lib.hid hy) ok T2 hn250 (Nat.le_trans hbW b1.size)
      have PUT := Lib.hid PUT
      have FIN : ∀ e W2, PuPost W1 base q root v s kind l e W2 → ∃ x : IV, e = .returned (.agg #[.slice x.kA x.k.length x.kc, .slice x.vA x.v.length x.vc, .int .i64 (x.ch : Int)]) ∧ Hid (StPost W base q root v kind (f + 1) A l s (.returned (.slice (some ⟨W2.heap.size, 0, none⟩) 1 1)) (W2.alloc (.cells #[.slice x.kA x.k.length x.kc, .slice x.vA x.v.length x.vc, .int .i64 (x.ch : Int)] 96))) := by
        rintro e W2 ⟨x, v', he, hx, M2, K2, N2, I2⟩
        have b2 : Below W2.heap.size W2 (W2.alloc (.cells #[.slice x.kA x.k.length x.kc, .slice x.vA x.v.length x.vc, .int .i64 (x.ch : Int)] 96)) := bal _ _
        have hz : W.heap.size ≤ W2.heap.size := Nat.le_trans b1.size K2.out.size
        have ow : (W2.alloc (.cells #[.slice x.kA x.k.length x.kc, .slice x.vA x.v.length x.vc, .int .i64 (x.ch : Int)] 96)).ownsRow W.heap.size 96 3 (.slice (some ⟨W2.heap.size, 0, none⟩) 1 1) 1 (ic [x]) :=
          own_lit W2 _ 3 #[.slice x.kA x.k.length x.kc, .slice x.vA x.v.length x.vc, .int .i64 (x.ch : Int)] 1 hz (by unfold maxLen; omega) rfl
        refine ⟨x, he, Lib.hid ⟨some ⟨W2.heap.size, 0, none⟩, 1, 1, [x], v', rfl, Lib.hid ⟨by rw [R.out]; show [x.it] = _; rw [hx], by rw [R.out]; exact M2.out.low b2, ⟨Rd.of_own ow, fun y hy => ?_⟩, (((Kp.of_below b1 (Xw q v)).trans K2.out fun _ _ e => e).below b2), ?_, .inr ow⟩⟩⟩
        · obtain rfl : y = x := by simpa using hy
          exact I2.out.wr (Wr.of_below b2 base)
        · rcases N2.out with h | ⟨g, h1, h2⟩
          · exact .inl h
          · exact .inr ⟨g, h1, Nat.le_trans b1.size h2⟩
      have FIN := Lib.hid FIN
      rcases hkk with ⟨k1, k2⟩ | k1
      · have d1 : ((n : Int) == 1) = false := by simpa using k2
        obtain rfl : kind = 2 := by omega
        go_wp2_with fail
        go_at_call 98
        refine PUT.out.mono ?_
        intro e W2 h
        obtain ⟨x, rfl, F⟩ := FIN.out e W2 h
        go_wp2_with fail
        go_ret
        exact F.out
      · have d1 : ((kind : Int) == 2) = false := by simpa using k1
        go_wp2_with fail
        go_at_call 98
        refine PUT.out.mono ?_
        intro e W2 h
        obtain ⟨x, rfl, F⟩ := FIN.out e W2 h
        go_wp2_with fail
        go_ret
        exact F.out
  · have hn2 : 2 ≤ n := by
      rcases Nat.lt_or_ge n 2 with h | h
      · exfalso
        obtain ⟨x, hx⟩ := List.length_eq_one_iff.1 (show l.length = 1 by have := HL.out; omega)
        subst hx
        have h1 := isz_le (ok.out x.it (by simp [its]))
        have e : tot kind (its [x]) = isz kind x.it := by simp [its, tot]
        rw [e] at q2; omega
      · exact h
    obtain ⟨g, o, hA, hg, _⟩ := I.out.row.at_ (show 0 < n by omega)
    subst hA
    obtain ⟨T, hT⟩ : ∃ T, tot kind (its l) = T := ⟨_, rfl⟩
    obtain ⟨K, hK⟩ : ∃ K, cut kind (its l) = K := ⟨_, rfl⟩
    have hK1 : 1 ≤ K := by rw [← hK]; exact cut_pos (by rw [its_len, ← HL.out]; exact hn2)
    have hKn : K < n := by have := cut_lt (kind := kind) (l := its l) (by rw [its_len, ← HL.out]; exact hn2); rw [hK, its_len, ← HL.out] at this; exact this
    have hK2 : Hid (kind = 2 → 2 ≤ K) := Lib.hid fun h => by subst h; rw [← hK]; exact cut_two ok.out (by omega)
    have R : Hid (sto kind (f + 1) (its l) s = ((sto kind f (its (l.take K)) s).1 ++ (sto kind f (its (l.drop K)) (sto kind f (its (l.take K)) s).2).1, (sto kind f (its (l.drop K)) (sto kind f (its (l.take K)) s).2).2)) := Lib.hid (by
      rw [its_tk, its_dr, ← hK]
      conv => lhs; unfold sto
      rw [if_neg NE.out, if_neg q2])
    have Q2 := Lib.hid q2
    have HT := Lib.hid hT
    obtain ⟨H, hH⟩ : ∃ H, T / 2 = H := ⟨_, rfl⟩
    have HK : Hid (cutN kind H (its l) 0 0 = K) := Lib.hid (by rw [← hK, ← hH, ← hT]; rfl)
    have hq1 : (T : Int).tdiv 2 = (H : Int) := by rw [Int.tdiv_eq_ediv_of_nonneg (by omega)]; omega
    have hq2 : (T : Int) / 2 = (H : Int) := by omega
    have hTn : T ≤ 162 * n := by rw [← hT]; have := tot_le (kind := kind) LM.out n; rwa [List.take_of_length_le (by have := HL.out; omega)] at this
    clear q2 hT hK hH
    go_enter Tryz.func68, Tryz.ntmps68
    go_wp2_with fail
    go_at_call 97
    refine (room_any _ hk (Lib.hid I.out.row) LM (by omega)).mono ?_
    rw [decide_eq_false Q2.out]
    rintro e W1 ⟨rfl, b1⟩
    go_wp2_with fail
    go_loopw [7, 33] (fun sv iv wr => ∃ k : Nat, k ≤ n ∧ iv = .int .i64 k ∧ sv = .int .i64 (tot kind (its (l.take k)) : Nat) ∧ Below W.heap.size W wr) (fun _ iv _ => (n - intOf iv).toNat)
    case atStart => exact ⟨0, by omega, rfl, rfl, b1⟩
    case round =>
      obtain ⟨k, hkn, rfl, rfl, bw⟩ := hrel
      have ht := tot_le (kind := kind) LM.out k
      obtain ⟨sm, hs⟩ : ∃ sm, tot kind (its (l.take k)) = sm := ⟨_, rfl⟩
      rw [hs] at ht ⊢
      by_cases hlt : k < n
      · obtain ⟨g', o', x, e', hg', hx, c0, c1, c2⟩ := Rd.item (Rd.below I.out.row bw) hlt
        injection e' with e'; injection e' with e1 e2; subst e1 e2
        obtain ⟨h1, h2⟩ := LM.out x (List.mem_of_getElem? hx)
        have HTK : Hid (tot kind (its (l.take (k + 1))) = sm + isz kind x.it) := by rw [tot_take hx, hs]; exact Lib.hid rfl
        have hi5 : isz kind x.it ≤ 162 := by unfold isz; split <;> simp only [IV.it] <;> omega
        obtain ⟨z, hz⟩ : ∃ z, isz kind x.it = z := ⟨_, rfl⟩
        have HZ := Lib.hid hz
        rw [hz] at HTK hi5
        clear hs hx hz
        simp only [IV.kv, IV.vv] at c0 c1 c2
        have bx := bel_alloc bw (Nat.le_refl _) (.cells #[.slice x.kA x.k.length x.kc, .slice x.vA x.v.length x.vc, .int .i64 (x.ch : Int)] 96)
        go_wp2_with fail
        go_at_call 99
        refine (size_any kind x _ hk h1 h2).mono ?_
        rw [HZ.out]
        rintro e w1 ⟨rfl, b1⟩
        have bw1 := bx.trans (b1.mono bx.size)
        go_wp2_with fail
        go_roundw
        case rel => exact ⟨k + 1, by omega, by go_num, by rw [HTK.out]; go_num, bw1⟩
        case measure => simp [intOf]; omega
      · obtain rfl : n = k := by omega
        have HS : Hid (sm = T) := Lib.hid (by rw [← hs, ← HT.out, List.take_of_length_le (by have := HL.out; omega)])
        obtain rfl : sm = T := HS.out
        clear hs HS
        go_upto_block 2 with fail
        go_cut [10, 11] from 43 (fun kv nv wx => kv = .int .i64 (K : Int) ∧ Below W.heap.size W wx)
        case first =>
          go_wp2_with fail
          go_loopw [10, 11] (fun kv nv wr => ∃ k : Nat, k < n ∧ kv = .int .i64 k ∧ nv = .int .i64 (tot kind (its (l.take k)) : Nat) ∧ Below W.heap.size W wr ∧ Hid (cutN kind H ((its l).drop k) k (tot kind (its (l.take k))) = K)) (fun kv _ _ => (n - intOf kv).toNat)
          case atStart => exact ⟨0, by omega, rfl, rfl, bw, HK⟩
          case round =>
            obtain ⟨k, hkn2, rfl, rfl, bw2, hcut⟩ := hrel
            have ht := tot_le (kind := kind) LM.out k
            obtain ⟨sm, hs⟩ : ∃ sm, tot kind (its (l.take k)) = sm := ⟨_, rfl⟩
            rw [hs] at ht hcut ⊢
            by_cases hlt2 : k + 1 < n
            · obtain ⟨g', o', x, e', hg', hx, c0, c1, c2⟩ := Rd.item (Rd.below I.out.row bw2) (show k < n by omega)
              injection e' with e'; injection e' with e1 e2; subst e1 e2
              obtain ⟨h1, h2⟩ := LM.out x (List.mem_of_getElem? hx)
              have HTK : Hid (tot kind (its (l.take (k + 1))) = sm + isz kind x.it) := by rw [tot_take hx, hs]; exact Lib.hid rfl
              have HXI : (its l)[k]? = some x.it := by unfold its; rw [List.getElem?_map, hx]; rfl
              have CS := cut_step (kind := kind) (half := H) (n := sm) HXI (by rw [its_len, ← HL.out]; exact hlt2)
              rw [hcut.out] at CS
              have CS := Lib.hid CS
              have hi5 : isz kind x.it ≤ 162 := by unfold isz; split <;> simp only [IV.it] <;> omega
              obtain ⟨z, hz⟩ : ∃ z, isz kind x.it = z := ⟨_, rfl⟩
              have HZ := Lib.hid hz
              have HX := Lib.hid hx
              rw [hz] at HTK hi5 CS
              clear hs hx hz HXI
              simp only [IV.kv, IV.vv] at c0 c1 c2
              have dl : decide ((k : Int) < (n : Int) - 1) = true := decide_eq_true (by omega)
              rcases Nat.eq_zero_or_pos k with h0 | h0
              · subst h0
                rw [Nat.zero_mul, Nat.add_zero] at c0 c1 c2
                have hcut2 : Hid (cutN kind H ((its l).drop (0 + 1)) (0 + 1) (tot kind (its (l.take (0 + 1)))) = K) := Lib.hid (by rw [HTK.out]; have := CS.out; rw [if_pos (.inl rfl)] at this; exact this.symm)
                go_wp2_with fail
                go_at_call 99
                refine (size_any kind x _ hk h1 h2).mono ?_
                rw [HZ.out]
                rintro e w1 ⟨rfl, b1⟩
                have bw3 := bw2.trans (b1.mono bw2.size)
                go_wp2_with fail
                go_roundw
                case rel => exact ⟨0 + 1, by omega, by go_num, by rw [HTK.out]; go_num, bw3, hcut2⟩
                case measure => simp [intOf]; omega
              · have d0 : ((k : Int) == 0) = false := by simp; omega
                have hk0 : ¬ k = 0 := by omega
                by_cases hc : sm + z ≤ H
                · have hcut2 : Hid (cutN kind H ((its l).drop (k + 1)) (k + 1) (tot kind (its (l.take (k + 1)))) = K) := Lib.hid (by rw [HTK.out]; have := CS.out; rw [if_pos (.inr hc)] at this; exact this.symm)
                  have dc : decide ((sm : Int) + (z : Int) ≤ (H : Int)) = true := decide_eq_true (by omega)
                  go_wp2_with fail
                  go_at_call 99
                  refine (size_any kind x _ hk h1 h2).mono ?_
                  rw [HZ.out]
                  rintro e w1 ⟨rfl, b1⟩
                  have bw3 := bw2.trans (b1.mono bw2.size)
                  obtain ⟨g', o', x', e', _, hx', d0', d1', d2'⟩ := Rd.item (Rd.below I.out.row bw3) (show k < n by omega)
                  injection e' with e'; injection e' with e1 e2; subst e1 e2
                  obtain rfl : x = x' := by have := HX.out; rw [this] at hx'; injection hx'
                  clear hx'
                  simp only [IV.kv, IV.vv] at d0' d1' d2'
                  go_wp2_with fail
                  go_at_call 99
                  refine (size_any kind x _ hk h1 h2).mono ?_
                  rw [HZ.out]
                  rintro e w2 ⟨rfl, b2⟩
                  have bw4 := bw3.trans (b2.mono bw3.size)
                  go_wp2_with fail
                  go_roundw
                  case rel => exact ⟨k + 1, by omega, by go_num, by rw [HTK.out]; go_num, bw4, hcut2⟩
                  case measure => simp [intOf]; omega
                · have HKK : Hid (k = K) := Lib.hid (by have := CS.out; rw [if_neg (by omega)] at this; exact this.symm)
                  have dc : decide ((sm : Int) + (z : Int) ≤ (H : Int)) = false := decide_eq_false (by omega)
                  go_wp2_with fail
                  go_at_call 99
                  refine (size_any kind x _ hk h1 h2).mono ?_
                  rw [HZ.out]
                  rintro e w1 ⟨rfl, b1⟩
                  have bw3 := bw2.trans (b1.mono bw2.size)
                  go_wp2_with fail
                  go_meet
                  exact ⟨by rw [HKK.out], bw3⟩
            · have HKK : Hid (k = K) := Lib.hid (by have := hcut.out; rw [cut_stop (by rw [its_len, ← HL.out]; omega)] at this; exact this)
              have dl : decide ((k : Int) < (n : Int) - 1) = false := decide_eq_false (by omega)
              clear hlt2
              go_wp2_with fail
              go_meet
              exact ⟨by rw [HKK.out], bw2⟩
        case rest =>
        obtain ⟨rfl, bwc⟩ := hcut
        go_wp2_with fail
        have Bd : Below W.heap.size W wc.drew := bwc.drew
        have Md := Lib.hid (M.out.low Bd)
        have Id := Lib.hid (I.out.below Bd)
        have gd : g < wc.drew.heap.size := Nat.lt_of_lt_of_le hg Bd.size
        have apg : ¬ Xw q v g := ap.out g (by omega) rfl
        have hkl : (l.take K).length = K := by rw [List.length_take]; have := HL.out; omega
        have nk2 : ¬ (kind = 2 ∧ (l.take K).length = 1) := fun h => by have := hK2.out h.1; omega
        have bWd : base ≤ wc.drew.heap.size := Nat.le_trans hbW Bd.size
        have C1 := Lib.hid (IH.out v s (some ⟨g, o, none⟩) K c (l.take K) wc.drew (by rw [hkl]; have := HL.out; omega) Md (Lib.hid (Id.out.pre (by omega))) (Lib.hid fun g' _ e => by simp [blk] at e; subst e; exact apg) (Lib.hid fun x hx => ok.out x (by rw [its_tk] at hx; exact List.mem_of_mem_take hx)) (by omega) bWd)
        have C2 : Hid (∀ (w2 : World) (A1 : Option Addr) (n1 c1 : Nat) (l1 : List IV) (v1 : WV), StR wc.drew base q root v kind f (some ⟨g, o, none⟩) (l.take K) s w2 A1 n1 c1 l1 v1 → Calls Tryz.prog 68 #[.pointer (some ⟨q, 0, none⟩), .int .i64 (kind : Int), .slice (some ⟨g, o + K * 3, none⟩) (n - K) (c - K)] w2 (StPost w2 base q root v1 kind f (some ⟨g, o + K * 3, none⟩) (l.drop K) (sto kind f (its (l.take K)) s).2)) := Lib.hid fun w2 A1 n1 c1 l1 v1 S1 => by
          obtain ⟨i2, x2⟩ := S1.next Md.out Id.out apg (by omega) gd
          exact IH.out v1 _ (some ⟨g, o + K * 3, none⟩) (n - K) (c - K) (l.drop K) w2 (by rw [List.length_drop]; have := HL.out; omega) (Lib.hid S1.wm) (Lib.hid i2) (Lib.hid fun g' _ e => by simp [blk] at e; subst e; exact x2) (Lib.hid fun x hx => ok.out x (by rw [its_dr] at hx; exact List.mem_of_mem_drop hx)) (by omega) (Nat.le_trans bWd S1.kp.size)
        have C3 : Hid (∀ (w2 w3 : World) (A1 A2 : Option Addr) (n1 c1 n2 c2 : Nat) (l1 l2 : List IV) (v1 v2 : WV), StR wc.drew base q root v kind f (some ⟨g, o, none⟩) (l.take K) s w2 A1 n1 c1 l1 v1 → StR w2 base q root v1 kind f (some ⟨g, o + K * 3, none⟩) (l.drop K) (sto kind f (its (l.take K)) s).2 w3 A2 n2 c2 l2 v2 →
            Hid (w3.ownsRow W.heap.size 96 3 (.slice A1 n1 c1) n1 (ic l1)) ∧ Hid (Rd w3 3 A2 n2 c2 (ic l2)) ∧ n1 + n2 ≤ 200000 ∧ W.heap.size ≤ w3.heap.size ∧
            Hid (∀ (A3 : Option Addr) (c3 : Nat) (w4 : World), w4.ownsRow W.heap.size 96 3 (.slice A3 (n1 + n2) c3) (n1 + n2) (ic l1 ++ ic l2) → Grew w3 A1 w4 A3 → StR W base q root v kind (f + 1) (some ⟨g, o, none⟩) l s w4 A3 (n1 + n2) c3 (l1 ++ l2) v2)) := Lib.hid fun w2 w3 A1 A2 n1 c1 n2 c2 l1 l2 v1 v2 S1 S2 => by
          obtain ⟨a1, a2, a3, a4, a5⟩ := StR.join Bd Md.out hbW nk2 S1 S2
          refine ⟨Lib.hid a1, Lib.hid a2, ?_, a5, Lib.hid fun A3 c3 w4 own4 g4 => StR.fin Bd Md.out hbW nk2 S1 S2 R.out own4 g4⟩
          have b1 := (sto_len (kind := kind) (f := f) (s := s) (l := its (l.take K)) fun x hx => ok.out x (by rw [its_tk] at hx; exact List.mem_of_mem_take hx)).1
          have b2 := (sto_len (kind := kind) (f := f) (s := (sto kind f (its (l.take K)) s).2) (l := its (l.drop K)) fun x hx => ok.out x (by rw [its_dr] at hx; exact List.mem_of_mem_drop hx)).1
          rw [← S1.it, its_len, its_len, List.length_take] at b1
          rw [← S2.it, its_len, its_len, List.length_drop] at b2
          have := HL.out
          omega
        have hcK : ¬ c = K := by omega
        have s1 : (0 : Int) ≤ (K : Int) := by omega
        have s2 : (K : Int) ≤ (c : Int) := by omega
        have s3 : (K : Int) ≤ (n : Int) := by omega
        have s4 : (n : Int) ≤ (c : Int) := by omega
        clear hq1 hq2 ht
        go_region_held3 (fun w' => True) (trivial)
          (first
            | (go_at_call_of 68 (Value.slice (some ⟨g, o, none⟩) K c); refine C1.out.mono ?_; rintro e w2 ⟨A1, n1, c1, l1, v1, rfl, S1⟩)
            | (go_at_call_of 68 (Value.slice (some ⟨g, o + K * 3, none⟩) (n - K) (c - K)); refine (C2.out _ _ _ _ _ _ S1.out).mono ?_; rintro e w3 ⟨A2, n2, c2, l2, v2, rfl, S2⟩; obtain ⟨j1, j2, j3, j4, j5⟩ := C3.out _ _ _ _ _ _ _ _ _ _ _ _ S1.out S2.out)
            | (refine step_app _ (by rfl) (.tmp 80) (.tmp 86) 92 (by rfl) W.heap.size 96 i0 (.agg #[.slice none 0 0, .slice none 0 0, .int .i64 0]) 3 56 Tryz.underlying92 hi hz0 hz1 hz2 rfl (by omega) (by rfl) j1.out (by rfl) j2.out (ic_one _) (by omega) (by omega) j4 ?_; intro A3 c3 w4 own4 g4; have F4 := j5.out _ _ _ own4 g4; clear own4 g4))
        all_goals
          go_wp2_with fail
          go_ret
          exact ⟨A3, _, c3, _, v2, rfl, Lib.hid F4⟩
end Go.Proofs.YtpmkohnljngbhaaGreatDoor.Pg
