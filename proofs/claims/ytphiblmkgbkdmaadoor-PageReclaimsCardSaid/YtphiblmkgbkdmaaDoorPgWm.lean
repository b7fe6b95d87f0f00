/- A writer in memory. -/
import Derived.Test.YtphiblmkgbkdmaaDoorPgW9
import Derived.Test.YtphiblmkgbkdmaaDoorPgP
namespace Go.Proofs.YtphiblmkgbkdmaaDoor.Pg
set_option linter.unusedVariables false
set_option linter.unusedSimpArgs false
open Go.RowKit Wl

def nv (l : List Nat) : List Value := l.map fun (x : Nat) => .int .i64 (x : Int)
theorem nv_len (l : List Nat) : (nv l).length = l.length := by simp [nv]
/-- A block of cells of a type. -/
def Ty (W : World) (p T : Nat) : Prop := ∃ cs, W.heap[p]? = some (.cells cs T (0, 0))
section
variable {W W' : World} {p T : Nat} {X : Nat → Prop}
theorem Ty.lt (h : Ty W p T) : p < W.heap.size := by obtain ⟨cs, e⟩ := h; exact (Array.getElem?_eq_some_iff.1 e).1
theorem Ty.kp (h : Ty W p T) (k : Kp W W' X) (hX : ¬ X p) : Ty W' p T := by obtain ⟨cs, e⟩ := h; exact ⟨cs, (k.block p (Array.getElem?_eq_some_iff.1 e).1 hX).trans e⟩
theorem Ty.step (h : Ty W p T) (k : Below W.heap.size W W') : Ty W' p T := h.kp (Kp.of_below k fun _ => False) fun e => e
theorem Ty.set (h : Ty W p T) (b o : Nat) (v : Value) : Ty (W.setCell ⟨b, o, none⟩ v) p T := by
  obtain ⟨cs, e⟩ := h
  by_cases hp : b = p
  · subst hp
    refine ⟨cs.setIfInBounds o v, ?_⟩
    unfold World.setCell
    rw [Array.getElem?_modify]
    simp only [if_pos, e, Option.map_some, Option.isSome_none, Bool.false_eq_true, if_false]
  · exact ⟨cs, (Below.heap_setCell W ⟨b, o, none⟩ v p fun e => hp e.symm).trans e⟩
theorem Ty.new (w : World) (cs : Array Value) (T : TypeId) : Ty (w.alloc (.cells cs T)) w.heap.size T := ⟨cs, by rw [heap_alloc_new]⟩
theorem Ty.nsf (h : Ty W p T) {base : Nat} (hb : base ≤ p) (hT : T ≠ 5) : ¬ Sf W base p := by
  rintro (hs | ⟨cs, hs⟩)
  · omega
  · obtain ⟨c2, e⟩ := h
    rw [e] at hs; injection hs with hs; injection hs with _ hs; exact hT hs
end
/-- A writer's memory. -/
structure WV where
  PA : Option Addr
  pc : Nat
  ps : List PV
  FA : Option Addr
  fc : Nat
structure Wm (W : World) (base q : Nat) (root : Int) (v : WV) (s : Ws) : Prop where
  gl : Gl W
  b3 : 3 ≤ base
  q1 : base ≤ q
  bx : Bx W q [.slice v.PA v.ps.length v.pc, .int .i64 root, .slice v.FA s.fr.length v.fc, .bool s.full]
  qt : ∃ cs, W.heap[q]? = some (.cells cs 104 (0, 0))
  own : W.ownsRow base 22 1 (.slice v.PA v.ps.length v.pc) v.ps.length (pv v.ps)
  pgs : v.ps.map PV.d = s.pg
  dat : ∀ x ∈ v.ps, By W base x.A x.c x.d
  p256 : ∀ x ∈ v.ps, x.d.length = 256
  dty : ∀ x ∈ v.ps, ∀ g, blk x.A = some g → Ty W g 5
  fr : Rd W 1 v.FA s.fr.length v.fc (nv s.fr)
  frb : ∀ g, 0 < s.fr.length → blk v.FA = some g → g ≠ q ∧ blk v.PA ≠ some g
  frt : ∀ g, 0 < s.fr.length → blk v.FA = some g → Ty W g 3
  frl : ∀ x ∈ s.fr, x < v.ps.length
  apq : blk v.PA ≠ some q
  n4 : s.pg.length ≤ 4096
/-- What a writer's step may write. -/
def Xw (q : Nat) (v : WV) (i : Nat) : Prop := i = q ∨ blk v.PA = some i
section
variable {W W' : World} {base q : Nat} {root : Int} {v v' : WV} {s s' : Ws}
theorem Wm.low (h : Wm W base q root v s) (hb : Below W.heap.size W W') : Wm W' base q root v s :=
  ⟨h.gl.below hb, h.b3, h.q1, h.bx.step hb, by obtain ⟨cs, e⟩ := h.qt; exact ⟨cs, (hb.block q h.bx.lt).trans e⟩, own_below h.own hb, h.pgs, fun x hx => (h.dat x hx).wr (Wr.of_below hb _), h.p256, fun x hx g e => (h.dty x hx g e).step hb, h.fr.below hb, h.frb, fun g a e => (h.frt g a e).step hb, h.frl, h.apq, h.n4⟩
theorem own_type {e n c g : Nat} {A : Option Addr} {xs : List Value} {size : Nat} (h : W.ownsRow base e size (.slice A n c) n xs) (hg : blk A = some g) : ∃ cs, W.heap[g]? = some (.cells cs e (0, 0)) := by
  rcases h.2 with ⟨h1, _⟩ | ⟨g', cap, cu, h1, _, h2, _⟩
  · injection h1 with h1; subst h1; simp [blk] at hg
  · injection h1 with h1; subst h1
    simp [blk] at hg; subst hg
    exact ⟨cu, h2⟩
theorem Wm.nsf (h : Wm W base q root v s) : ∀ i, Xw q v i → ¬ Sf W base i := by
  rintro i (rfl | hi) (hs | ⟨cs, hs⟩)
  · have := h.q1; omega
  · obtain ⟨c2, e⟩ := h.qt
    rw [e] at hs; injection hs with hs; injection hs with _ hs; cases hs
  · have := (own_blk_le h.own hi).1; omega
  · obtain ⟨c2, e⟩ := own_type h.own hi
    rw [e] at hs; injection hs with hs; injection hs with _ hs; cases hs
/-- The new row of pages is the old one, or new. -/
def Nv (W : World) (v v' : WV) : Prop := Nw W v.PA v'.PA
theorem Nv.xw {i : Nat} (h : Nv W v v') (hi : i < W.heap.size) (h' : Xw q v' i) : Xw q v i := by
  rcases h' with h' | h'
  · exact .inl h'
  · rcases h with h | ⟨g, h1, h2⟩
    · exact .inr (h ▸ h')
    · rw [h1] at h'; injection h' with h'; omega
theorem Kp.xw {W2 : World} (h : Kp W W' (Xw q v)) (k : Kp W' W2 (Xw q v')) (hn : Nv W v v') : Kp W W2 (Xw q v) := h.trans k fun i hi e => hn.xw hi e
theorem Iy.xw {x : IV} (h : Iy W base x) (m : Wm W base q root v s) (k : Kp W W' (Xw q v)) : Iy W' base x := h.wr (Wr.of_kp k m.nsf)
theorem Ir.xw {A : Option Addr} {n c : Nat} {l : List IV} (h : Ir W base A n c l) (m : Wm W base q root v s) (k : Kp W W' (Xw q v)) (hA : ∀ g, 0 < n → blk A = some g → ¬ Xw q v g) : Ir W' base A n c l := h.kp k hA m.nsf
end
theorem own_put {w : World} {base e n c g j : Nat} {xs : List Value} (h : w.ownsRow base e 1 (.slice (some ⟨g, 0, none⟩) n c) n xs) (hj : j < n) (v : Value) : (w.setCell ⟨g, j, none⟩ v).ownsRow base e 1 (.slice (some ⟨g, 0, none⟩) n c) n (xs.set j v) := by
  obtain ⟨h0, h1⟩ := h
  refine ⟨by simpa using h0, .inr ?_⟩
  rcases h1 with ⟨h1, _⟩ | ⟨g', cap, cu, h1, h2, h3, h4, h5, h6, h7⟩
  · injection h1 with h1; cases h1
  · injection h1 with h1 _ hc
    injection h1 with h1
    injection h1 with h1
    subst h1 hc
    refine ⟨g, c, cu.setIfInBounds j v, rfl, h2, ?_, h4, h5, by simpa using h6, ?_⟩
    · unfold World.setCell
      rw [Array.getElem?_modify]
      simp only [if_pos, h3, Option.map_some, Option.isSome_none, Bool.false_eq_true, if_false]
    · rw [Array.toList_setIfInBounds, List.take_set, h7]
theorem own_cell {w : World} {base e n c g j : Nat} {xs : List Value} (h : w.ownsRow base e 1 (.slice (some ⟨g, 0, none⟩) n c) n xs) (hj : j < n) : w.cell? ⟨g, j, none⟩ = xs[j]? ∧ w.frozen? ⟨g, j, none⟩ = false := by
  have hr := Rd.of_own h
  obtain ⟨g', o, e1, _, hc⟩ := hr.at_ (by omega)
  injection e1 with e1; injection e1 with e1 e2; subst e1 e2
  refine ⟨by have := hc j (by omega); rwa [Nat.zero_add] at this, ?_⟩
  obtain ⟨cs, hb⟩ := own_type h rfl
  unfold World.frozen?
  simp [hb]
section
variable {W W' : World} {base q : Nat} {root : Int} {v v' : WV} {s s' : Ws} {X : Nat → Prop}
theorem Wm.kp (h : Wm W base q root v s) (k : Kp W W' X) (h1 : ¬ X q) (h2 : ∀ g, blk v.PA = some g → ¬ X g) (h3 : ∀ g, 0 < s.fr.length → blk v.FA = some g → ¬ X g) (h4 : ∀ i, X i → ¬ Sf W base i) : Wm W' base q root v s := by
  have g1 : ¬ X 1 := fun e => h4 1 e (.inl (by have := h.b3; omega))
  have g2 : ¬ X 2 := fun e => h4 2 e (.inl (by have := h.b3; omega))
  have hz := h.gl.sz
  refine ⟨⟨Nat.le_trans hz k.size, fun i hi => by rw [World.cell?_of_block (k.block 1 (by omega) g1)]; exact h.gl.first i hi, fun i hi => by rw [World.cell?_of_block (k.block 2 (by omega) g2)]; exact h.gl.acc i hi⟩, h.b3, h.q1, h.bx.kp k h1, ?_, own_kp h.own k h2, h.pgs, fun x hx => (h.dat x hx).wr (Wr.of_kp k h4), h.p256, fun x hx g e => (h.dty x hx g e).kp k fun e' => h4 g e' (.inr (h.dty x hx g e)), Rd.kp h.fr k h3, h.frb, fun g a e => (h.frt g a e).kp k (h3 g a e), h.frl, h.apq, h.n4⟩
  obtain ⟨cs, e⟩ := h.qt
  exact ⟨cs, (k.block q h.bx.lt h1).trans e⟩
theorem Row.by_ {P base : Nat} {d : List UInt8} (h : Row W P d) (hd : d.length = 256) : By W base (some ⟨P, 0, none⟩) 256 d :=
  ⟨by have := h.rd hd.symm (by omega); rw [hd]; exact this, fun g _ e => by simp [blk] at e; subst e; exact .inr ⟨_, h.h⟩⟩
/-- A page is written into the first free place. -/
theorem Wm.take (M : Wm W base q root v s) {x : Nat} {fr9 : List Nat} (hfr : s.fr = x :: fr9) {gp gf of' P k : Nat} (hPA : v.PA = some ⟨gp, 0, none⟩) (hFA : blk v.FA = some gf) (FT : Rd W 1 (some ⟨gf, of', none⟩) fr9.length (v.fc - 1) (nv fr9))
    {d : List UInt8} (row : Row W P d) (hd : d.length = 256) :
    Wm (((W.setCell ⟨q, 2, none⟩ (.slice (some ⟨gf, of', none⟩) fr9.length (v.fc - 1))).drewN k).setCell ⟨gp, x, none⟩ (.slice (some ⟨P, 0, none⟩) 256 256)) base q root ⟨v.PA, v.pc, v.ps.set x ⟨some ⟨P, 0, none⟩, 256, d⟩, some ⟨gf, of', none⟩, v.fc - 1⟩ ⟨s.pg.set x d, fr9, s.full⟩ ∧
      Kp W (((W.setCell ⟨q, 2, none⟩ (.slice (some ⟨gf, of', none⟩) fr9.length (v.fc - 1))).drewN k).setCell ⟨gp, x, none⟩ (.slice (some ⟨P, 0, none⟩) 256 256)) (Xw q v) := by
  have hx := M.frl x (by rw [hfr]; simp)
  have hgq : gp ≠ q := fun e => M.apq (by rw [hPA]; simp [blk, e])
  obtain ⟨nf1, nf2⟩ := M.frb gf (by rw [hfr]; simp) hFA
  have hgf : gp ≠ gf := fun e => nf2 (by rw [hPA]; simp [blk, e])
  have k1 : Kp W (W.setCell ⟨q, 2, none⟩ (.slice (some ⟨gf, of', none⟩) fr9.length (v.fc - 1))) (· = q) := Kp.of_set W ⟨q, 2, none⟩ _ rfl
  have k2 : Kp W ((W.setCell ⟨q, 2, none⟩ (.slice (some ⟨gf, of', none⟩) fr9.length (v.fc - 1))).drewN k) (· = q) := k1.trans (Kp.drewN _ k fun _ => False) fun _ _ e => e.elim
  have k3 : Kp ((W.setCell ⟨q, 2, none⟩ (.slice (some ⟨gf, of', none⟩) fr9.length (v.fc - 1))).drewN k) (((W.setCell ⟨q, 2, none⟩ (.slice (some ⟨gf, of', none⟩) fr9.length (v.fc - 1))).drewN k).setCell ⟨gp, x, none⟩ (.slice (some ⟨P, 0, none⟩) 256 256)) (· = gp) := Kp.of_set _ ⟨gp, x, none⟩ _ rfl
  have kx : Kp W (((W.setCell ⟨q, 2, none⟩ (.slice (some ⟨gf, of', none⟩) fr9.length (v.fc - 1))).drewN k).setCell ⟨gp, x, none⟩ (.slice (some ⟨P, 0, none⟩) 256 256)) (Xw q v) :=
    (k2.mono fun i _ e => .inl e).trans (Y := (· = gp)) k3 fun i _ e => .inr (by rw [hPA, e]; rfl)
  have hP1 : P ≠ q := fun e => by obtain ⟨cs, h2⟩ := M.qt; have := row.h; rw [e, h2] at this; injection this with this; injection this with _ this; cases this
  have hP2 : P ≠ gp := fun e => by obtain ⟨cs, h2⟩ := own_type M.own (show blk v.PA = some gp by rw [hPA]; rfl); have := row.h; rw [e, h2] at this; injection this with this; injection this with _ this; cases this
  have OW := M.own
  rw [hPA] at OW
  have own2 := own_put (own_drewN (own_set OW ⟨q, 2, none⟩ (.slice (some ⟨gf, of', none⟩) fr9.length (v.fc - 1)) (by simp [blk]; exact hgq)) k) hx (.slice (some ⟨P, 0, none⟩) 256 256)
  have g1 : ¬ Xw q v 1 := fun e => M.nsf 1 e (.inl (by have := M.b3; omega))
  have g2 : ¬ Xw q v 2 := fun e => M.nsf 2 e (.inl (by have := M.b3; omega))
  have hz := M.gl.sz
  have rowk := row.kp kx (by rintro (e | e); exact hP1 e; rw [hPA] at e; simp [blk] at e; exact hP2 e.symm)
  refine ⟨⟨⟨Nat.le_trans hz kx.size, fun i hi => by rw [World.cell?_of_block (kx.block 1 (by omega) g1)]; exact M.gl.first i hi, fun i hi => by rw [World.cell?_of_block (kx.block 2 (by omega) g2)]; exact M.gl.acc i hi⟩, M.b3, M.q1, ?_, ?_, ?_, ?_, ?_, ?_, ?_, ?_, ?_, ?_, ?_, M.apq, by simpa using M.n4⟩, kx⟩
  · have b1 := (M.bx.set (j := 2) (by simp) (.slice (some ⟨gf, of', none⟩) fr9.length (v.fc - 1))).drewN k
    have b2 := b1.kp k3 (fun e => hgq e.symm)
    simpa using b2
  · exact Ty.set (Ty.step (Ty.set (show Ty W q 104 from M.qt) q 2 (.slice (some ⟨gf, of', none⟩) fr9.length (v.fc - 1))) (bdrewN (n := k) (Below.refl _ _))) gp x (.slice (some ⟨P, 0, none⟩) 256 256)
  · simp only [List.length_set]
    rw [hPA]
    have e : pv (v.ps.set x ⟨some ⟨P, 0, none⟩, 256, d⟩) = (pv v.ps).set x (.slice (some ⟨P, 0, none⟩) 256 256) := by
      simp [pv, List.map_set, PV.v, hd]
    rw [e]
    exact own2
  · rw [List.map_set, M.pgs]
  · intro y hy
    rcases List.mem_or_eq_of_mem_set hy with hy | rfl
    · exact (M.dat y hy).wr (Wr.of_kp kx M.nsf)
    · exact rowk.by_ hd
  · intro y hy
    rcases List.mem_or_eq_of_mem_set hy with hy | rfl
    · exact M.p256 y hy
    · exact hd
  · intro y hy g e
    rcases List.mem_or_eq_of_mem_set hy with hy | rfl
    · exact (M.dty y hy g e).kp kx fun e' => M.nsf g e' (.inr (M.dty y hy g e))
    · simp [blk] at e; subst e; exact ⟨_, rowk.h⟩
  · exact Rd.kp FT kx fun g _ e => by
      simp [blk] at e; subst e
      rintro (e | e)
      · exact nf1 e
      · exact nf2 e
  · intro g _ e
    simp [blk] at e; subst e
    exact ⟨nf1, nf2⟩
  · intro g _ e
    simp [blk] at e; subst e
    refine (M.frt gf (by rw [hfr]; simp) hFA).kp kx ?_
    rintro (e | e)
    · exact nf1 e
    · exact nf2 e
  · intro y hy
    rw [List.length_set]
    exact M.frl y (by rw [hfr]; simp [hy])
/-- The writer is full. -/
theorem Wm.setFull (M : Wm W base q root v s) : Wm (W.setCell ⟨q, 3, none⟩ (.bool true)) base q root v ⟨s.pg, s.fr, true⟩ ∧ Kp W (W.setCell ⟨q, 3, none⟩ (.bool true)) (Xw q v) := by
  have k1 : Kp W (W.setCell ⟨q, 3, none⟩ (.bool true)) (· = q) := Kp.of_set W ⟨q, 3, none⟩ _ rfl
  have nq : ∀ i, i = q → ¬ Sf W base i := fun i e => M.nsf i (.inl e)
  have g1 : ¬ 1 = q := by have := M.q1; have := M.b3; omega
  have g2 : ¬ 2 = q := by have := M.q1; have := M.b3; omega
  have hz := M.gl.sz
  refine ⟨⟨⟨Nat.le_trans hz k1.size, fun i hi => by rw [World.cell?_of_block (k1.block 1 (by omega) g1)]; exact M.gl.first i hi, fun i hi => by rw [World.cell?_of_block (k1.block 2 (by omega) g2)]; exact M.gl.acc i hi⟩, M.b3, M.q1, ?_, Ty.set (show Ty W q 104 from M.qt) q 3 _,
    own_kp M.own k1 (fun g e e' => M.apq (e' ▸ e)), M.pgs, fun x hx => (M.dat x hx).wr (Wr.of_kp k1 nq), M.p256, fun x hx g e => (M.dty x hx g e).kp k1 fun e' => nq g e' (.inr (M.dty x hx g e)), Rd.kp M.fr k1 fun g h e => (M.frb g h e).1, M.frb, fun g h e => (M.frt g h e).kp k1 (M.frb g h e).1, M.frl, M.apq, M.n4⟩, k1.mono fun i _ e => .inl e⟩
  have := M.bx.set (j := 3) (by simp) (.bool true)
  simpa using this
/-- A page is written behind all others. -/
theorem Wm.push {W5 : World} {A' : Option Addr} {c' P : Nat} {d : List UInt8} (M : Wm W base q root v s) (hfr : s.fr = []) (hp : s.pg.length ≠ 4096) (row : Row W P d) (hd : d.length = 256)
    (own5 : W5.ownsRow base 22 1 (.slice A' (v.ps.length + 1) c') (v.ps.length + 1) (pv v.ps ++ [.slice (some ⟨P, 0, none⟩) 256 256])) (g5 : Grew W v.PA W5 A') :
    Wm (W5.setCell ⟨q, 0, none⟩ (.slice A' (v.ps.length + 1) c')) base q root ⟨A', c', v.ps ++ [⟨some ⟨P, 0, none⟩, 256, d⟩], v.FA, v.fc⟩ ⟨s.pg ++ [d], [], s.full⟩ ∧
      Kp W (W5.setCell ⟨q, 0, none⟩ (.slice A' (v.ps.length + 1) c')) (Xw q v) ∧ Nv W v ⟨A', c', v.ps ++ [⟨some ⟨P, 0, none⟩, 256, d⟩], v.FA, v.fc⟩ := by
  have k1 : Kp W W5 (fun i => blk v.PA = some i) := Kp.of_grew g5 fun _ e => e
  have k2 : Kp W5 (W5.setCell ⟨q, 0, none⟩ (.slice A' (v.ps.length + 1) c')) (· = q) := Kp.of_set W5 ⟨q, 0, none⟩ _ rfl
  have kx : Kp W (W5.setCell ⟨q, 0, none⟩ (.slice A' (v.ps.length + 1) c')) (Xw q v) := (k1.mono fun i _ e => .inr e).trans (Y := (· = q)) k2 fun i _ e => .inl e
  have nw : Nw W v.PA A' := g5.at_
  have hqW := M.bx.lt
  have aq : blk A' ≠ some q := by
    intro e
    rcases nw with h | ⟨g, h1, h2⟩
    · exact M.apq (h ▸ e)
    · rw [h1] at e; injection e with e; omega
  have hP1 : P ≠ q := fun e => by obtain ⟨cs, h2⟩ := M.qt; have := row.h; rw [e, h2] at this; injection this with this; injection this with _ this; cases this
  have hP2 : blk v.PA ≠ some P := fun e => by obtain ⟨cs, h2⟩ := own_type M.own e; have := row.h; rw [h2] at this; injection this with this; injection this with _ this; cases this
  have g1 : ¬ Xw q v 1 := fun e => M.nsf 1 e (.inl (by have := M.b3; omega))
  have g2 : ¬ Xw q v 2 := fun e => M.nsf 2 e (.inl (by have := M.b3; omega))
  have hz := M.gl.sz
  have rowk := row.kp kx (by rintro (e | e); exact hP1 e; exact hP2 e)
  have PN : v.ps.length = s.pg.length := by have := congrArg List.length M.pgs; simpa using this
  refine ⟨⟨⟨Nat.le_trans hz kx.size, fun i hi => by rw [World.cell?_of_block (kx.block 1 (by omega) g1)]; exact M.gl.first i hi, fun i hi => by rw [World.cell?_of_block (kx.block 2 (by omega) g2)]; exact M.gl.acc i hi⟩, M.b3, M.q1, ?_, ?_, ?_, ?_, ?_, ?_, ?_, ?_, by simp, by simp, by simp, aq, ?_⟩, kx, nw⟩
  · have b1 := (M.bx.kp k1 M.apq).set (j := 0) (by simp) (.slice A' (v.ps.length + 1) c')
    rw [hfr] at b1
    simpa using b1
  · exact Ty.set (Ty.kp (show Ty W q 104 from M.qt) k1 M.apq) q 0 _
  · have e : pv (v.ps ++ [⟨some ⟨P, 0, none⟩, 256, d⟩]) = pv v.ps ++ [.slice (some ⟨P, 0, none⟩) 256 256] := by simp [pv, PV.v, hd]
    simp only [List.length_append, List.length_cons, List.length_nil, Nat.zero_add]
    rw [e]
    exact own_set own5 ⟨q, 0, none⟩ _ aq
  · simp [M.pgs]
  · intro y hy
    rcases List.mem_append.1 hy with hy | hy
    · exact (M.dat y hy).wr (Wr.of_kp kx M.nsf)
    · obtain rfl : y = _ := by simpa using hy
      exact rowk.by_ hd
  · intro y hy
    rcases List.mem_append.1 hy with hy | hy
    · exact M.p256 y hy
    · obtain rfl : y = _ := by simpa using hy
      exact hd
  · intro y hy g e
    rcases List.mem_append.1 hy with hy | hy
    · exact (M.dty y hy g e).kp kx fun e' => M.nsf g e' (.inr (M.dty y hy g e))
    · obtain rfl : y = _ := by simpa using hy
      simp [blk] at e; subst e; exact ⟨_, rowk.h⟩
  · have := M.fr
    rw [hfr] at this
    exact Rd.kp this kx fun g h => by simp at h
  · have := M.n4
    simp only [List.length_append, List.length_cons, List.length_nil]
    omega
end
end Go.Proofs.YtphiblmkgbkdmaaDoor.Pg
