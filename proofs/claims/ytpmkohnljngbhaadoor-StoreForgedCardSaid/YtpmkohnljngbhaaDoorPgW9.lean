/- What page.read's visit holds in memory. -/
import Derived.Test.YtpmkohnljngbhaaDoorPgB2
import Derived.Test.YtpmkohnljngbhaaDoorKit2
import Derived.Test.YtpmkohnljngbhaaDoorPgW3
import Derived.Test.YtpmkohnljngbhaaDoorPgW4
import Derived.Test.YtpmkohnljngbhaaDoorPgTP
import Derived.Deep.RegionHeld3
import Derived.Deep.DrawnRows
import Derived.Carry
import Derived.Laws.EntriesVeiled
set_option linter.all false
namespace Go.Proofs.YtpmkohnljngbhaaDoor.Pg
set_option linter.unusedVariables false
set_option linter.unusedSimpArgs false
set_option maxRecDepth 1000000
open Go.RowKit Wl

/-- The bytes of an item lie in w. -/
def Dw (w : World) (x : IV) : Prop := Rd w 1 x.kA x.k.length x.kc (bv x.k) ∧ Rd w 1 x.vA x.v.length x.vc (bv x.v)
theorem Dw.below {w w' : World} {x : IV} (h : Dw w x) (hb : Below w.heap.size w w') : Dw w' x := ⟨h.1.below hb, h.2.below hb⟩
theorem Rd.back {w w' : World} {size n c : Nat} {A : Option Addr} {xs : List Value} (h : Rd w' size A n c xs) (hb : Below w.heap.size w w') (hA : ∀ g, 0 < n → blk A = some g → g < w.heap.size) : Rd w size A n c xs :=
  ⟨h.len, h.nc, h.nil, h.c63, fun hn => by
    obtain ⟨g, o, e, _, hc⟩ := h.at_ hn
    have hg := hA g hn (by rw [e]; rfl)
    refine ⟨g, o, e, hg, fun j hj => ?_⟩
    rw [← hc j hj]
    exact (World.cell?_of_block (hb.block g hg)).symm⟩
theorem Kg.back {w w' : World} {g : Nat} {x : IV} (h : Kg w' g x) (hb : Below w.heap.size w w') (hg : g < w.heap.size) : Dw w x :=
  ⟨Rd.back h.k hb fun q _ e => by rw [h.bk] at e; injection e with e; exact e ▸ hg, Rd.back h.v hb fun q _ e => by rw [h.bv] at e; injection e with e; exact e ▸ hg⟩
theorem its_split {l : List IV} {j : Nat} {y : IV} (h : l[j]? = some y) : its l = its (l.take j) ++ y.it :: its (l.drop (j + 1)) := by
  have h2 := (List.getElem?_eq_some_iff.1 h).2
  have h1 := (List.getElem?_eq_some_iff.1 h).1
  have e : l = l.take j ++ y :: l.drop (j + 1) := by rw [← h2, List.getElem_cons_drop, List.take_append_drop]
  conv => lhs; rw [e]
  simp [its]
theorem its_take {l : List IV} {j : Nat} {y : IV} (h : l[j]? = some y) : its (l.take (j + 1)) = its (l.take j) ++ [y.it] := by rw [List.take_add_one, h, its_app]; rfl
def pt (b : Nat) : Value := .pointer (some ⟨b, 0, none⟩)
/-- visit, as a value. -/
def fvis (bf bm ba bv : Nat) : Value := .func (.func 70) #[] #[.pointer (some ⟨bf, 0, none⟩), .pointer (some ⟨bm, 0, none⟩), .pointer (some ⟨ba, 0, none⟩), .pointer (some ⟨bv, 0, none⟩)]
/-- The five blocks of a reading. -/
structure Blks (N bf bm ba bv M : Nat) : Prop where
  f1 : N ≤ bf
  m1 : N ≤ bm
  a1 : N ≤ ba
  v1 : N ≤ bv
  M1 : N ≤ M
  fa : bf ≠ ba
  fM : bf ≠ M
  ma : bm ≠ ba
  mM : bm ≠ M
  va : bv ≠ ba
  vM : bv ≠ M
  aM : ba ≠ M
structure Vi (w0 W : World) (f : FV) (bf bm ba bv M : Nat) (S : List Nat) (A : Option Addr) (n c : Nat) (L : List IV) : Prop where
  bw : Below w0.heap.size w0 W
  xf : Bx W bf f.cs
  xm : Bx W bm [.map (some M)]
  xa : Bx W ba [.slice A n c]
  xv : Bx W bv [fvis bf bm ba bv]
  mp : Mb W M S
  own : W.ownsRow w0.heap.size 117 3 (.slice A n c) n (ic L)
  dat : ∀ x ∈ L, Dw w0 x
  lt : ∀ m ∈ S, m < f.ps.length
  lim : L.length ≤ 84 * S.length
  ap : ∀ g, blk A = some g → g ≠ bf ∧ g ≠ bm ∧ g ≠ ba ∧ g ≠ bv ∧ g ≠ M
/-- What a visit may write. -/
def Wx (M ba : Nat) (A : Option Addr) (i : Nat) : Prop := i = M ∨ i = ba ∨ blk A = some i
/-- The new row is the old one, or new. -/
def Nw (W : World) (A A' : Option Addr) : Prop := blk A' = blk A ∨ ∃ g, blk A' = some g ∧ W.heap.size ≤ g
theorem Nw.refl (W : World) (A : Option Addr) : Nw W A A := .inl rfl
theorem Nw.trans {W W1 : World} {A A1 A2 : Option Addr} (h : Nw W A A1) (k : Nw W1 A1 A2) (hs : W.heap.size ≤ W1.heap.size) : Nw W A A2 := by
  rcases k with k | ⟨g, k1, k2⟩
  · rcases h with h | ⟨g, h1, h2⟩
    · exact .inl (k.trans h)
    · exact .inr ⟨g, k.trans h1, h2⟩
  · exact .inr ⟨g, k1, Nat.le_trans hs k2⟩
theorem Nw.wx {W : World} {A A' : Option Addr} {M ba i : Nat} (h : Nw W A A') (hi : i < W.heap.size) (h' : Wx M ba A' i) : Wx M ba A i := by
  rcases h' with h' | h' | h'
  · exact .inl h'
  · exact .inr (.inl h')
  · rcases h with h | ⟨g, h1, h2⟩
    · exact .inr (.inr (h ▸ h'))
    · rw [h1] at h'; injection h' with h'; omega
/-- A step of a visit: nothing else turns. -/
theorem Kp.wx {W W1 W2 : World} {A A1 : Option Addr} {M ba : Nat} (h : Kp W W1 (Wx M ba A)) (k : Kp W1 W2 (Wx M ba A1)) (hn : Nw W A A1) : Kp W W2 (Wx M ba A) :=
  h.trans k fun i hi e => hn.wx hi e
section
variable {w0 W W' : World} {f : FV} {bf bm ba bv M n c : Nat} {S : List Nat} {A : Option Addr} {L : List IV}
theorem Vi.below (h : Vi w0 W f bf bm ba bv M S A n c L) (hb : Below W.heap.size W W') : Vi w0 W' f bf bm ba bv M S A n c L :=
  ⟨h.bw.trans (hb.mono h.bw.size), h.xf.step hb, h.xm.step hb, h.xa.step hb, h.xv.step hb, h.mp.below hb, own_below h.own hb, h.dat, h.lt, h.lim, h.ap⟩
theorem Vi.nlen (h : Vi w0 W f bf bm ba bv M S A n c L) : n = L.length := len3 (Rd.of_own h.own)
theorem Vi.slt (h : Vi w0 W f bf bm ba bv M S A n c L) : S.length ≤ f.ps.length := nodup_le h.mp.nd h.lt
/-- A page is seen. -/
theorem Vi.see (h : Vi w0 W f bf bm ba bv M S A n c L) (B : Blks w0.heap.size bf bm ba bv M) {m : Nat} (hm : m < f.ps.length) (hn : m ∉ S) (hg : W.grownBy W' (some M)) (hM : Mb W' M (ins m S)) :
    Vi w0 W' f bf bm ba bv M (m :: S) A n c L ∧ Kp W W' (Wx M ba A) := by
  have k : Kp W W' (· = M) := ⟨hg.os, hg.tape, hg.output, hg.size, fun i hi e => hg.block i hi fun e' => by injection e' with e'; exact e e'⟩
  have e : ins m S = m :: S := if_neg hn
  rw [e] at hM
  refine ⟨⟨h.bw.trans (k.low h.bw.size fun i e => by subst e; exact B.M1), h.xf.kp k B.fM, h.xm.kp k B.mM, h.xa.kp k B.aM, h.xv.kp k B.vM, hM, own_kp h.own k fun g e => (h.ap g e).2.2.2.2, h.dat, ?_, by have := h.lim; simp; omega, h.ap⟩, k.mono fun i _ e => .inl e⟩
  intro x hx
  rcases List.mem_cons.1 hx with rfl | hx
  · exact hm
  · exact h.lt x hx
/-- Items are added. -/
theorem Vi.add {A' : Option Addr} {n' c' : Nat} {L' : List IV} {v : Value} (h : Vi w0 W f bf bm ba bv M S A n c L) (B : Blks w0.heap.size bf bm ba bv M) (hb : w0.heap.size ≤ W.heap.size)
    (own : W'.ownsRow w0.heap.size 117 3 (.slice A' n' c') n' (ic (L ++ L'))) (g : Grew W A W' A') (hv : v = .slice A' n' c') (hd : ∀ x ∈ L', Dw w0 x) (hl : (L ++ L').length ≤ 84 * S.length) :
    Vi w0 (W'.setCell ⟨ba, 0, none⟩ v) f bf bm ba bv M S A' n' c' (L ++ L') ∧ Kp W (W'.setCell ⟨ba, 0, none⟩ v) (Wx M ba A) ∧ Nw W A A' := by
  subst hv
  have nw : Nw W A A' := g.at_
  have k1 : Kp W W' (fun i => blk A = some i) := Kp.of_grew g fun _ e => e
  have ap' : ∀ q, blk A' = some q → q ≠ bf ∧ q ≠ bm ∧ q ≠ ba ∧ q ≠ bv ∧ q ≠ M := by
    intro q e
    rcases nw with nw | ⟨q', e1, e2⟩
    · exact h.ap q (nw ▸ e)
    · rw [e1] at e; injection e with e; subst e
      have := h.xf.lt; have := h.xm.lt; have := h.xa.lt; have := h.xv.lt; have := h.mp.lt
      omega
  have ka : Kp W' (W'.setCell ⟨ba, 0, none⟩ (.slice A' n' c')) (· = ba) := Kp.of_set W' ⟨ba, 0, none⟩ _ rfl
  have k2 : Kp W (W'.setCell ⟨ba, 0, none⟩ (.slice A' n' c')) (fun i => i = ba ∨ blk A = some i) := (k1.mono fun _ _ e => .inr e).trans ka fun _ _ e => .inl e
  have nf : ∀ {b : Nat}, (∀ q, blk A = some q → q ≠ b) → b ≠ ba → ¬ (b = ba ∨ blk A = some b) := fun h1 h2 e => e.elim h2 fun e => h1 _ e rfl
  refine ⟨⟨h.bw.trans (k2.low h.bw.size fun i e => e.elim (fun e => e ▸ B.a1) fun e => (own_blk_le h.own e).1), h.xf.kp k2 (nf (fun q e => (h.ap q e).1) B.fa), h.xm.kp k2 (nf (fun q e => (h.ap q e).2.1) B.ma),
    ?_, h.xv.kp k2 (nf (fun q e => (h.ap q e).2.2.2.1) B.va), h.mp.kp k2 (nf (fun q e => (h.ap q e).2.2.2.2) (Ne.symm B.aM)), own_kp own ka fun q e => (ap' q e).2.2.1, ?_, h.lt, hl, ap'⟩, k2.mono fun i _ e => .inr e, nw⟩
  · have := (h.xa.kp k1 fun e => (h.ap _ e).2.2.1 rfl).set (j := 0) (by simp) (.slice A' n' c')
    exact this
  · intro x hx
    rcases List.mem_append.1 hx with hx | hx
    · exact h.dat x hx
    · exact hd x hx
end
end Go.Proofs.YtpmkohnljngbhaaDoor.Pg
/- The walk of page.read's visit. -/
namespace Go.Proofs.YtpmkohnljngbhaaDoor.Pg
set_option maxRecDepth 1000000
open Go.RowKit Wl

def ViPost (w0 W : World) (f : FV) (bf bm ba bv M : Nat) (A : Option Addr) (r : Option St) (e : Ending) (W' : World) : Prop :=
  (∃ S' A' n' c' L', r = some (S', its L') ∧ e = .returned (.bool true) ∧ Hid (Vi w0 W' f bf bm ba bv M S' A' n' c' L') ∧ Hid (Kp W W' (Wx M ba A)) ∧ Hid (Nw W A A')) ∨ (r = none ∧ e = .returned (.bool false) ∧ Hid (Kp W W' (Wx M ba A)))
/-- A file whose pages may be read. -/
structure Rdy (f : FV) : Prop where
  n4 : f.ps.length ≤ 4096
  p256 : ∀ x ∈ f.ps, x.d.length = 256
  fs : f.free.Pairwise (· < ·)
  fl : f.free.length ≤ 4096
theorem wf_nat {n : Nat} (h : n ≤ 100000) : (Lit.int .i64 (n : Int)).wf = true := by
  simp [Lit.wf, IntKind.min, IntKind.max, IntKind.wrap, IntKind.bits, IntKind.signed]; omega
theorem vis_no {pg : List (List UInt8)} {fr : List Int} {k n : Nat} {s : St} (h : ¬ (n < pg.length ∧ n ∉ s.1 ∧ (n : Int) ∉ fr)) : vis pg fr (k + 1) n s = none := by unfold vis; rw [if_neg h]
theorem vis_yes {pg : List (List UInt8)} {fr : List Int} {k n : Nat} {s : St} (h : n < pg.length ∧ n ∉ s.1 ∧ (n : Int) ∉ fr) {p : List UInt8} (hp : pg[n]? = some p) : vis pg fr (k + 1) n s =
    match dec p with | none => none | some (kd, l) => if kd = 1 then some (n :: s.1, s.2 ++ l) else visL (vis pg fr k) l (n :: s.1, s.2) := by
  unfold vis
  rw [if_pos h, List.getD_eq_getElem?_getD, hp]; rfl
set_option maxRecDepth 1000000 in
set_option maxHeartbeats 12800000 in
theorem visit_any {w0 : World} {f : FV} {bf bm ba bv M : Nat} (G : Hid (Gl w0)) (HF : Hid (Fl w0 f)) (RY : Hid (Rdy f)) (B : Hid (Blks w0.heap.size bf bm ba bv M)) :
    ∀ (k n : Nat) (W : World) (S : List Nat) (A : Option Addr) (m c : Nat) (L : List IV), n ≤ 100000 → f.ps.length < k + S.length → Hid (Vi w0 W f bf bm ba bv M S A m c L) →
      Calls Tryd.prog 70 #[.int .i64 (n : Int), .pointer (some ⟨bf, 0, none⟩), .pointer (some ⟨bm, 0, none⟩), .pointer (some ⟨ba, 0, none⟩), .pointer (some ⟨bv, 0, none⟩)] W (ViPost w0 W f bf bm ba bv M A (vis (f.ps.map PV.d) f.free k n (S, its L))) := by
  obtain ⟨i0, hi, hz0, hz1, hz2⟩ := info_parts info_item
  intro k
  induction k with
  | zero => intro n W S A m c L hn hk V; have := V.out.slt; omega
  | succ k ih =>
  intro n W S A m c L hn hk V
  have IH := Lib.hid ih
  clear ih
  obtain ⟨r, hr⟩ : ∃ r, vis (f.ps.map PV.d) f.free (k + 1) n (S, its L) = r := ⟨_, rfl⟩
  rw [hr]
  have HR := Lib.hid hr
  clear hr
  obtain ⟨N, hN⟩ : ∃ N, f.ps.length = N := ⟨_, rfl⟩
  have hN4 : N ≤ 4096 := hN ▸ RY.out.n4
  have HN := Lib.hid hN
  have z0 : W.cell? ⟨bf, 0, none⟩ = some (.slice f.PA N f.pc) := by rw [← hN]; exact V.out.xf.at_ 0 (by simp [FV.cs])
  have z2 : W.cell? ⟨bf, 2, none⟩ = some (.slice f.FA f.free.length f.fc) := V.out.xf.at_ 2 (by simp [FV.cs])
  have zm : W.cell? ⟨bm, 0, none⟩ = some (.map (some M)) := V.out.xm.at_ 0 (by simp)
  have bw := V.out.bw
  have wpl : (f.ps.map PV.d).length = N := by rw [List.length_map]; exact hN
  have WPL := Lib.hid wpl
  clear wpl hN
  by_cases q1 : N ≤ n
  · have R : Hid (r = none) := Lib.hid (by rw [← HR.out]; exact vis_no (by rw [WPL.out]; omega))
    have d1 : decide ((N : Int) ≤ (n : Int)) = true := decide_eq_true (by omega)
    go_enter Tryd.func70, Tryd.ntmps70
    go_wp2_with fail
    go_ret
    exact .inr ⟨R.out, rfl, Lib.hid (Kp.refl _ _)⟩
  have d1 : decide ((N : Int) ≤ (n : Int)) = false := decide_eq_false (by omega)
  by_cases q2 : n ∈ S
  · have R : Hid (r = none) := Lib.hid (by rw [← HR.out]; exact vis_no fun h => h.2.1 q2)
    have lk := V.out.mp.look (wf_nat hn)
    rw [inS_nat, decide_eq_true q2] at lk
    go_enter Tryd.func70, Tryd.ntmps70
    go_wp2_with fail
    go_ret
    exact .inr ⟨R.out, rfl, Lib.hid (Kp.refl _ _)⟩
  have lk := V.out.mp.look (wf_nat hn)
  rw [inS_nat, decide_eq_false q2] at lk
  have hfr : Hid (Rd W 1 f.FA f.free.length f.fc (iv f.free)) := Lib.hid (HF.out.fr.below bw)
  have hSl := V.out.slt
  obtain ⟨W2, hst, mb2, gr2⟩ := V.out.mp.store (n := n) (by omega) (by have := HN.out; omega)
  obtain ⟨V2, K2⟩ := V.out.see B.out (m := n) (by have := HN.out; omega) q2 gr2 mb2
  have V2 := Lib.hid V2
  have K2 := Lib.hid K2
  clear mb2 gr2
  have bw2 := V2.out.bw
  obtain ⟨gp, op, x, hPA, hgp, hx, hcx⟩ := Rd.at1 (val := PV.v) (HF.out.pg.row.below bw2) (show n < f.ps.length by have := HN.out; omega)
  have hxm := List.mem_of_getElem? hx
  have hx256 := RY.out.p256 x hxm
  have hxr := HF.out.pg.dat x hxm
  obtain ⟨gx, ox, hxA, hgx, _⟩ := hxr.at_ (by omega)
  rw [hx256, hxA] at hxr
  have hxv : x.v = .slice (some ⟨gx, ox, none⟩) 256 x.c := by unfold PV.v; rw [hx256, hxA]
  rw [hxv] at hcx
  have z0' : W2.cell? ⟨bf, 0, none⟩ = some (.slice (some ⟨gp, op, none⟩) N f.pc) := by rw [← hPA, ← HN.out]; exact V2.out.xf.at_ 0 (by simp [FV.cs])
  have RX := Lib.hid (hxr.below bw2)
  have HXP : Hid ((f.ps.map PV.d)[n]? = some x.d) := Lib.hid (by rw [List.getElem?_map, hx]; rfl)
  have hpc := HF.out.pg.row.nc
  have hpc63 := HF.out.pg.row.c63
  have HPC : N ≤ f.pc := by have := HN.out; omega
  clear hx hxm hxr hxv hx256 hxA hpc
  go_enter Tryd.func70, Tryd.ntmps70
  go_wp2_with fail
  go_at_call 71
  refine (bsearch_any (n : Int) W hfr (Lib.hid RY.out.fs) (by have := RY.out.fl; omega)).mono ?_
  rintro e w' ⟨i, b, rfl, hb, rfl⟩
  by_cases hbt : b = true
  · subst hbt
    have R : Hid (r = none) := Lib.hid (by rw [← HR.out]; exact vis_no fun h => h.2.2 (hb.1 rfl))
    clear hb
    go_wp2_with fail
    go_ret
    exact .inr ⟨R.out, rfl, Lib.hid (Kp.refl _ _)⟩
  obtain rfl : b = false := by simpa using hbt
  clear hbt
  have HY : Hid (n < (f.ps.map PV.d).length ∧ n ∉ S ∧ (n : Int) ∉ f.free) := Lib.hid ⟨by rw [WPL.out]; omega, q2, fun h => by have := hb.2 h; cases this⟩
  have HR := Lib.hid ((vis_yes (k := k) (s := (S, its L)) HY.out HXP.out).symm.trans HR.out)
  clear hb q2 HY
  go_wp2_with fail
  go_at_call 72
  have G2 := Lib.hid (G.out.low bw2 G.out.sz)
  refine (decode_any _ G2 RX).mono ?_
  rintro e W3 ⟨D3, b3⟩
  have V3 := Lib.hid (V2.out.below b3)
  have K3 := Lib.hid (K2.out.below b3)
  have bw3 := V3.out.bw
  clear z0 z2 zm lk hst hcx z0'
  rcases D3 with ⟨hdn, rfl⟩ | ⟨kd, Al, nl, cl, Ll, hdn, rfl, ol, kl⟩
  · have R : Hid (r = none) := Lib.hid (by rw [← HR.out, hdn])
    clear hdn
    go_wp2_with fail
    go_ret
    exact .inr ⟨R.out, rfl, K3⟩
  have HR : Hid ((if kd = 1 then some (n :: S, its L ++ its Ll) else visL (vis (f.ps.map PV.d) f.free k) (its Ll) (n :: S, its L)) = r) := Lib.hid (by rw [← HR.out, hdn])
  have OK : Hid (DecOk kd (its Ll)) := Lib.hid (dec_ok (by have := RX.out.len; rw [bv_len] at this; omega) hdn)
  have DL : Hid (∀ x ∈ Ll, Dw w0 x) := Lib.hid fun y hy => (kl.out y hy).back bw3 (by have := bw3.size; omega)
  clear hdn kl
  have hll : Hid (3 * Ll.length ≤ 250) := Lib.hid (by have := tot_ge OK.out.it; rw [its_len] at this; have := OK.out.tt; omega)
  have hnl := Lib.hid (len3 (Rd.of_own ol.out))
  have hLn := Lib.hid V3.out.nlen
  have hLl := V3.out.lim
  have hSl3 := V3.out.slt
  simp only [List.length_cons] at hLl hSl3
  have hm4 : m ≤ 344064 := by have := hLn.out; have := HN.out; omega
  have hnl2 : nl ≤ 100 := by have := hll.out; have := hnl.out; omega
  clear hLl hSl3
  have za : W3.cell? ⟨ba, 0, none⟩ = some (.slice A m c) := V3.out.xa.at_ 0 (by simp)
  have fa : W3.frozen? ⟨ba, 0, none⟩ = false := V3.out.xa.fz 0 (by simp)
  have hb3 := bw3.size
  rcases OK.out.kd with rfl | rfl
  · have HR1 : Hid (r = some (n :: S, its (L ++ Ll))) := Lib.hid (by rw [← HR.out, if_pos rfl, its_app])
    clear HR
    have olr := Lib.hid (Rd.of_own ol.out)
    have vo := V3.out.own
    have hba : ba < W3.heap.size := V3.out.xa.lt
    go_wp2_with (at_builtin; apply hold)
    unfold Hold
    refine wpList_app _ rfl (.tmp 49) (.tmp 50) 92 rfl w0.heap.size 117 i0 (.agg #[.slice none 0 0, .slice none 0 0, .int .i64 0]) 3 56 Tryd.underlying92 hi hz0 hz1 hz2 rfl (by omega) (by rfl) vo (by rfl) olr.out (ic_one _) (by omega) (by omega) hb3 ?_
    intro A5 c5 W5 own5 g5
    rw [← ic_app] at own5
    obtain ⟨V6, K6, N6⟩ := V3.out.add B.out hb3 own5 g5 (v := .slice A5 (m + nl) c5) rfl DL.out (by rw [List.length_append]; have := hll.out; have := V3.out.lim; have := V2.out.lim; have := V.out.lim; simp only [List.length_cons] at *; omega)
    have V6 := Lib.hid V6
    have K6 := Lib.hid (K3.out.wx K6 (Nw.refl _ _))
    have N6 := Lib.hid ((Nw.refl W A).trans N6 K3.out.size)
    have za5 : W5.cell? ⟨ba, 0, none⟩ = some (.slice A m c) := ((Kp.of_grew (X := fun i => blk A = some i) g5 fun _ e => e).cell hba fun e => (V3.out.ap _ e).2.2.1 rfl).trans za
    have fa5 : W5.frozen? ⟨ba, 0, none⟩ = false := (World.frozen?_of_block ((Kp.of_grew (X := fun i => blk A = some i) g5 fun _ e => e).block ba hba fun e => (V3.out.ap _ e).2.2.1 rfl)).trans fa
    clear own5 g5 za fa
    go_wp2_with fail
    go_ret
    exact .inl ⟨_, _, _, _, _, HR1.out, rfl, V6, K6, N6⟩
  · have HR1 : Hid (visL (vis (f.ps.map PV.d) f.free k) (its Ll) (n :: S, its L) = r) := Lib.hid (by rw [← HR.out, if_neg (by decide)])
    clear HR
    have olr := Lib.hid (Rd.of_own ol.out)
    have hAl : Hid (∀ g, blk Al = some g → W2.heap.size ≤ g ∧ g < W3.heap.size) := Lib.hid fun g e => own_blk_le ol.out e
    have hclc := olr.out.nc
    have hcl63 := olr.out.c63
    have CN : Hid (∀ (n : Nat) (S' : List Nat) (A' : Option Addr) (n' c' : Nat) (L' : List IV) (U : World), n ≤ 100000 → S.length + 1 ≤ S'.length → Vi w0 U f bf bm ba bv M S' A' n' c' L' → vis (f.ps.map PV.d) f.free k n (S', its L') = none →
        Calls Tryd.prog 70 #[.int .i64 (n : Int), .pointer (some ⟨bf, 0, none⟩), .pointer (some ⟨bm, 0, none⟩), .pointer (some ⟨ba, 0, none⟩), .pointer (some ⟨bv, 0, none⟩)] U fun e W' => e = .returned (.bool false) ∧ Hid (Kp U W' (Wx M ba A'))) := Lib.hid fun n S' A' n' c' L' U hn hS V hr => (IH.out n U S' A' n' c' L' hn (by omega) (Lib.hid V)).mono fun e W' D => by
      rcases D with ⟨S2, A2, n2, c2, L2, e1, _⟩ | ⟨_, e2, e3⟩
      · rw [hr] at e1; cases e1
      · exact ⟨e2, e3⟩
    have CY : Hid (∀ (n : Nat) (S' : List Nat) (A' : Option Addr) (n' c' : Nat) (L' : List IV) (U : World) (S2 : List Nat) (I2 : List It), n ≤ 100000 → S.length + 1 ≤ S'.length → Vi w0 U f bf bm ba bv M S' A' n' c' L' → vis (f.ps.map PV.d) f.free k n (S', its L') = some (S2, I2) →
        Calls Tryd.prog 70 #[.int .i64 (n : Int), .pointer (some ⟨bf, 0, none⟩), .pointer (some ⟨bm, 0, none⟩), .pointer (some ⟨ba, 0, none⟩), .pointer (some ⟨bv, 0, none⟩)] U fun e W' => ∃ A2 n2 c2 L2, I2 = its L2 ∧ e = .returned (.bool true) ∧ Hid (Vi w0 W' f bf bm ba bv M S2 A2 n2 c2 L2) ∧ Hid (Kp U W' (Wx M ba A')) ∧ Hid (Nw U A' A2)) := Lib.hid fun n S' A' n' c' L' U S2 I2 hn hS V hr => (IH.out n U S' A' n' c' L' hn (by omega) (Lib.hid V)).mono fun e W' D => by
      rcases D with ⟨S3, A2, n2, c2, L2, e1, e2, e3, e4, e5⟩ | ⟨e1, _⟩
      · rw [hr] at e1; injection e1 with e1; injection e1 with h1 h2; subst h1 h2
        exact ⟨A2, n2, c2, L2, rfl, e2, e3, e4, e5⟩
      · rw [hr] at e1; cases e1
    clear IH
    go_wp2_with fail
    go_loopw [54] (fun iv wr => ∃ (j : Nat) (S' : List Nat) (A' : Option Addr) (n' c' : Nat) (L' : List IV), j ≤ nl ∧ iv = .int .i64 j ∧ Hid (Vi w0 wr f bf bm ba bv M S' A' n' c' L') ∧ Hid (Kp W wr (Wx M ba A)) ∧ Hid (Nw W A A') ∧ Hid (∀ g, blk Al = some g → blk A' ≠ some g) ∧
        Hid (visL (vis (f.ps.map PV.d) f.free k) (its (Ll.take j)) (n :: S, its L) = some (S', its L')) ∧ Hid (Rd wr 3 Al nl cl (ic Ll)) ∧ S.length + 1 ≤ S'.length) (fun iv _ => (nl - intOf iv).toNat)
    case atStart => exact ⟨0, n :: S, A, m, c, L, by omega, rfl, V3, K3, Lib.hid (Nw.refl _ _), Lib.hid fun g e e' => by have := (hAl.out g e).1; have := (own_blk_le V2.out.own e').2; omega, Lib.hid rfl, olr, by simp⟩
    case round =>
      obtain ⟨j, S', A', n', c', L', hj, rfl, V', K', N', apl, hvl, ol', hS'⟩ := hrel
      by_cases hlt : j < nl
      · obtain ⟨gl, ogl, y, rfl, hgl, hy, y0, y1, y2⟩ := Rd.item ol'.out hlt
        have HY := Lib.hid hy
        have HYM := Lib.hid (List.mem_of_getElem? hy)
        have SPL := Lib.hid (its_split hy)
        clear hy
        simp only [IV.kv, IV.vv] at y0 y1 y2
        have hych : y.ch ≤ 100000 := by
          have := (OK.out.it y.it (its_mem HYM.out)).fk (by decide); have h2 : y.ch < 65536 := this.2; omega
        have za' : wr.cell? ⟨ba, 0, none⟩ = some (.slice A' n' c') := V'.out.xa.at_ 0 (by simp)
        have hba' : ba < wr.heap.size := V'.out.xa.lt
        obtain ⟨X, hX⟩ : ∃ X, wr.heap.size = X := ⟨_, rfl⟩
        obtain ⟨W5, hW5⟩ : ∃ W5, wr.alloc (.cells #[.slice y.kA y.k.length y.kc, .slice y.vA y.v.length y.vc, .int .i64 (y.ch : Int)] 117) = W5 := ⟨_, rfl⟩
        have bx : Below wr.heap.size wr W5 := hW5 ▸ bal _ _
        have V5 := Lib.hid (V'.out.below bx)
        have X5 : Hid (Bx W5 X [.slice y.kA y.k.length y.kc, .slice y.vA y.v.length y.vc, .int .i64 (y.ch : Int)]) := hW5 ▸ Lib.hid (Bx.put wr hX #[.slice y.kA y.k.length y.kc, .slice y.vA y.v.length y.vc, .int .i64 (y.ch : Int)] 117)
        have zv5 := V5.out.xv.at_ 0 (by simp)
        simp only [fvis, List.getElem?_cons_zero] at zv5
        have hbv : bv < X := hX ▸ V'.out.xv.lt
        have hbX : ba < X := hX ▸ V'.out.xa.lt
        have hMX : M < X := hX ▸ V'.out.mp.lt
        have hAX : Hid (∀ g, blk A' = some g → g < X) := Lib.hid fun g e => hX ▸ (own_blk_le V'.out.own e).2
        have hX5 : W5.heap.size = X + 1 := by rw [← hW5, ← hX]; simp
        have HW5 := Lib.hid hW5
        clear hW5
        have KK : Hid (∀ U : World, (∀ i, i < X + 1 → ¬ Wx M ba A' i → U.heap[i]? = W5.heap[i]?) →
            U.cell? ⟨bv, 0, none⟩ = some (.func (.func 70) #[] #[.pointer (some ⟨bf, 0, none⟩), .pointer (some ⟨bm, 0, none⟩), .pointer (some ⟨ba, 0, none⟩), .pointer (some ⟨bv, 0, none⟩)]) ∧ U.cell? ⟨X, 0, none⟩ = some (.slice y.kA y.k.length y.kc) ∧ U.cell? ⟨X, 2, none⟩ = some (.int .i64 (y.ch : Int))) := Lib.hid fun U hU => by
          have nb : ¬ Wx M ba A' bv := by rintro (h | h | h); exact B.out.vM h; exact B.out.va h; exact (V'.out.ap _ h).2.2.2.1 rfl
          have nX : ¬ Wx M ba A' X := by rintro (h | h | h); omega; omega; have := hAX.out _ h; omega
          exact ⟨(World.cell?_of_block (hU bv (by omega) nb)).trans zv5, (World.cell?_of_block (hU X (by omega) nX)).trans (X5.out.at_ 0 (by simp)), (World.cell?_of_block (hU X (by omega) nX)).trans (X5.out.at_ 2 (by simp))⟩
        clear zv5
        go_wp2_with fail
        rw [HW5.out]
        rcases hv : vis (f.ps.map PV.d) f.free k y.ch (S', its L') with _ | ⟨S2, I2⟩
        · have R : Hid (r = none) := Lib.hid (by
            rw [← HR1.out, SPL.out]
            exact visL_none hvl.out fun s2 e => by have e : vis (f.ps.map PV.d) f.free k y.ch (S', its L') = some s2 := e; rw [hv] at e; cases e)
          have C1 : Hid (∀ q, Calls Tryd.prog 70 #[.int .i64 (y.ch : Int), .pointer (some ⟨bf, 0, none⟩), .pointer (some ⟨bm, 0, none⟩), .pointer (some ⟨ba, 0, none⟩), .pointer (some ⟨bv, 0, none⟩)] (W5.drewN q) fun e W' => e = .returned (.bool false) ∧ Hid (Kp (W5.drewN q) W' (Wx M ba A'))) :=
            Lib.hid fun q => CN.out y.ch S' A' n' c' L' _ hych hS' (V5.out.below (bdrewN (Below.refl _ _))) hv
          clear hv
          have zz := KK.out W5 fun _ _ _ => rfl
          obtain ⟨zb, z0, z2⟩ := zz
          refine wp_region_mid (fun w' => ∃ q : Nat, w' = W5.drewN q) 3 3 (by kernel_rfl) (by kernel_rfl) ⟨1, rfl⟩ ?_
          simp only [List.take_succ_cons, List.take_zero, List.drop_succ_cons, List.drop_zero]
          repeat (go_big_quiet_step (fail))
          refine wpQuiet_nil ?_
          rintro w6 ⟨q6, rfl⟩
          go_wp2_with fail
          go_at_call 70
          refine (C1.out q6).mono ?_
          rintro e w7 ⟨rfl, k7⟩
          obtain ⟨zb7, z07, z27⟩ := KK.out w7 fun i hi hn => k7.out.block i (show i < W5.heap.size by omega) hn
          go_wp2_with fail
          refine MidQ.intro (fun w' => ∃ q : Nat, w' = w7.drewN q) ⟨0, rfl⟩ ?_
          try simp only [Nat.reduceAdd, List.drop_succ_cons, List.drop_zero]
          repeat (go_big_quiet_step (fail))
          refine wpQuiet_nil ?_
          rintro w8 ⟨q8, rfl⟩
          go_wp2_with fail
          go_ret
          exact .inr ⟨R.out, rfl, Lib.hid (((((K'.out.below bx).below (bdrewN (Below.refl _ _))).wx k7.out N'.out).below (bdrewN (Below.refl _ _))))⟩
        · have C1 : Hid (∀ q, Calls Tryd.prog 70 #[.int .i64 (y.ch : Int), .pointer (some ⟨bf, 0, none⟩), .pointer (some ⟨bm, 0, none⟩), .pointer (some ⟨ba, 0, none⟩), .pointer (some ⟨bv, 0, none⟩)] (W5.drewN q) fun e W' => ∃ A2 n2 c2 L2, I2 = its L2 ∧ e = .returned (.bool true) ∧ Hid (Vi w0 W' f bf bm ba bv M S2 A2 n2 c2 L2) ∧ Hid (Kp (W5.drewN q) W' (Wx M ba A')) ∧ Hid (Nw (W5.drewN q) A' A2)) :=
            Lib.hid fun q => CY.out y.ch S' A' n' c' L' _ S2 I2 hych hS' (V5.out.below (bdrewN (Below.refl _ _))) hv
          have MORE : Hid (n' < I2.length) := Lib.hid (by have h1 := vis_more hv; have h2 := V'.out.nlen; simp only [its_len] at h1; omega)
          have NL : Hid (n' = (its L').length) := Lib.hid (by rw [its_len]; exact V'.out.nlen)
          have hS2 : S.length + 1 ≤ S2.length := by
            have := (vis_grw (fun p hp => by obtain ⟨x, hx, rfl⟩ := List.mem_map.1 hp; exact RY.out.p256 x hx) V'.out.mp.nd (fun m hm => by rw [WPL.out, ← HN.out]; exact V'.out.lt m hm) hv).2
            simp only at this; omega
          have HV := Lib.hid hv
          clear hv
          have zz := KK.out W5 fun _ _ _ => rfl
          obtain ⟨zb, z0, z2⟩ := zz
          refine wp_region_mid (fun w' => ∃ q : Nat, w' = W5.drewN q) 3 3 (by kernel_rfl) (by kernel_rfl) ⟨1, rfl⟩ ?_
          simp only [List.take_succ_cons, List.take_zero, List.drop_succ_cons, List.drop_zero]
          repeat (go_big_quiet_step (fail))
          refine wpQuiet_nil ?_
          rintro w6 ⟨q6, rfl⟩
          go_wp2_with fail
          go_at_call 70
          refine (C1.out q6).mono ?_
          rintro e w7 ⟨A2, n2, c2, L2, rfl, rfl, V7, k7, N7⟩
          obtain ⟨zb7, z07, z27⟩ := KK.out w7 fun i hi hn => k7.out.block i (show i < W5.heap.size by omega) hn
          have zz7 := V7.out.xa.at_ 0 (by simp)
          have hL2 := Lib.hid V7.out.nlen
          have hn2 : n' < n2 := by have := MORE.out; have := hL2.out; rw [its_len] at *; omega
          have hc2 := (Rd.of_own V7.out.own).nc
          have hc63 := (Rd.of_own V7.out.own).c63
          obtain ⟨g2, o2, z, rfl, hg2, hz, d0, d1, d2⟩ := Rd.item (Rd.of_own V7.out.own) hn2
          have HZ : Hid ((its L2)[(its L').length]? = some z.it) := Lib.hid (by rw [← NL.out]; unfold its; rw [List.getElem?_map, hz]; rfl)
          have hzd := V7.out.dat z (List.mem_of_getElem? hz)
          have hzd := Lib.hid (hzd.below V7.out.bw).1
          have hyd := Lib.hid ((DL.out y HYM.out).below V7.out.bw).1
          clear hz
          simp only [IV.kv, IV.vv] at d0 d1 d2
          have K8 := Lib.hid (((K'.out.below bx).below (bdrewN (n := q6) (Below.refl _ _))).wx k7.out N'.out)
          have EQ : Hid (∀ q, Calls Tryd.prog 16 #[.slice z.kA z.k.length z.kc, .slice y.kA y.k.length y.kc] (w7.drewN q) fun e w' => e = .returned (.bool (eqB z.k y.k)) ∧ w7.drewN q = w') := Lib.hid fun q => Equal_any _ (Lib.hid (hzd.out.drewN q)) (Lib.hid (hyd.out.drewN q))
          by_cases hzy : z.k = y.k
          · have HK : Hid (((its L2)[(its L').length]?).map It.k = some y.it.k) := by rw [HZ.out]; exact Lib.hid (congrArg some hzy)
            have hvl2 : Hid (visL (vis (f.ps.map PV.d) f.free k) (its (Ll.take (j + 1))) (n :: S, its L) = some (S2, its L2)) := Lib.hid (by
              rw [its_take HY.out]
              exact visL_snoc hvl.out HV.out HK.out)
            have EQ : Hid (∀ q, Calls Tryd.prog 16 #[.slice z.kA z.k.length z.kc, .slice y.kA y.k.length y.kc] (w7.drewN q) fun e w' => e = .returned (.bool true) ∧ w7.drewN q = w') := by rw [hzy] at EQ; rw [eqB_self] at EQ; rw [hzy]; exact EQ
            clear hzy
            go_wp2_with fail
            refine MidQ.intro (fun w' => ∃ q : Nat, w' = w7.drewN q) ⟨0, rfl⟩ ?_
            try simp only [Nat.reduceAdd, List.drop_succ_cons, List.drop_zero]
            repeat (go_big_quiet_step (first | (go_at_call 16; exact q0_same (EQ.out _))))
            refine wpQuiet_nil ?_
            rintro w8 ⟨q8, rfl⟩
            have bd8 : Below w7.heap.size w7 (w7.drewN q8) := bdrewN (Below.refl _ _)
            go_wp2_with fail
            go_roundw
            case rel =>
              have hgM : gl ≠ M := by have := (hAl.out gl rfl).1; have := V2.out.mp.lt; omega
              have hgb : gl ≠ ba := by have := (hAl.out gl rfl).1; have := V2.out.xa.lt; omega
              have hgA : blk A' ≠ some gl := apl.out gl rfl
              have nX : ¬ Wx M ba A' gl := by rintro (h | h | h); exact hgM h; exact hgb h; exact hgA h
              refine ⟨j + 1, S2, some ⟨g2, o2, none⟩, n2, c2, L2, by omega, by go_num, Lib.hid (V7.out.below bd8), Lib.hid (K8.out.below bd8), Lib.hid (N'.out.trans N7.out (by have := K'.out.size; have := bx.size; show W.heap.size ≤ W5.heap.size; omega)), Lib.hid ?_, hvl2, Lib.hid ?_, hS2⟩
              · intro g e e2
                injection e with e; simp only at e; subst e
                rcases N7.out with h | ⟨q, h1, h2⟩
                · exact hgA (h.symm.trans e2)
                · rw [h1] at e2; injection e2 with e2; have h2 : W5.heap.size ≤ q := h2; omega
              · have r1 : Rd (W5.drewN q6) 3 (some ⟨gl, ogl, none⟩) nl cl (ic Ll) := (ol'.out.below bx).drewN q6
                exact (Rd.kp r1 k7.out fun g _ e => by injection e with e; simp only at e; subst e; exact nX).below bd8
            case measure => simp [intOf]; omega
          · have R : Hid (r = none) := Lib.hid (by
              rw [← HR1.out, SPL.out]
              exact visL_none hvl.out fun s2 e => by
                have e : vis (f.ps.map PV.d) f.free k y.ch (S', its L') = some s2 := e
                rw [HV.out] at e; injection e with e; subst e
                show ((its L2)[(its L').length]?).map It.k ≠ some y.it.k
                rw [HZ.out]
                intro h; injection h with h; exact hzy h)
            have EQ : Hid (∀ q, Calls Tryd.prog 16 #[.slice z.kA z.k.length z.kc, .slice y.kA y.k.length y.kc] (w7.drewN q) fun e w' => e = .returned (.bool false) ∧ w7.drewN q = w') := by rw [eqB_f hzy] at EQ; exact EQ
            clear hzy
            go_wp2_with fail
            refine MidQ.intro (fun w' => ∃ q : Nat, w' = w7.drewN q) ⟨0, rfl⟩ ?_
            try simp only [Nat.reduceAdd, List.drop_succ_cons, List.drop_zero]
            repeat (go_big_quiet_step (first | (go_at_call 16; exact q0_same (EQ.out _))))
            refine wpQuiet_nil ?_
            rintro w8 ⟨q8, rfl⟩
            have bd8 : Below w7.heap.size w7 (w7.drewN q8) := bdrewN (Below.refl _ _)
            go_wp2_with fail
            go_ret
            exact .inr ⟨R.out, rfl, Lib.hid (K8.out.below bd8)⟩
      · obtain rfl : j = nl := by omega
        have R : Hid (r = some (S', its L')) := Lib.hid (by
          have := hvl.out
          rw [List.take_of_length_le (by have := hnl.out; omega), HR1.out] at this
          exact this)
        go_wp2_with fail
        go_ret
        exact .inl ⟨_, _, _, _, _, R.out, rfl, V', K', N'⟩
end Go.Proofs.YtpmkohnljngbhaaDoor.Pg
/- The walk of page.read. -/
namespace Go.Proofs.YtpmkohnljngbhaaDoor.Pg
set_option maxRecDepth 1000000
open Go.RowKit Wl

def ReadPost (w : World) (f : FV) (root : Int) (e : Ending) (w' : World) : Prop :=
  ((∃ S M A n c L, Rok (f.ps.map PV.d) f.free root (S, its L) ∧ e = .returned (.tuple #[.map (some M), .slice A n c, .bool true]) ∧ Hid (Mb w' M S) ∧ Hid (Iw w' A n c L) ∧ w.heap.size ≤ M) ∨
    ((∀ s, ¬ Rok (f.ps.map PV.d) f.free root s) ∧ e = .returned (.tuple #[.map none, .slice none 0 0, .bool false]))) ∧ Below w.heap.size w w'
/-- The world in which a reading begins. -/
def rdW (w : World) (cs : Array Value) : World :=
  (((((w.alloc (.cells cs 29)).alloc (.map #[] 0)).alloc (.cells #[.map (some (w.heap.size + 1))] 91)).alloc (.cells #[.slice none 0 0] 92)).alloc
    (.cells #[.func (.func 70) #[] #[.pointer (some ⟨w.heap.size, 0, none⟩), .pointer (some ⟨w.heap.size + 1 + 1, 0, none⟩), .pointer (some ⟨w.heap.size + 1 + 1 + 1, 0, none⟩), .pointer (some ⟨w.heap.size + 1 + 1 + 1 + 1, 0, none⟩)]] 111))
theorem rd_vi {w : World} {f : FV} (h : Fl w f) {cs : Array Value} (hc : cs = f.cs.toArray) :
    Vi w (rdW w cs) f w.heap.size (w.heap.size + 1 + 1) (w.heap.size + 1 + 1 + 1) (w.heap.size + 1 + 1 + 1 + 1) (w.heap.size + 1) [] none 0 0 [] ∧ Blks w.heap.size w.heap.size (w.heap.size + 1 + 1) (w.heap.size + 1 + 1 + 1) (w.heap.size + 1 + 1 + 1 + 1) (w.heap.size + 1) := by
  subst hc
  refine ⟨⟨?_, ?_, ?_, ?_, ?_, ?_, World.ownsRow_nil _ _ _ _, by simp, by simp, by simp, by simp [blk]⟩, by constructor <;> omega⟩
  · exact bel_alloc (bel_alloc (bel_alloc (bel_alloc (bal _ _) (Nat.le_refl _) _) (Nat.le_refl _) _) (Nat.le_refl _) _) (Nat.le_refl _) _
  · have b := Bx.new w f.cs.toArray 29
    have := (((b.step (bal _ (.map #[] 0))).step (bal _ (.cells #[.map (some (w.heap.size + 1))] 91))).step (bal _ (.cells #[.slice none 0 0] 92))).step (bal _ (.cells #[.func (.func 70) #[] #[.pointer (some ⟨w.heap.size, 0, none⟩), .pointer (some ⟨w.heap.size + 1 + 1, 0, none⟩), .pointer (some ⟨w.heap.size + 1 + 1 + 1, 0, none⟩), .pointer (some ⟨w.heap.size + 1 + 1 + 1 + 1, 0, none⟩)]] 111))
    exact this
  · exact ((Bx.put _ (by simp) #[.map (some (w.heap.size + 1))] _).step (bal _ _)).step (bal _ _)
  · exact (Bx.put _ (by simp) #[.slice none 0 0] _).step (bal _ _)
  · exact Bx.put _ (by simp) #[_] _
  · have m := Mb.made (w.alloc (.cells f.cs.toArray 29))
    have e : (w.alloc (.cells f.cs.toArray 29)).heap.size = w.heap.size + 1 := by simp
    rw [e] at m
    exact ((m.below (bal _ _)).below (bal _ _)).below (bal _ _)
theorem adj_srt {l : List It} (h : ∀ (i : Nat) (x y : It), l[i]? = some x → l[i + 1]? = some y → cmpB x.k y.k < 0) : Srt l := by
  refine List.pairwise_iff_getElem.2 fun i j hi hj hij => ?_
  obtain ⟨d, rfl⟩ : ∃ d, j = i + 1 + d := ⟨j - i - 1, by omega⟩
  induction d with
  | zero => exact h i _ _ (List.getElem?_eq_getElem hi) (List.getElem?_eq_getElem hj)
  | succ d ih =>
    have h1 := ih (by omega) (by omega)
    exact cmpB_trans h1 (h (i + 1 + d) _ _ (List.getElem?_eq_getElem _) (List.getElem?_eq_getElem hj))
set_option maxRecDepth 1000000 in
set_option maxHeartbeats 6400000 in
theorem read_in {PA FA : Option Addr} {n pc m fc : Nat} {f : FV} (r0 : Int) (root : Int) (w : World) (hcs : Hid (#[.slice PA n pc, .int .i64 r0, .slice FA m fc] = f.cs.toArray))
    (G : Hid (Gl w)) (HF : Hid (Fl w f)) (RY : Hid (Rdy f)) (hr : root ≤ 100000) :
    Calls Tryd.prog 55 #[.agg #[.slice PA n pc, .int .i64 r0, .slice FA m fc], .int .i64 root] w (ReadPost w f root) := by
  have hmm := @run_makeMap Tryd.prog
  obtain ⟨V0, B0⟩ := rd_vi HF.out hcs.out
  have V0 := Lib.hid V0
  have B0 := Lib.hid B0
  by_cases q1 : root < 0
  · have R : Hid (Rok (f.ps.map PV.d) f.free root ([], its [])) := Lib.hid (.no q1)
    go_enter Tryd.func55, Tryd.ntmps55
    go_wp2_with fail
    refine bodyPost_ret (v := .tuple #[.map (some (w.heap.size + 1)), .slice none 0 0, .bool true]) (by simp [results, Tryd.results55, go_sem]) rfl ⟨.inl ⟨[], w.heap.size + 1, none, 0, 0, [], R.out, rfl, Lib.hid V0.out.mp, Lib.hid ⟨Rd.nil_ _ _, by simp⟩, by omega⟩, V0.out.bw⟩
  · obtain ⟨r, rfl⟩ : ∃ r : Nat, root = (r : Int) := ⟨root.toNat, by omega⟩
    have HY : Hid (∀ s, vis (f.ps.map PV.d) f.free (f.ps.length + 1) r ([], its []) = some s → Srt s.2 → Rok (f.ps.map PV.d) f.free (r : Int) s) := Lib.hid fun s h1 h2 => .yes s (by omega) (by rw [List.length_map]; exact h1) h2
    have HN : Hid (∀ s, Rok (f.ps.map PV.d) f.free (r : Int) s → vis (f.ps.map PV.d) f.free (f.ps.length + 1) r ([], its []) = some s ∧ Srt s.2) := Lib.hid fun s h => by
      cases h with
      | no h => omega
      | yes s h hv hs => rw [List.length_map] at hv; exact ⟨hv, hs⟩
    have CV := visit_any G HF RY B0 (f.ps.length + 1) r (rdW w #[.slice PA n pc, .int .i64 r0, .slice FA m fc]) [] none 0 0 [] (by omega) (by simp) V0
    have CV := Lib.hid CV
    obtain ⟨rs, hrs⟩ : ∃ rs, vis (f.ps.map PV.d) f.free (f.ps.length + 1) r ([], its []) = rs := ⟨_, rfl⟩
    rw [hrs] at HY HN CV
    clear hrs V0 B0
    go_enter Tryd.func55, Tryd.ntmps55
    go_wp2_with fail
    go_at_call 70
    refine CV.out.mono ?_
    clear CV
    rintro e w7 (⟨S, A, n7, c7, L, rfl, rfl, V7, K7, N7⟩ | ⟨rfl, rfl, K7⟩)
    · have bw7 := V7.out.bw
      have z7 : w7.cell? ⟨w.heap.size + 1 + 1 + 1, 0, none⟩ = some (.slice A n7 c7) := V7.out.xa.at_ 0 (by simp)
      have zm : w7.cell? ⟨w.heap.size + 1 + 1, 0, none⟩ = some (.map (some (w.heap.size + 1))) := V7.out.xm.at_ 0 (by simp)
      have hL := Lib.hid V7.out.nlen
      have lim := V7.out.lim
      have slt := V7.out.slt
      have n4 := RY.out.n4
      have hn7 : n7 ≤ 344064 := by have := hL.out; omega
      clear lim slt n4
      have olr := Lib.hid (Rd.of_own V7.out.own)
      have hc7 := olr.out.nc
      have hc63 := olr.out.c63
      have DAT := Lib.hid (fun (x : IV) (hx : x ∈ L) => (V7.out.dat x hx).below V7.out.bw)
      go_wp2_with fail
      go_loopw [10] (fun iv wr => ∃ j : Nat, 1 ≤ j ∧ (j ≤ n7 ∨ j = 1) ∧ iv = .int .i64 j ∧ (∃ q : Nat, wr = w7.drewN q) ∧ Hid (∀ (i : Nat) (x y : It), i + 1 < j → (its L)[i]? = some x → (its L)[i + 1]? = some y → cmpB x.k y.k < 0)) (fun iv _ => (n7 - intOf iv).toNat)
      case atStart => exact ⟨1, by omega, by omega, rfl, ⟨0, rfl⟩, Lib.hid fun i x y h => by omega⟩
      case round =>
        obtain ⟨j, hj1, hj, rfl, ⟨q, rfl⟩, hpre⟩ := hrel
        have bq : Below w7.heap.size w7 (w7.drewN q) := bdrewN (Below.refl _ _)
        have z7q : (w7.drewN q).cell? ⟨w.heap.size + 1 + 1 + 1, 0, none⟩ = some (.slice A n7 c7) := z7
        by_cases hlt : j < n7
        · obtain ⟨i, rfl⟩ : ∃ i, j = i + 1 := ⟨j - 1, by omega⟩
          obtain ⟨g, o, x, rfl, hg, hx, a0, _, _⟩ := Rd.item olr.out (show i < n7 by omega)
          obtain ⟨g', o', y, e', _, hy, b0, _, _⟩ := Rd.item olr.out hlt
          injection e' with e'; injection e' with e1 e2; subst e1 e2
          have HX : Hid ((its L)[i]? = some x.it) := Lib.hid (by unfold its; rw [List.getElem?_map, hx]; rfl)
          have HY2 : Hid ((its L)[i + 1]? = some y.it) := Lib.hid (by unfold its; rw [List.getElem?_map, hy]; rfl)
          have dx := Lib.hid (DAT.out x (List.mem_of_getElem? hx)).1
          have dy := Lib.hid (DAT.out y (List.mem_of_getElem? hy)).1
          clear hx hy
          simp only [IV.kv] at a0 b0
          have a0q : (w7.drewN q).cell? ⟨g, o + i * 3, none⟩ = some (.slice x.kA x.k.length x.kc) := a0
          have b0q : (w7.drewN q).cell? ⟨g, o + (i + 1) * 3, none⟩ = some (.slice y.kA y.k.length y.kc) := b0
          have EQ : Hid (∀ q, Calls Tryd.prog 73 #[.slice x.kA x.k.length x.kc, .slice y.kA y.k.length y.kc] (w7.drewN q) fun e w' => e = .returned (.int .i64 (cmpB x.k y.k)) ∧ w7.drewN q = w') := Lib.hid fun q => Compare_any _ (Lib.hid (dx.out.drewN q)) (Lib.hid (dy.out.drewN q))
          by_cases hlt2 : cmpB x.k y.k < 0
          · have hpre2 : Hid (∀ (k : Nat) (x y : It), k + 1 < i + 1 + 1 → (its L)[k]? = some x → (its L)[k + 1]? = some y → cmpB x.k y.k < 0) := Lib.hid fun k a b hk ha hb => by
              rcases Nat.lt_or_ge k i with h | h
              · exact hpre.out k a b (by omega) ha hb
              · obtain rfl : k = i := by omega
                rw [HX.out] at ha; injection ha with ha; subst ha
                rw [HY2.out] at hb; injection hb with hb; subst hb
                exact hlt2
            go_wp2_with fail
            go_quiet (first | (go_at_call 73; exact q_same (EQ.out _)))
            go_wp2_with fail
            go_roundw
            case rel => exact ⟨i + 1 + 1, by omega, by omega, by go_num, ⟨_, rfl⟩, hpre2⟩
            case measure => simp [intOf]; omega
          · have R : Hid (∀ s, ¬ Rok (f.ps.map PV.d) f.free (r : Int) s) := Lib.hid fun s h => by
              obtain ⟨h1, h2⟩ := HN.out s h
              injection h1 with h1; subst h1
              exact hlt2 (h2.at_ HX.out HY2.out (by omega))
            go_wp2_with fail
            go_quiet (first | (go_at_call 73; exact q_same (EQ.out _)))
            go_wp2_with fail
            exact bodyPost_ret (v := .tuple #[.map none, .slice none 0 0, .bool false]) (by simp [results, Tryd.results55, go_sem]) rfl ⟨.inr ⟨R.out, rfl⟩, bdrewN (bdrewN bw7)⟩
        · have SR : Hid (Rok (f.ps.map PV.d) f.free (r : Int) (S, its L)) := Lib.hid (HY.out (S, its L) rfl (adj_srt fun i x y hx hy => hpre.out i x y (by
            have := (List.getElem?_eq_some_iff.1 hy).1
            rw [its_len, ← hL.out] at this; omega) hx hy))
          have zmq : (w7.drewN q).cell? ⟨w.heap.size + 1 + 1, 0, none⟩ = some (.map (some (w.heap.size + 1))) := zm
          go_wp2_with fail
          go_quiet (fail)
          go_wp2_with fail
          exact bodyPost_ret (v := .tuple #[.map (some (w.heap.size + 1)), .slice A n7 c7, .bool true]) (by simp [results, Tryd.results55, go_sem]) rfl ⟨.inl ⟨S, w.heap.size + 1, A, n7, c7, L, SR.out, rfl, Lib.hid ((V7.out.mp.below bq).below (bdrewN (Below.refl _ _))), Lib.hid ((Iw.below ⟨olr.out, DAT.out⟩ bq).below (bdrewN (Below.refl _ _))), by omega⟩, bdrewN (bdrewN bw7)⟩
    · have R : Hid (∀ s, ¬ Rok (f.ps.map PV.d) f.free (r : Int) s) := Lib.hid fun s h => by
        have h1 := (HN.out s h).1
        cases h1
      have B7 : Below w.heap.size w w7 := by
        obtain ⟨V0, B0⟩ := rd_vi HF.out hcs.out
        exact V0.bw.trans (K7.out.low V0.bw.size fun i h => by
          rcases h with h | h | h
          · exact h ▸ B0.M1
          · exact h ▸ B0.a1
          · simp [blk] at h)
      go_wp2_with fail
      exact bodyPost_ret (v := .tuple #[.map none, .slice none 0 0, .bool false]) (by simp [results, Tryd.results55, go_sem]) rfl ⟨.inr ⟨R.out, rfl⟩, B7⟩
theorem read_any (f : FV) (root : Int) (w : World) (G : Hid (Gl w)) (HF : Hid (Fl w f)) (RY : Hid (Rdy f)) (hr : root ≤ 100000) : Calls Tryd.prog 55 #[f.val, .int .i64 root] w (ReadPost w f root) :=
  read_in f.root root w (Lib.hid rfl) G HF RY hr
end Go.Proofs.YtpmkohnljngbhaaDoor.Pg
/- Walks: Valid, Check, find, Get, Old. -/
namespace Go.Proofs.YtpmkohnljngbhaaDoor.Pg
set_option maxRecDepth 1000000
open Go.RowKit Wl

theorem shp_rdy {f : FV} (h : Shp f.f) : Rdy f := by
  have h4 := h.n4
  have hf := h.fr
  simp only [FV.f, List.length_map] at h4 hf
  exact ⟨h4, fun x hx => h.p256 x.d (List.mem_map.2 ⟨x, hx, rfl⟩), frok_srt hf, by have := frok_len hf; omega⟩
theorem shp_root {f : FV} (h : Shp f.f) : f.root ≤ 100000 := by
  have h1 := h.r2
  have h2 := h.n4
  simp only [FV.f, List.length_map] at h1 h2
  omega
/-- The cells of a file, its numbers as letters. -/
abbrev CsOf (f : FV) (PA : Option Addr) (n pc : Nat) (r0 : Int) (FA : Option Addr) (m fc : Nat) : Prop := Hid (#[.slice PA n pc, .int .i64 r0, .slice FA m fc] = f.cs.toArray)
theorem cs_of (f : FV) : CsOf f f.PA f.ps.length f.pc f.root f.FA f.free.length f.fc := Lib.hid rfl
section
variable {f : FV} {PA FA : Option Addr} {n pc m fc : Nat} {r0 : Int}
theorem cs_val (h : CsOf f PA n pc r0 FA m fc) : f.val = .agg #[.slice PA n pc, .int .i64 r0, .slice FA m fc] := by
  rw [h.out]; rfl
theorem cs_root (h : CsOf f PA n pc r0 FA m fc) : r0 = f.root ∧ n = f.ps.length ∧ m = f.free.length ∧ PA = f.PA ∧ pc = f.pc ∧ FA = f.FA ∧ fc = f.fc := by
  have h1 : [Value.slice PA n pc, .int .i64 r0, .slice FA m fc] = [.slice f.PA f.ps.length f.pc, .int .i64 f.root, .slice f.FA f.free.length f.fc] := congrArg Array.toList h.out
  simp only [List.cons.injEq, Value.slice.injEq, Value.int.injEq] at h1
  obtain ⟨⟨a, b, c⟩, ⟨_, d⟩, ⟨e, g, i⟩, _⟩ := h1
  exact ⟨d, b, g, a, c, e, i⟩
theorem shaped_cs (hcs : CsOf f PA n pc r0 FA m fc) (w : World) (HF : Hid (Fl w f)) : Calls Tryd.prog 54 #[.agg #[.slice PA n pc, .int .i64 r0, .slice FA m fc]] w (ShPost w f.f) := by
  have := shaped_any f w HF; rwa [cs_val hcs] at this
def VaPost (w : World) (f : FV) (e : Ending) (w' : World) : Prop := ∃ b, e = .returned (.bool b) ∧ (b = true ↔ Vld f.f) ∧ Below w.heap.size w w'
set_option maxHeartbeats 1600000 in
theorem Valid_cs (hcs : CsOf f PA n pc r0 FA m fc) (w : World) (G : Hid (Gl w)) (HF : Hid (Fl w f)) : Calls Tryd.prog 37 #[.agg #[.slice PA n pc, .int .i64 r0, .slice FA m fc]] w (VaPost w f) := by
  have hb0 : Below w.heap.size w (w.alloc (.cells #[.slice PA n pc, .int .i64 r0, .slice FA m fc] 29)) := bal _ _
  have HF0 := Lib.hid (HF.out.below hb0)
  have G0 := Lib.hid (G.out.below hb0)
  have hr0 := Lib.hid (cs_root hcs).1
  go_enter Tryd.func37, Tryd.ntmps37
  go_wp2_with fail
  go_at_call 54
  refine (shaped_cs hcs _ HF0).mono ?_
  rintro e w1 ⟨b, rfl, hb, b1⟩
  have bw1 := hb0.trans (b1.mono hb0.size)
  by_cases hbt : b = true
  · subst hbt
    have SH := Lib.hid (hb.1 rfl)
    have HF1 := Lib.hid (HF0.out.below b1)
    have G1 := Lib.hid (G0.out.below b1)
    have RY := Lib.hid (shp_rdy SH.out)
    have hr : r0 ≤ 100000 := by rw [hr0.out]; exact shp_root SH.out
    have Bx0 := Lib.hid ((Bx.new w #[.slice PA n pc, .int .i64 r0, .slice FA m fc] 29).step b1)
    have z0 := Bx0.out.at_ 0 (by simp)
    have z1 := Bx0.out.at_ 1 (by simp)
    have z2 := Bx0.out.at_ 2 (by simp)
    simp only [List.getElem?_cons_succ, List.getElem?_cons_zero] at z0 z1 z2
    clear hb
    go_wp2_with fail
    go_at_call 55
    refine (read_in r0 r0 _ hcs G1 HF1 RY hr).mono ?_
    rintro e w2 ⟨⟨S, M, A, n7, c7, L, rok, rfl, _, _, _⟩ | ⟨rok, rfl⟩, b2⟩
    · have R : Hid (Vld f.f) := Lib.hid ⟨SH.out, _, by rw [hr0.out] at rok; exact rok⟩
      clear rok
      go_wp2_with fail
      go_ret
      exact ⟨true, rfl, ⟨fun _ => R.out, fun _ => rfl⟩, bw1.trans (b2.mono bw1.size)⟩
    · have R : Hid ((false : Bool) = true ↔ Vld f.f) := Lib.hid ⟨fun e => (by cases e), fun h => by obtain ⟨s, hs⟩ := h.2; exact absurd hs (by have := rok s; rwa [hr0.out] at this)⟩
      clear rok
      go_wp2_with fail
      go_ret
      exact ⟨false, rfl, R.out, bw1.trans (b2.mono bw1.size)⟩
  · obtain rfl : b = false := by simpa using hbt
    have R : Hid ((false : Bool) = true ↔ Vld f.f) := Lib.hid ⟨fun e => (by cases e), fun h => by have := hb.2 h.1; cases this⟩
    clear hb hbt
    go_wp2_with fail
    go_ret
    exact ⟨false, rfl, R.out, bw1⟩
def ChPost (w : World) (f : FV) (e : Ending) (w' : World) : Prop := ∃ (k : Nat) (er : Int), ChkO f.f k er ∧ e = .returned (.tuple #[.int .i64 (k : Int), .int .i64 er]) ∧ Below w.heap.size w w'
/-- A value, and an error. -/
def DatPost (w : World) (O : List UInt8 → Int → Prop) (e : Ending) (w' : World) : Prop := ∃ (d : List UInt8) (er : Int) (A : Option Addr) (c : Nat), O d er ∧ e = .returned (.tuple #[.slice A d.length c, .int .i64 er]) ∧ Hid (Rd w' 1 A d.length c (bv d) ∧ ∀ g, blk A = some g → w.heap.size ≤ g) ∧ Below w.heap.size w w'
theorem DatPost.nil_ {w w' : World} {O : List UInt8 → Int → Prop} {er : Int} (h : O [] er) (hb : Below w.heap.size w w') : DatPost w O (.returned (.tuple #[.slice none 0 0, .int .i64 er])) w' := ⟨[], er, none, 0, h, rfl, Lib.hid ⟨Rd.nil_ _ _, fun g e => by simp [blk] at e⟩, hb⟩
set_option maxHeartbeats 1600000 in
theorem find_cs (hcs : CsOf f PA n pc r0 FA m fc) {K : Option Addr} {kn kc : Nat} {key : List UInt8} (root : Int) (w : World) (G : Hid (Gl w)) (HF : Hid (Fl w f)) (RY : Hid (Rdy f)) (hr : root ≤ 100000) (hk : Hid (Rd w 1 K kn kc (bv key))) :
    Calls Tryd.prog 76 #[.agg #[.slice PA n pc, .int .i64 r0, .slice FA m fc], .int .i64 root, .slice K kn kc] w (DatPost w (FndO f.f root key)) := by
  have hb0 : Below w.heap.size w (w.alloc (.cells #[.slice PA n pc, .int .i64 r0, .slice FA m fc] 29)) := bal _ _
  have HF0 := Lib.hid (HF.out.below hb0)
  have G0 := Lib.hid (G.out.below hb0)
  have K0 := Lib.hid (Rd.below hk.out hb0)
  go_enter Tryd.func76, Tryd.ntmps76
  go_wp2_with fail
  go_at_call 55
  refine (read_in r0 root _ hcs G0 HF0 RY hr).mono ?_
  rintro e w1 ⟨⟨S, M, A, n7, c7, L, rok, rfl, mb, iw, _⟩ | ⟨rok, rfl⟩, b1⟩
  · have bw1 := hb0.trans (b1.mono hb0.size)
    have K1 := Lib.hid (Rd.below K0.out b1)
    have ROK := Lib.hid rok
    have SR := Lib.hid rok.srt
    clear rok
    have hL := Lib.hid (len3 iw.out.row)
    have hn7 : n7 ≤ 1000000 := by
      have h1 := ROK.out.items (fun p hp => by obtain ⟨x, hx, rfl⟩ := List.mem_map.1 hp; exact RY.out.p256 x hx)
      have h3 := hL.out
      have h4 := h1.lim
      have h5 := h1.sz
      have h6 := RY.out.n4
      simp only [List.length_map] at h5
      simp only [its_len] at h4
      omega
    go_wp2_with fail
    go_at_call 88
    refine (search_any _ iw K1 SR hn7).mono ?_
    rintro e w2 ⟨i, b, rfl, hp, b2⟩
    have bw2 := bw1.trans (b2.mono bw1.size)
    rcases b with _ | _
    · have R : Hid (FndO f.f root key [] 7) := Lib.hid (.none _ ROK.out (lkp_none (hp.no SR.out)))
      clear hp
      go_wp2_with fail
      go_ret2
      exact DatPost.nil_ R.out bw2
    · obtain ⟨xi, hxi, hxk⟩ := hp.fd.1 rfl
      have hi7 : i < n7 := by
        have := (List.getElem?_eq_some_iff.1 hxi).1
        rw [its_len] at this; have := hL.out; omega
      have I2 := Lib.hid (iw.out.below b2)
      obtain ⟨g, o, x, rfl, hg, hx, _, a1, _⟩ := Rd.item I2.out.row hi7
      obtain rfl : xi = x.it := by
        unfold its at hxi; rw [List.getElem?_map, hx] at hxi; injection hxi with hxi; exact hxi.symm
      have R : Hid (FndO f.f root key x.v 0) := Lib.hid (.some _ _ ROK.out (lkp_some SR.out hxi hxk))
      have hv := Lib.hid (I2.out.dat x (List.mem_of_getElem? hx)).2
      have hvl : x.v.length ≤ 1073741824 := by
        have h1 := (ROK.out.items (fun p hp => by obtain ⟨x, hx, rfl⟩ := List.mem_map.1 hp; exact RY.out.p256 x hx)).ok x.it (List.mem_of_getElem? hxi)
        have := h1.v2
        have e : x.it.v = x.v := rfl
        rw [e] at this; omega
      clear hp hxi hxk hx
      simp only [IV.vv] at a1
      have hc7 := I2.out.row.nc
      have hc63 := I2.out.row.c63
      obtain ⟨vn, hvn⟩ : ∃ vn, x.v.length = vn := ⟨_, rfl⟩
      rw [hvn] at a1 hv hvl
      go_wp2_with fail
      go_at_call 44
      refine (bclone_any _ hv (bv_one _) hvl).mono ?_
      rintro e w3 ⟨A3, c3, rfl, own3, b3⟩
      have HVN := Lib.hid hvn
      clear hvn
      go_wp2_with fail
      go_ret2
      refine ⟨x.v, 0, A3, c3, R.out, ?_, ?_, bw2.trans (b3.mono bw2.size)⟩
      · rw [HVN.out]; rfl
      · rw [HVN.out]; exact Lib.hid ⟨Rd.of_own own3.out, fun g e => Nat.le_trans bw2.size (own_blk_le own3.out e).1⟩
  · have bw1 := hb0.trans (b1.mono hb0.size)
    have R : Hid (FndO f.f root key [] 16) := Lib.hid (.bad rok)
    clear rok
    go_wp2_with fail
    go_ret2
    exact DatPost.nil_ R.out bw1
end
end Go.Proofs.YtpmkohnljngbhaaDoor.Pg
/- Walks: Get, Old. -/
namespace Go.Proofs.YtpmkohnljngbhaaDoor.Pg
set_option maxRecDepth 1000000
open Go.RowKit Wl

theorem lenB_key {key : List UInt8} {kn : Nat} (h : kn = key.length) : lenB kn 0 = true ↔ lenK key := by
  unfold lenB lenK; rw [decide_eq_true_iff, h]; omega
section
variable {f : FV} {PA FA : Option Addr} {n pc m fc : Nat} {r0 : Int}
set_option maxHeartbeats 1600000 in
theorem Get_cs (hcs : CsOf f PA n pc r0 FA m fc) {K : Option Addr} {kn kc : Nat} {key : List UInt8} (w : World) (G : Hid (Gl w)) (HF : Hid (Fl w f)) (hk : Hid (Rd w 1 K kn kc (bv key))) :
    Calls Tryd.prog 58 #[.agg #[.slice PA n pc, .int .i64 r0, .slice FA m fc], .slice K kn kc] w (DatPost w (GetO f.f key)) := by
  have hb0 : Below w.heap.size w (w.alloc (.cells #[.slice PA n pc, .int .i64 r0, .slice FA m fc] 29)) := bal _ _
  have HF0 := Lib.hid (HF.out.below hb0)
  have G0 := Lib.hid (G.out.below hb0)
  have K0 := Lib.hid (Rd.below hk.out hb0)
  have hr0 := Lib.hid (cs_root hcs).1
  have LK : Hid (lenB kn 0 = true ↔ lenK key) := Lib.hid (lenB_key (by have := hk.out.len; rw [bv_len] at this; omega))
  go_enter Tryd.func58, Tryd.ntmps58
  go_wp2_with fail
  go_at_call 75
  refine (lengths_any _).mono ?_
  rintro e w' ⟨rfl, rfl⟩
  by_cases q1 : lenB kn 0 = true
  · have HK := Lib.hid (LK.out.1 q1)
    rw [q1]
    clear q1
    go_wp2_with fail
    go_at_call 54
    refine (shaped_cs hcs _ HF0).mono ?_
    rintro e w1 ⟨b, rfl, hb, b1⟩
    have bw1 := hb0.trans (b1.mono hb0.size)
    by_cases hbt : b = true
    · subst hbt
      have SH := Lib.hid (hb.1 rfl)
      have HF1 := Lib.hid (HF0.out.below b1)
      have G1 := Lib.hid (G0.out.below b1)
      have K1 := Lib.hid (Rd.below K0.out b1)
      have RY := Lib.hid (shp_rdy SH.out)
      have hr : r0 ≤ 100000 := by rw [hr0.out]; exact shp_root SH.out
      have Bx0 := Lib.hid ((Bx.new w #[.slice PA n pc, .int .i64 r0, .slice FA m fc] 29).step b1)
      have z0 := Bx0.out.at_ 0 (by simp)
      have z1 := Bx0.out.at_ 1 (by simp)
      have z2 := Bx0.out.at_ 2 (by simp)
      simp only [List.getElem?_cons_succ, List.getElem?_cons_zero] at z0 z1 z2
      clear hb
      go_wp2_with fail
      go_at_call 76
      refine (find_cs hcs r0 _ G1 HF1 RY hr K1).mono ?_
      rintro e w2 ⟨d, er, A, c, O, rfl, rd, b2⟩
      have R : Hid (GetO f.f key d er) := Lib.hid (.get HK.out SH.out d er (by rw [hr0.out] at O; exact O))
      clear O
      go_wp2_with fail
      go_ret2
      exact ⟨d, er, A, c, R.out, rfl, Lib.hid ⟨rd.out.1, fun g e => Nat.le_trans bw1.size (rd.out.2 g e)⟩, bw1.trans (b2.mono bw1.size)⟩
    · obtain rfl : b = false := by simpa using hbt
      have R : Hid (GetO f.f key [] 16) := Lib.hid (.log HK.out fun h => by have := hb.2 h; cases this)
      clear hb hbt
      go_wp2_with fail
      go_ret2
      exact DatPost.nil_ R.out bw1
  · have R : Hid (GetO f.f key [] 1) := Lib.hid (.arg fun h => q1 (LK.out.2 h))
    have q1 : lenB kn 0 = false := by simpa using q1
    rw [q1]
    clear q1
    go_wp2_with fail
    go_ret2
    exact DatPost.nil_ R.out hb0
end
end Go.Proofs.YtpmkohnljngbhaaDoor.Pg
