/- Items of pages in memory; what stays where blocks are written. -/
import Derived.Test.YtphiblmkgbkdmaaDoorWalMem
import Derived.Test.YtphiblmkgbkdmaaDoorPgM2
namespace Go.Proofs.YtphiblmkgbkdmaaDoor.Pg
set_option linter.unusedVariables false
set_option linter.unusedSimpArgs false
open Go.RowKit Wl

theorem bal (w : World) (o : Obj) : Below w.heap.size w (w.alloc o) := (Below.refl _ _).alloc (Nat.le_refl _) _
theorem one3 (a b c : Value) (h1 : a.oneCell' = true) (h2 : b.oneCell' = true) (h3 : c.oneCell' = true) : ∀ u ∈ (#[a, b, c] : Array Value).toList, u.oneCell' = true := by
  intro u hu
  simp only [List.mem_cons, List.not_mem_nil, or_false] at hu
  rcases hu with rfl | rfl | rfl <;> assumption
/-- An item in memory. -/
structure IV where
  kA : Option Addr
  kc : Nat
  k : List UInt8
  vA : Option Addr
  vc : Nat
  v : List UInt8
  ch : Nat
def IV.it (x : IV) : It := ⟨x.k, x.v, x.ch⟩
def IV.kv (x : IV) : Value := .slice x.kA x.k.length x.kc
def IV.vv (x : IV) : Value := .slice x.vA x.v.length x.vc
def IV.cs (x : IV) : List Value := [x.kv, x.vv, .int .i64 (x.ch : Int)]
def IV.val (x : IV) : Value := .agg #[x.kv, x.vv, .int .i64 (x.ch : Int)]
def ic (l : List IV) : List Value := (l.map IV.cs).flatten
def its (l : List IV) : List It := l.map IV.it
theorem its_app (a b : List IV) : its (a ++ b) = its a ++ its b := by simp [its]
theorem its_len (a : List IV) : (its a).length = a.length := by simp [its]
theorem ic_len : ∀ l, (ic l).length = l.length * 3
  | [] => rfl
  | x :: l => by
    have := ic_len l
    simp only [ic, List.map_cons, List.flatten_cons, List.length_append, List.length_cons, IV.cs] at this ⊢
    simp only [List.length_nil]; omega
theorem ic_app (a b : List IV) : ic (a ++ b) = ic a ++ ic b := by simp [ic]
theorem ic_snoc (l : List IV) (x : IV) : ic (l ++ [x]) = ic l ++ x.cs := by simp [ic]
theorem ic_one (l : List IV) : ∀ u ∈ ic l, u.oneCell' = true := by
  intro u hu
  simp only [ic, List.mem_flatten, List.mem_map] at hu
  obtain ⟨_, ⟨x, _, rfl⟩, hu⟩ := hu
  simp only [IV.cs, IV.kv, IV.vv, List.mem_cons, List.not_mem_nil, or_false] at hu
  rcases hu with rfl | rfl | rfl <;> rfl
theorem ic_get : ∀ (l : List IV) (i : Nat) (x : IV), l[i]? = some x → (ic l)[i * 3]? = some x.kv ∧ (ic l)[i * 3 + 1]? = some x.vv ∧ (ic l)[i * 3 + 2]? = some (.int .i64 (x.ch : Int))
  | [], i, x, h => by simp at h
  | y :: l, 0, x, h => by
    obtain rfl : y = x := by simpa using h
    simp [ic, IV.cs]
  | y :: l, i + 1, x, h => by
    have := ic_get l i x (by simpa using h)
    have e : ic (y :: l) = y.cs ++ ic l := by simp [ic]
    have h3 : y.cs.length = 3 := rfl
    rw [e, List.getElem?_append_right (by omega), List.getElem?_append_right (by omega), List.getElem?_append_right (by omega), h3]
    rw [show (i + 1) * 3 - 3 = i * 3 by omega, show (i + 1) * 3 + 1 - 3 = i * 3 + 1 by omega, show (i + 1) * 3 + 2 - 3 = i * 3 + 2 by omega]
    exact this
theorem ic_drop : ∀ (l : List IV) (k : Nat), (ic l).drop (k * 3) = ic (l.drop k)
  | l, 0 => by simp
  | [], k + 1 => by simp [ic]
  | y :: l, k + 1 => by
    have e : ic (y :: l) = y.cs ++ ic l := by simp [ic]
    have h3 : y.cs.length = 3 := rfl
    rw [List.drop_succ_cons, ← ic_drop l k, e, show (k + 1) * 3 = y.cs.length + k * 3 by omega, List.drop_append, List.drop_of_length_le (by omega), Nat.add_sub_cancel_left]; rfl
theorem ic_take (l : List IV) (k : Nat) (hk : k ≤ l.length) : (ic l).take (k * 3) = ic (l.take k) := by
  have e := List.take_append_drop k l
  have hl : (ic (l.take k)).length = k * 3 := by rw [ic_len, List.length_take, Nat.min_eq_left hk]
  conv => lhs; rw [← e, ic_app]
  rw [← hl, List.take_left]
theorem len3 {w : World} {n c : Nat} {A : Option Addr} {l : List IV} (h : Rd w 3 A n c (ic l)) : n = l.length := by
  have := h.len; rw [ic_len] at this; omega
theorem Rd.item {w : World} {n c k : Nat} {A : Option Addr} {l : List IV} (h : Rd w 3 A n c (ic l)) (hk : k < n) :
    ∃ g o x, A = some ⟨g, o, none⟩ ∧ g < w.heap.size ∧ l[k]? = some x ∧ w.cell? ⟨g, o + k * 3, none⟩ = some x.kv ∧ w.cell? ⟨g, o + k * 3 + 1, none⟩ = some x.vv ∧ w.cell? ⟨g, o + k * 3 + 2, none⟩ = some (.int .i64 (x.ch : Int)) := by
  obtain ⟨g, o, e, hb, hc⟩ := h.at_ (by omega)
  have hl := len3 h
  have hx : l[k]? = some (l[k]'(by omega)) := List.getElem?_eq_getElem (by omega)
  obtain ⟨k0, k1, k2⟩ := ic_get l k _ hx
  exact ⟨g, o, _, e, hb, hx, by rw [hc _ (by omega), k0], by rw [Nat.add_assoc, hc _ (by omega), k1], by rw [Nat.add_assoc, hc _ (by omega), k2]⟩

/-- From w to w' nothing has turned but the blocks of X and new ones. -/
structure Kp (w w' : World) (X : Nat → Prop) : Prop where
  os : w'.os = w.os
  tape : w'.tape = w.tape
  output : w'.output = w.output
  size : w.heap.size ≤ w'.heap.size
  block : ∀ i, i < w.heap.size → ¬ X i → w'.heap[i]? = w.heap[i]?
section
variable {w w1 w2 : World} {X Y : Nat → Prop}
theorem Kp.refl (w : World) (X : Nat → Prop) : Kp w w X := ⟨rfl, rfl, rfl, Nat.le_refl _, fun _ _ _ => rfl⟩
theorem Kp.trans (h : Kp w w1 X) (k : Kp w1 w2 Y) (hY : ∀ i, i < w.heap.size → Y i → X i) : Kp w w2 X :=
  ⟨k.os.trans h.os, k.tape.trans h.tape, k.output.trans h.output, Nat.le_trans h.size k.size, fun i hi hn => (k.block i (Nat.lt_of_lt_of_le hi h.size) fun e => hn (hY i hi e)).trans (h.block i hi hn)⟩
theorem Kp.of_below (h : Below w.heap.size w w1) (X : Nat → Prop) : Kp w w1 X := ⟨h.os, h.tape, h.output, h.size, fun i hi _ => h.block i hi⟩
theorem Kp.below (h : Kp w w1 X) (k : Below w1.heap.size w1 w2) : Kp w w2 X := h.trans (Kp.of_below k fun _ => False) fun _ _ e => e.elim
theorem Kp.of_grew {A A' : Option Addr} (h : Grew w A w1 A') (hX : ∀ g, blk A = some g → X g) : Kp w w1 X :=
  ⟨h.by_.os, h.by_.tape, h.by_.output, h.by_.size, fun i hi hn => h.by_.block i hi fun e => hn (hX i e.symm)⟩
theorem Kp.of_set (w : World) (p : Addr) (v : Value) (hX : X p.block) : Kp w (w.setCell p v) X :=
  ⟨rfl, rfl, rfl, by simp [World.setCell], fun i _ hn => Below.heap_setCell w p v i fun e => hn (by rw [e]; exact hX)⟩
theorem Kp.low {B : Nat} (h : Kp w w1 X) (hB : B ≤ w.heap.size) (hX : ∀ i, X i → B ≤ i) : Below B w w1 :=
  ⟨h.os, h.tape, h.output, h.size, fun i hi => h.block i (by omega) fun e => by have := hX i e; omega⟩
theorem Kp.mono (h : Kp w w1 X) (hX : ∀ i, i < w.heap.size → X i → Y i) : Kp w w1 Y := ⟨h.os, h.tape, h.output, h.size, fun i hi hn => h.block i hi fun e => hn (hX i hi e)⟩
theorem Kp.cell (h : Kp w w1 X) {b o : Nat} (hb : b < w.heap.size) (hn : ¬ X b) : w1.cell? ⟨b, o, none⟩ = w.cell? ⟨b, o, none⟩ := World.cell?_of_block (h.block b hb hn)
theorem Rd.kp {size n c : Nat} {A : Option Addr} {xs : List Value} (h : Rd w size A n c xs) (k : Kp w w1 X) (hA : ∀ g, 0 < n → blk A = some g → ¬ X g) : Rd w1 size A n c xs :=
  ⟨h.len, h.nc, h.nil, h.c63, fun hn => by
    obtain ⟨g, o, e, hb, hc⟩ := h.at_ hn
    refine ⟨g, o, e, Nat.lt_of_lt_of_le hb k.size, fun j hj => ?_⟩
    rw [← hc j hj]
    exact k.cell hb (hA g hn (by rw [e]; rfl))⟩
theorem own_kp {base e size n c : Nat} {A : Option Addr} {xs : List Value} (h : w.ownsRow base e size (.slice A n c) n xs) (k : Kp w w1 X) (hA : ∀ g, blk A = some g → ¬ X g) : w1.ownsRow base e size (.slice A n c) n xs := by
  obtain ⟨h1, h2⟩ := h
  refine ⟨h1, h2.imp id ?_⟩
  rintro ⟨g, cap, cur, e, hb, hg, hrest⟩
  refine ⟨g, cap, cur, e, hb, (k.block g (Array.getElem?_eq_some_iff.1 hg).1 (hA g ?_)).trans hg, hrest⟩
  injection e with e; rw [e]; rfl
theorem Kp.grew_own {base e size n c : Nat} {A A' : Option Addr} {xs : List Value} (hA : w.ownsRow base e size (.slice A n c) n xs) (h : Grew w A w1 A') (hX : ∀ g, base ≤ g → g < w.heap.size → blk A = some g → X g) : Kp w w1 X :=
  Kp.of_grew h fun g e => by have := own_blk_le hA e; exact hX g this.1 this.2 e
end
/-- A block that is kept: below base, or bytes. -/
def Sf (w : World) (base g : Nat) : Prop := g < base ∨ ∃ cs, w.heap[g]? = some (.cells cs 5 (0, 0))
/-- From w to w' bytes and all that lies below base have stayed. -/
structure Wr (base : Nat) (w w' : World) : Prop where
  os : w'.os = w.os
  tape : w'.tape = w.tape
  output : w'.output = w.output
  size : w.heap.size ≤ w'.heap.size
  keep : ∀ i, i < w.heap.size → Sf w base i → w'.heap[i]? = w.heap[i]?
section
variable {w w1 w2 : World} {X : Nat → Prop} {base : Nat}
theorem Sf.wr {g : Nat} (h : Sf w base g) (hg : g < w.heap.size) (k : Wr base w w1) : Sf w1 base g := by
  rcases h with h | ⟨cs, h⟩
  · exact .inl h
  · exact .inr ⟨cs, by rw [k.keep g hg (.inr ⟨cs, h⟩), h]⟩
theorem Wr.refl (base : Nat) (w : World) : Wr base w w := ⟨rfl, rfl, rfl, Nat.le_refl _, fun _ _ _ => rfl⟩
theorem Wr.trans (h : Wr base w w1) (k : Wr base w1 w2) : Wr base w w2 :=
  ⟨k.os.trans h.os, k.tape.trans h.tape, k.output.trans h.output, Nat.le_trans h.size k.size, fun i hi hs => (k.keep i (Nat.lt_of_lt_of_le hi h.size) (hs.wr hi h)).trans (h.keep i hi hs)⟩
theorem Wr.of_kp (h : Kp w w1 X) (hX : ∀ i, X i → ¬ Sf w base i) : Wr base w w1 :=
  ⟨h.os, h.tape, h.output, h.size, fun i hi hs => h.block i hi fun e => hX i e hs⟩
theorem Wr.of_below (h : Below w.heap.size w w1) (base : Nat) : Wr base w w1 := ⟨h.os, h.tape, h.output, h.size, fun i hi _ => h.block i hi⟩
theorem Wr.low (h : Wr base w w1) (hb : base ≤ w.heap.size) : Below base w w1 := ⟨h.os, h.tape, h.output, h.size, fun i hi => h.keep i (by omega) (.inl hi)⟩
theorem Rd.wr {size n c : Nat} {A : Option Addr} {xs : List Value} (h : Rd w size A n c xs) (k : Wr base w w1) (hA : ∀ g, 0 < n → blk A = some g → Sf w base g) : Rd w1 size A n c xs :=
  ⟨h.len, h.nc, h.nil, h.c63, fun hn => by
    obtain ⟨g, o, e, hb, hc⟩ := h.at_ hn
    refine ⟨g, o, e, Nat.lt_of_lt_of_le hb k.size, fun j hj => ?_⟩
    rw [← hc j hj]
    exact World.cell?_of_block (k.keep g hb (hA g hn (by rw [e]; rfl)))⟩
end
/-- Bytes that stay. -/
structure By (w : World) (base : Nat) (A : Option Addr) (c : Nat) (d : List UInt8) : Prop where
  rd : Rd w 1 A d.length c (bv d)
  sf : ∀ g, 0 < d.length → blk A = some g → Sf w base g
theorem By.wr {w w1 : World} {base c : Nat} {A : Option Addr} {d : List UInt8} (h : By w base A c d) (k : Wr base w w1) : By w1 base A c d :=
  ⟨Rd.wr h.rd k h.sf, fun g hn e => by
    obtain ⟨g', o, e', hb, _⟩ := h.rd.at_ hn
    rw [e'] at e
    injection e with e
    subst e
    exact (h.sf g' hn (by rw [e']; rfl)).wr hb k⟩
/-- The bytes of an item stay. -/
structure Iy (w : World) (base : Nat) (x : IV) : Prop where
  k : By w base x.kA x.kc x.k
  v : By w base x.vA x.vc x.v
theorem Iy.wr {w w1 : World} {base : Nat} {x : IV} (h : Iy w base x) (k : Wr base w w1) : Iy w1 base x := ⟨h.k.wr k, h.v.wr k⟩
/-- Items that can be read. -/
structure Ir (w : World) (base : Nat) (A : Option Addr) (n c : Nat) (l : List IV) : Prop where
  row : Rd w 3 A n c (ic l)
  dat : ∀ x ∈ l, Iy w base x
theorem Ir.len {w : World} {base n c : Nat} {A : Option Addr} {l : List IV} (h : Ir w base A n c l) : n = l.length := len3 h.row
theorem Ir.below {w w1 : World} {base n c : Nat} {A : Option Addr} {l : List IV} (h : Ir w base A n c l) (hb : Below w.heap.size w w1) : Ir w1 base A n c l :=
  ⟨h.row.below hb, fun x hx => (h.dat x hx).wr (Wr.of_below hb _)⟩
theorem Ir.kp {w w1 : World} {X : Nat → Prop} {base n c : Nat} {A : Option Addr} {l : List IV} (h : Ir w base A n c l) (k : Kp w w1 X) (hA : ∀ g, 0 < n → blk A = some g → ¬ X g) (hX : ∀ i, X i → ¬ Sf w base i) : Ir w1 base A n c l :=
  ⟨Rd.kp h.row k hA, fun x hx => (h.dat x hx).wr (Wr.of_kp k hX)⟩
theorem Ir.cut {w : World} {base n c g o lo hi : Nat} {l : List IV} (h : Ir w base (some ⟨g, o, none⟩) n c l) (h1 : lo ≤ hi) (h2 : hi ≤ n) : Ir w base (some ⟨g, o + lo * 3, none⟩) (hi - lo) (c - lo) ((l.drop lo).take (hi - lo)) := by
  have hl := h.len
  refine ⟨?_, fun x hx => h.dat x (List.mem_of_mem_drop (List.mem_of_mem_take hx))⟩
  have hn := h.row.len
  have hc := h.row.nc
  have h63 := h.row.c63
  have hlen : ((l.drop lo).take (hi - lo)).length = hi - lo := by rw [List.length_take, List.length_drop]; omega
  refine ⟨by rw [ic_len, hlen], by omega, fun e => (by cases e), by omega, fun hp => ?_⟩
  obtain ⟨g', o', e, hb, hcell⟩ := h.row.at_ (by omega)
  injection e with e
  injection e with e1 e2
  subst e1 e2
  refine ⟨g, o + lo * 3, rfl, hb, fun j hj => ?_⟩
  rw [Nat.add_assoc, hcell _ (by omega), ← ic_take _ _ (by rw [List.length_drop]; omega), ← ic_drop, List.getElem?_take, if_pos hj, List.getElem?_drop]
end Go.Proofs.YtphiblmkgbkdmaaDoor.Pg
