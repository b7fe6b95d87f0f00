/- Slices of bytes and of records in memory: what is read, what is the call's own, what stays. -/
import Derived.Test.YtpmkohnljngbhaaGreatDoorKit
import Derived.Test.YtpmkohnljngbhaaGreatDoorWalM
import Derived.Maps.AppendAt
import Derived.RegionTactic
import Derived.OwnWalk
import Derived.Test.YtpmkohnljngbhaaGreatDoorProg
import Derived.Maps.OwnSet
import Derived.Maps.OwnOps
import Derived.Maps.Views
set_option linter.all false
namespace Go.Proofs.YtpmkohnljngbhaaGreatDoor.Wl
set_option linter.unusedVariables false
set_option linter.unusedSimpArgs false
set_option maxRecDepth 1000000
open Go.RowKit

def bv (l : List UInt8) : List Value := l.map fun u => .int .u8 (u.toNat : Int)
theorem bv_len (l : List UInt8) : (bv l).length = l.length := by simp [bv]
theorem bv_app (a b : List UInt8) : bv (a ++ b) = bv a ++ bv b := by simp [bv]
theorem bv_get (l : List UInt8) (j : Nat) : (bv l)[j]? = l[j]?.map fun u => .int .u8 (u.toNat : Int) := by simp [bv]
theorem bv_one (l : List UInt8) : ∀ u ∈ bv l, u.oneCell' = true := by
  intro u hu
  obtain ⟨x, _, rfl⟩ := List.mem_map.1 hu
  rfl
theorem bv_inj {a b : List UInt8} (h : bv a = bv b) : a = b := by
  refine (List.map_inj_right fun x y e => ?_).1 h
  injection e with _ e
  exact UInt8.toNat_inj.1 (by omega)

/-- The slice (A, n, c) reads as the cells xs. -/
structure Rd (w : World) (size : Nat) (A : Option Addr) (n c : Nat) (xs : List Value) : Prop where
  len : xs.length = n * size
  nc : n ≤ c
  nil : A = none → c = 0
  c63 : c ≤ 9223372036854775807
  at_ : 0 < n → ∃ g o, A = some ⟨g, o, none⟩ ∧ g < w.heap.size ∧ ∀ j, j < n * size → w.cell? ⟨g, o + j, none⟩ = xs[j]?

section
variable {w w' : World} {size n c : Nat} {A : Option Addr} {xs : List Value}
theorem Rd.grown (h : Rd w size A n c xs) {row : Option Nat} (hg : w.grownBy w' row) (hr : ∀ a, A = some a → 0 < n → row ≠ some a.block) : Rd w' size A n c xs :=
  ⟨h.len, h.nc, h.nil, h.c63, fun hn => by
    obtain ⟨g, o, e, hb, hc⟩ := h.at_ hn
    refine ⟨g, o, e, Nat.lt_of_lt_of_le hb hg.size, fun j hj => ?_⟩
    rw [← hc j hj]
    exact World.cell?_of_block (hg.block g hb fun e' => hr _ e hn e'.symm)⟩
theorem Rd.below (h : Rd w size A n c xs) (hb : Below w.heap.size w w') : Rd w' size A n c xs :=
  h.grown (row := none) ⟨hb.os, hb.tape, hb.output, hb.size, fun i hi _ => hb.block i hi⟩ (by simp)
theorem Rd.drewN (h : Rd w size A n c xs) (k : Nat) : Rd (w.drewN k) size A n c xs := ⟨h.len, h.nc, h.nil, h.c63, h.at_⟩
theorem Rd.alloc (h : Rd w size A n c xs) (o : Obj) : Rd (w.alloc o) size A n c xs := h.below ((Below.refl _ _).alloc (Nat.le_refl _) _)
theorem Rd.nil_ (w : World) (size : Nat) : Rd w size none 0 0 [] := ⟨by simp, by omega, fun _ => rfl, by omega, fun h => by omega⟩
theorem Rd.of_own {base : Nat} {e : TypeId} (h : w.ownsRow base e size (.slice A n c) n xs) : Rd w size A n c xs := by
  obtain ⟨h1, h2⟩ := h
  rcases h2 with ⟨h2, h3⟩ | ⟨g, cap, cur, h2, h3, h4, h5, h6, h7, h8⟩
  · injection h2 with e1 e2 e3; subst e1 e2 e3; exact ⟨h1, by omega, fun _ => rfl, by omega, fun h => by omega⟩
  · injection h2 with e1 e2 e3
    subst e1 e3
    refine ⟨h1, h5, fun h => (by cases h), by unfold maxLen at h6; omega, fun _ => ⟨g, 0, rfl, (Array.getElem?_eq_some_iff.1 h4).1, fun j hj => ?_⟩⟩
    unfold World.cell?
    simp only [h4, Option.isSome_none, Bool.false_eq_true, if_false]
    rw [← h8, List.getElem?_take, if_pos hj, Nat.zero_add]; simp
/-- A part of a slice. -/
theorem Rd.part (h : Rd w size A n c xs) {lo hi : Nat} (h1 : lo ≤ hi) (h2 : hi ≤ n) :
    Rd w size (if c = lo then A else A.map (·.add (lo * size))) (hi - lo) (c - lo) ((xs.drop (lo * size)).take ((hi - lo) * size)) := by
  have hn := h.len
  have hc := h.nc
  refine ⟨?_, by omega, fun e => ?_, by have := h.c63; omega, fun hp => ?_⟩
  · rw [List.length_take, List.length_drop, hn, ← Nat.sub_mul]
    exact Nat.min_eq_left (Nat.mul_le_mul_right _ (by omega))
  · have : A = none := by
      split at e
      · exact e
      · rcases A with _ | a
        · rfl
        · cases e
    have := h.nil this
    omega
  · obtain ⟨g, o, rfl, hb, hcell⟩ := h.at_ (by omega)
    rw [if_neg (by omega)]
    refine ⟨g, o + lo * size, ?_, hb, fun j hj => ?_⟩
    · simp only [Option.map_some, Addr.add]
      split
      · rename_i e; rw [e]; rfl
      · rfl
    · have : lo * size + (hi - lo) * size ≤ n * size := by rw [← Nat.add_mul]; exact Nat.mul_le_mul_right _ (by omega)
      rw [show o + lo * size + j = o + (lo * size + j) by omega, hcell _ (by omega), List.getElem?_take, if_pos hj, List.getElem?_drop]
end
theorem Rd.byte {w : World} {n c k : Nat} {A : Option Addr} {l : List UInt8} (h : Rd w 1 A n c (bv l)) (hk : k < n) :
    ∃ g o x, A = some ⟨g, o, none⟩ ∧ g < w.heap.size ∧ l[k]? = some x ∧ w.cell? ⟨g, o + k, none⟩ = some (.int .u8 ((x : UInt8).toNat : Int)) := by
  obtain ⟨g, o, e, hb, hc⟩ := h.at_ (by omega)
  have hl := h.len
  rw [bv_len] at hl
  have hx : l[k]? = some (l[k]'(by omega)) := List.getElem?_eq_getElem (by omega)
  exact ⟨g, o, _, e, hb, hx, by rw [hc k (by omega), bv_get, hx]; rfl⟩
theorem Rd.cut1 {w : World} {n c g o lo hi : Nat} {xs : List Value} (h : Rd w 1 (some ⟨g, o, none⟩) n c xs) (h1 : lo ≤ hi) (h2 : hi ≤ n) : Rd w 1 (some ⟨g, o + lo, none⟩) (hi - lo) (c - lo) ((xs.drop lo).take (hi - lo)) := by
  have hn := h.len
  have hc := h.nc
  have h63 := h.c63
  refine ⟨by rw [List.length_take, List.length_drop]; omega, by omega, fun e => (by cases e), by omega, fun hp => ?_⟩
  obtain ⟨g', o', e, hb, hcell⟩ := h.at_ (by omega)
  injection e with e
  injection e with e1 e2
  subst e1 e2
  refine ⟨g, o + lo, rfl, hb, fun j hj => ?_⟩
  rw [Nat.add_assoc, hcell _ (by omega), List.getElem?_take, if_pos (by omega), List.getElem?_drop]
theorem bv_drop (l : List UInt8) (k : Nat) : (bv l).drop k = bv (l.drop k) := by simp [bv]
theorem bv_take (l : List UInt8) (k : Nat) : (bv l).take k = bv (l.take k) := by simp [bv]
theorem take_snoc {l : List UInt8} {k : Nat} {x : UInt8} (h : l[k]? = some x) : l.take (k + 1) = l.take k ++ [x] := by rw [List.take_add_one, h]; rfl
theorem take_n {l : List UInt8} {n : Nat} (h : n = l.length) : l.take n = l := by subst h; simp
/-- A part of a slice lies in its block. -/
theorem part_blk {A : Option Addr} {c lo size : Nat} {a : Addr} (h : (if c = lo then A else A.map (·.add (lo * size))) = some a) : ∃ b, A = some b ∧ a.block = b.block := by
  split at h
  · exact ⟨a, h, rfl⟩
  · rcases A with _ | b
    · cases h
    · simp only [Option.map_some, Option.some.injEq] at h
      subst h
      refine ⟨b, rfl, ?_⟩
      unfold Addr.add; split <;> rfl

theorem bel_alloc {B : Nat} {w0 w : World} (h : Below B w0 w) (hB : B ≤ w0.heap.size) (o : Obj) : Below B w0 (w.alloc o) := h.alloc (Nat.le_trans hB h.size) o
theorem bel_step {B : Nat} {w0 w w2 : World} (h : Below B w0 w) (hb : Below w.heap.size w w2) (hB : B ≤ w0.heap.size) : Below B w0 w2 := h.trans (hb.mono (Nat.le_trans hB h.size))
/-- The block of a slice. -/
def blk (A : Option Addr) : Option Nat := A.map (·.block)
theorem own_blk (A : Option Addr) (n c : Nat) : (Value.slice A n c).ownBlock = blk A := by cases A <;> rfl
theorem own_form {w : World} {base : Nat} {e : TypeId} {size n : Nat} {v : Value} {xs : List Value} (h : w.ownsRow base e size v n xs) : ∃ A c, v = .slice A n c := by
  rcases h.2 with ⟨rfl, rfl⟩ | ⟨g, cap, cur, rfl, _⟩
  · exact ⟨none, 0, rfl⟩
  · exact ⟨_, _, rfl⟩
theorem own_blk_le {w : World} {base : Nat} {e : TypeId} {size n c g : Nat} {A : Option Addr} {xs : List Value} (h : w.ownsRow base e size (.slice A n c) n xs) (hg : blk A = some g) : base ≤ g ∧ g < w.heap.size :=
  h.lt g (by rw [own_blk]; exact hg)
theorem own_pos {w : World} {base : Nat} {e : TypeId} {size n c : Nat} {A : Option Addr} {xs : List Value} (h : w.ownsRow base e size (.slice A n c) n xs) (h0 : 0 < n) : ∃ g, A = some ⟨g, 0, none⟩ ∧ n ≤ c ∧ c ≤ 9223372036854775807 := by
  rcases h.2 with ⟨h1, h2⟩ | ⟨g, cap, cur, h1, _, _, h3, h4, _⟩
  · omega
  · injection h1 with h1 _ h2; subst h1 h2; exact ⟨g, rfl, h3, by unfold maxLen at h4; omega⟩
theorem addr_add (g o j : Nat) : (⟨g, o, none⟩ : Addr).add j = ⟨g, o + j, none⟩ := by
  unfold Addr.add
  split
  · rename_i h; subst h; rfl
  · rfl
theorem own_base {w : World} {base base' : Nat} {e : TypeId} {size n : Nat} {v : Value} {xs : List Value} (h : w.ownsRow base e size v n xs) (hb : base' ≤ base) : w.ownsRow base' e size v n xs := by
  refine ⟨h.1, h.2.imp id ?_⟩
  rintro ⟨g, cap, cur, h1, h2, h3⟩
  exact ⟨g, cap, cur, h1, Nat.le_trans hb h2, h3⟩
/-- A row from base on lies apart from one that was there before. -/
theorem own_apart {w w' : World} {base e size n c e' size' n' c' b' : Nat} {A A' : Option Addr} {xs xs' : List Value} (h : w.ownsRow b' e size (.slice A n c) n xs) (h' : w'.ownsRow base e' size' (.slice A' n' c') n' xs') (hb : w.heap.size ≤ base) : blk A = none ∨ blk A ≠ blk A' := by
  rcases hA : blk A with _ | g
  · exact .inl rfl
  · refine .inr fun e => ?_
    have h1 := (h.lt g (by rw [own_blk]; exact hA)).2
    have h2 := (h'.lt g (by rw [own_blk]; exact e.symm)).1
    omega
/-- Two rows of different types never share a block. -/
theorem own_ne {w : World} {base base' e e' size size' n n' c c' : Nat} {A A' : Option Addr} {xs xs' : List Value} (h : w.ownsRow base e size (.slice A n c) n xs) (h' : w.ownsRow base' e' size' (.slice A' n' c') n' xs') (hne : e ≠ e') :
    blk A = none ∨ blk A ≠ blk A' := by
  rcases h.2 with ⟨h1, _⟩ | ⟨g, cap, cur, h1, _, h2, _⟩
  · injection h1 with h1; subst h1; exact .inl rfl
  · injection h1 with h1; subst h1
    rcases h'.2 with ⟨k1, _⟩ | ⟨g', cap', cur', k1, _, k2, _⟩
    · injection k1 with k1; subst k1; exact .inr (by simp [blk])
    · injection k1 with k1; subst k1
      refine .inr fun e1 => ?_
      simp only [blk, Option.map_some, Option.some.injEq] at e1
      subst e1
      rw [h2] at k2
      injection k2 with k2
      injection k2 with _ k3
      exact hne k3

/-- From w to w', the slice A has become A': nothing else has turned. -/
structure Grew (w : World) (A : Option Addr) (w' : World) (A' : Option Addr) : Prop where
  by_ : w.grownBy w' (blk A)
  at_ : blk A' = blk A ∨ ∃ g, blk A' = some g ∧ w.heap.size ≤ g
theorem Grew.refl (w : World) (A : Option Addr) : Grew w A w A := ⟨⟨rfl, rfl, rfl, Nat.le_refl _, fun _ _ _ => rfl⟩, .inl rfl⟩
theorem Grew.trans {w w1 w2 : World} {A A1 A2 : Option Addr} (h : Grew w A w1 A1) (k : Grew w1 A1 w2 A2) : Grew w A w2 A2 := by
  refine ⟨⟨k.by_.os.trans h.by_.os, k.by_.tape.trans h.by_.tape, k.by_.output.trans h.by_.output, Nat.le_trans h.by_.size k.by_.size, fun i hi hne => ?_⟩, ?_⟩
  · refine (k.by_.block i (Nat.lt_of_lt_of_le hi h.by_.size) ?_).trans (h.by_.block i hi hne)
    rcases h.at_ with e | ⟨g, e, hg⟩
    · rw [e]; exact hne
    · rw [e]; intro e'; injection e' with e'; omega
  · rcases k.at_ with e | ⟨g, e, hg⟩
    · rcases h.at_ with e1 | ⟨g, e1, hg⟩
      · exact .inl (e.trans e1)
      · exact .inr ⟨g, e.trans e1, hg⟩
    · exact .inr ⟨g, e, Nat.le_trans h.by_.size hg⟩
theorem Grew.below {w w1 w2 : World} {A A1 : Option Addr} (h : Grew w A w1 A1) (k : Below w1.heap.size w1 w2) : Grew w A w2 A1 :=
  h.trans ⟨⟨k.os, k.tape, k.output, k.size, fun i hi _ => k.block i hi⟩, .inl rfl⟩
theorem Grew.alloc {w w1 : World} {A A1 : Option Addr} (h : Grew w A w1 A1) (o : Obj) : Grew w A (w1.alloc o) A1 := h.below ((Below.refl _ _).alloc (Nat.le_refl _) _)
theorem Grew.drewN {w w1 : World} {A A1 : Option Addr} (h : Grew w A w1 A1) (n : Nat) : Grew w A (w1.drewN n) A1 := h.below (bdrewN (Below.refl _ _))
/-- What lies below base stays, if the row does not. -/
theorem Grew.low {w0 w w' : World} {A A' : Option Addr} {B : Nat} (h : Grew w A w' A') (hb : Below B w0 w) (hB : B ≤ w.heap.size) (hA : ∀ g, blk A = some g → B ≤ g) : Below B w0 w' :=
  ⟨h.by_.os.trans hb.os, h.by_.tape.trans hb.tape, h.by_.output.trans hb.output, Nat.le_trans hb.size h.by_.size, fun i hi => (h.by_.block i (by omega) fun e => by have := hA i e.symm; omega).trans (hb.block i hi)⟩
theorem Rd.grew {w w' : World} {size n c : Nat} {A B B' : Option Addr} {xs : List Value} (h : Rd w size A n c xs) (hg : Grew w B w' B') (hr : 0 < n → blk B = none ∨ blk B ≠ blk A) : Rd w' size A n c xs :=
  h.grown hg.by_ fun a e hn e' => by
    subst e
    rcases hr hn with h0 | h0
    · rw [h0] at e'; cases e'
    · exact h0 e'
theorem own_grew {w w' : World} {base e size n c : Nat} {A B B' : Option Addr} {xs : List Value} (h : w.ownsRow base e size (.slice A n c) n xs) (hg : Grew w B w' B') (hr : blk A = none ∨ blk A ≠ blk B) : w'.ownsRow base e size (.slice A n c) n xs :=
  h.kept hg.by_ (by rw [own_blk]; exact hr)
theorem own_below {w w' : World} {base e size n c : Nat} {A : Option Addr} {xs : List Value} (h : w.ownsRow base e size (.slice A n c) n xs) (hb : Below w.heap.size w w') : w'.ownsRow base e size (.slice A n c) n xs :=
  own_grew h (B := none) (B' := none) ⟨⟨hb.os, hb.tape, hb.output, hb.size, fun i hi _ => hb.block i hi⟩, .inl rfl⟩ (by cases A <;> simp [blk])
theorem own_alloc {w : World} {base e size n c : Nat} {A : Option Addr} {xs : List Value} (h : w.ownsRow base e size (.slice A n c) n xs) (o : Obj) : (w.alloc o).ownsRow base e size (.slice A n c) n xs := h.alloc o
theorem own_drewN {w : World} {base e size n c : Nat} {A : Option Addr} {xs : List Value} (h : w.ownsRow base e size (.slice A n c) n xs) (k : Nat) : (w.drewN k).ownsRow base e size (.slice A n c) n xs := h
theorem set_grown (w : World) (p : Addr) (v : Value) : w.grownBy (w.setCell p v) (some p.block) :=
  ⟨rfl, rfl, rfl, by simp [World.setCell], fun i _ hne => Below.heap_setCell w p v i (fun e => hne (by rw [e]))⟩
theorem own_set {w : World} {base e size n c : Nat} {A : Option Addr} {xs : List Value} (h : w.ownsRow base e size (.slice A n c) n xs) (p : Addr) (v : Value) (hp : blk A ≠ some p.block) : (w.setCell p v).ownsRow base e size (.slice A n c) n xs :=
  h.kept (set_grown w p v) (by rw [own_blk]; exact .inr hp)
theorem Rd.set {w : World} {size n c : Nat} {A : Option Addr} {xs : List Value} (h : Rd w size A n c xs) (p : Addr) (v : Value) (hp : 0 < n → blk A ≠ some p.block) : Rd (w.setCell p v) size A n c xs :=
  h.grown (set_grown w p v) fun a e hn e' => hp hn (by rw [e]; exact e'.symm)
theorem gen_world {Q : World → Prop} {w : World} (F : World → Prop) (hF : F w) (h : ∀ W, F W → Q W) : Q w := h w hF
theorem own_drew {w : World} {base e size n c : Nat} {A : Option Addr} {xs : List Value} (h : w.ownsRow base e size (.slice A n c) n xs) : w.drew.ownsRow base e size (.slice A n c) n xs := h
theorem Rd.drew {w : World} {size n c : Nat} {A : Option Addr} {xs : List Value} (h : Rd w size A n c xs) : Rd w.drew size A n c xs := ⟨h.len, h.nc, h.nil, h.c63, h.at_⟩
theorem Rd.tail {w : World} {n c g o lo : Nat} {l : List UInt8} (h : Rd w 1 (some ⟨g, o, none⟩) n c (bv l)) (h2 : lo ≤ n) : Rd w 1 (some ⟨g, o + lo, none⟩) (n - lo) (c - lo) (bv (l.drop lo)) := by
  have := h.cut1 (lo := lo) (hi := n) h2 (Nat.le_refl _)
  have hl := h.len
  rw [bv_len] at hl
  rwa [bv_drop, bv_take, List.take_of_length_le (by simp; omega)] at this
theorem Grew.cells {w w' : World} {p : Nat} {A' : Option Addr} (h : Grew w (some ⟨p, 0, none⟩) w' A') :
    (∀ b o, b < w.heap.size → p ≠ b → w'.cell? ⟨b, o, none⟩ = w.cell? ⟨b, o, none⟩) ∧ (∀ b o, b < w.heap.size → p ≠ b → w'.frozen? ⟨b, o, none⟩ = w.frozen? ⟨b, o, none⟩) :=
  ⟨fun b _ h1 h2 => World.cell?_of_block (h.by_.block b h1 (by simpa [blk] using fun e => h2 e.symm)), fun b _ h1 h2 => World.frozen?_of_block (h.by_.block b h1 (by simpa [blk] using fun e => h2 e.symm))⟩
theorem Grew.cells3 {w w' : World} {p : Nat} {A' : Option Addr} (h : Grew w (some ⟨p, 0, none⟩) w' A') (q : Nat) (h1 : q < w.heap.size) (h2 : p ≠ q) :
    w'.cell? ⟨q, 0, none⟩ = w.cell? ⟨q, 0, none⟩ ∧ w'.cell? ⟨q, 1, none⟩ = w.cell? ⟨q, 1, none⟩ ∧ w'.cell? ⟨q, 2, none⟩ = w.cell? ⟨q, 2, none⟩ ∧
    w'.frozen? ⟨q, 0, none⟩ = w.frozen? ⟨q, 0, none⟩ ∧ w'.frozen? ⟨q, 1, none⟩ = w.frozen? ⟨q, 1, none⟩ ∧ w'.frozen? ⟨q, 2, none⟩ = w.frozen? ⟨q, 2, none⟩ :=
  ⟨h.cells.1 _ _ h1 h2, h.cells.1 _ _ h1 h2, h.cells.1 _ _ h1 h2, h.cells.2 _ _ h1 h2, h.cells.2 _ _ h1 h2, h.cells.2 _ _ h1 h2⟩
theorem Grew.ne {w w' : World} {p q : Nat} {A' : Option Addr} (h : Grew w (some ⟨p, 0, none⟩) w' A') (h1 : q < w.heap.size) (h2 : p ≠ q) : blk A' ≠ some q := by
  rcases h.at_ with e | ⟨g, e, hg⟩
  · rw [e]; simpa [blk] using h2
  · rw [e]; intro e'; injection e' with e'; omega
theorem new3 (w : World) {q : Nat} (hq : w.heap.size = q) (a b c : Value) (T : TypeId) : ∀ o, o < 3 → ((w.alloc (.cells #[a, b, c] T)).cell? ⟨q, o, none⟩).isSome = true := by
  subst hq
  intro o ho
  unfold World.cell?; rw [heap_alloc_new]
  have : o = 0 ∨ o = 1 ∨ o = 2 := by omega
  rcases this with rfl | rfl | rfl <;> rfl
theorem Grew.low' {w0 w w' : World} {p B : Nat} {A' : Option Addr} (h : Grew w (some ⟨p, 0, none⟩) w' A') (hb : Below B w0 w) (hB : B ≤ w0.heap.size) (hp : B ≤ p) : Below B w0 w' :=
  h.low hb (Nat.le_trans hB hb.size) fun g e => by simp [blk] at e; omega
/-- A literal of bytes. -/
theorem own_lit (w : World) {base : Nat} (e size : Nat) (cs : Array Value) (n : Nat) (hb : base ≤ w.heap.size) (hm : n ≤ maxLen) (hs : cs.size = n * size) :
    (w.alloc (.cells cs e)).ownsRow base e size (.slice (some ⟨w.heap.size, 0, none⟩) n n) n cs.toList := World.ownsRow_lit w cs n hb hm hs

theorem one1 (v : Value) (h : v.oneCell' = true) : ∀ u ∈ (#[v] : Array Value).toList, u.oneCell' = true := by intro u hu; simp at hu; subst hu; exact h
theorem own_lit' (w : World) {base q : Nat} (e size : Nat) (cs : Array Value) (n : Nat) (hq : w.heap.size = q) (hb : base ≤ q) (hm : n ≤ maxLen) (hs : cs.size = n * size) :
    (w.alloc (.cells cs e)).ownsRow base e size (.slice (some ⟨q, 0, none⟩) n n) n cs.toList := by subst hq; exact own_lit w e size cs n hb hm hs
/-- A row that has just been made. -/
theorem Rd.lit (w : World) (e size : Nat) (cs : Array Value) (n : Nat) (hm : n ≤ 9223372036854775807) (hs : cs.size = n * size) : Rd (w.alloc (.cells cs e)) size (some ⟨w.heap.size, 0, none⟩) n n cs.toList :=
  Rd.of_own (own_lit w (base := 0) e size cs n (by omega) (by unfold maxLen; omega) hs)

section
variable {P : Program} (w : World)
theorem run_app (base : Nat) (t ty e : TypeId) (i : TypeInfo) (z : Value) (size bytes : Nat) (ht : P.underlying t = some (.slice e)) (hi : P.info? e = some i) (hz : i.zero = some z)
    (hsize : i.size = size) (hby : i.bytes = bytes) (hzs : z.cells.size = size) (hsz : 0 < size)
    {A B : Option Addr} {n c m d : Nat} {xs news : List Value} (hown : w.ownsRow base e size (.slice A n c) n xs) (hr : Rd w size B m d news) (h1 : ∀ u ∈ news, u.oneCell' = true)
    (h63 : n + m ≤ 1099511627776) (hb8 : bytes ≤ 64) (hbase : base ≤ w.heap.size) :
    ∃ A' c' w', (Builtin.append_ #[t, t] ty #[.slice A n c, .slice B m d]).run P w = .ok (.slice A' (n + m) c') w' ∧ w'.ownsRow base e size (.slice A' (n + m) c') (n + m) (xs ++ news) ∧ Grew w A w' A' := by
  have hbytes : (n + m) * bytes ≤ 140737488355328 := Nat.le_trans (Nat.mul_le_mul_left _ hb8) (by omega)
  have hmax : n + m ≤ maxLen := by unfold maxLen; omega
  have fin : ∀ v' w', (Builtin.append_ #[t, t] ty #[.slice A n c, .slice B m d]).run P w = .ok v' w' → w'.ownsRow base e size v' (n + m) (xs ++ news) → w.grownBy w' (Value.slice A n c).ownBlock → (v'.ownBlock = (Value.slice A n c).ownBlock ∨ v'.ownBlock = some w.heap.size) →
      ∃ A' c' w', (Builtin.append_ #[t, t] ty #[.slice A n c, .slice B m d]).run P w = .ok (.slice A' (n + m) c') w' ∧ w'.ownsRow base e size (.slice A' (n + m) c') (n + m) (xs ++ news) ∧ Grew w A w' A' := by
    intro v' w' hrun h2 h3 h4
    obtain ⟨A', c', rfl⟩ := own_form h2
    rw [own_blk] at h3
    rw [own_blk, own_blk] at h4
    exact ⟨A', c', w', hrun, h2, h3, h4.imp id fun h => ⟨_, h, Nat.le_refl _⟩⟩
  rcases B with _ | ad
  · have hd := hr.nil rfl
    have hm : m = 0 := by have := hr.nc; omega
    subst hd hm
    obtain rfl : news = [] := List.eq_nil_of_length_eq_zero (by have := hr.len; omega)
    exact fin _ _ (run_append_owned_none (P := P) w base t ty e i size ht hi _ n xs hown) (by simpa using hown) ⟨rfl, rfl, rfl, Nat.le_refl _, fun _ _ _ => rfl⟩ (.inl rfl)
  · have hcells : ∀ j u, news[j]? = some u → w.cell? (ad.add j) = some u := by
      intro j u hu
      have hj := (List.getElem?_eq_some_iff.1 hu).1
      rw [hr.len] at hj
      rcases Nat.eq_zero_or_pos m with h0 | h0
      · subst h0; omega
      · obtain ⟨g, o, e1, _, hc⟩ := hr.at_ h0
        injection e1 with e1
        subst e1
        rw [addr_add, hc j hj, hu]
    obtain ⟨v', w', hrun, h2, h3, _, h5⟩ := run_append_own_at (P := P) w base t ty e i z size bytes ht hi hz hsize hby hzs hsz _ n xs hown ad m d news hr.len hcells h1 hmax hbytes hbase
    exact fin v' w' hrun h2 h3 h5
theorem wp_app {o : Oper} {a : Act} {K : Act → World → Prop} {Q : Exit → Act → World → Prop} (s x : Operand) (t : TypeId)
    (ho : o.op = .call { callee := .builtin .append, args := #[s, x], argTypes := #[t, t] })
    (base : Nat) (e : TypeId) (i : TypeInfo) (z : Value) (size bytes : Nat) (ht : P.underlying t = some (.slice e)) (hi : P.info? e = some i) (hz : i.zero = some z)
    (hsize : i.size = size) (hby : i.bytes = bytes) (hzs : z.cells.size = size) (hsz : 0 < size)
    {A B : Option Addr} {n c m d : Nat} {xs news : List Value} (hs : a.eval s = .slice A n c) (hown : w.ownsRow base e size (.slice A n c) n xs) (hx : a.eval x = .slice B m d) (hr : Rd w size B m d news) (h1 : ∀ u ∈ news, u.oneCell' = true)
    (h63 : n + m ≤ 1099511627776) (hb8 : bytes ≤ 64) (hbase : base ≤ w.heap.size)
    (h : ∀ A' c' w', w'.ownsRow base e size (.slice A' (n + m) c') (n + m) (xs ++ news) → Grew w A w' A' → K (a.put o.dst (.slice A' (n + m) c')) w') : o.wp P a w K Q := by
  obtain ⟨A', c', w', hrun, h2, h3⟩ := run_app (P := P) w base t o.type e i z size bytes ht hi hz hsize hby hzs hsz hown hr h1 h63 hb8 hbase
  unfold Oper.wp execOp
  simp only [ho, resolve, invoke, builtin, Sem.run_bind, Sem.run_pure, Result.andThen_ok, List.map_toArray, List.map_cons, List.map_nil, hs, hx, hrun]
  exact h A' c' w' h2 h3
theorem step_app {ops : Array Oper} {o : Oper} {a : Act} {K : Act → World → Prop} {Q : Exit → Act → World → Prop} {E : Prop} (hgd : o.guard = none) (s x : Operand) (t : TypeId)
    (ho : o.op = .call { callee := .builtin .append, args := #[s, x], argTypes := #[t, t] })
    (base : Nat) (e : TypeId) (i : TypeInfo) (z : Value) (size bytes : Nat) (ht : P.underlying t = some (.slice e)) (hi : P.info? e = some i) (hz : i.zero = some z)
    (hsize : i.size = size) (hby : i.bytes = bytes) (hzs : z.cells.size = size) (hsz : 0 < size)
    {A B : Option Addr} {n c m d : Nat} {xs news : List Value} (hs : a.eval s = .slice A n c) (hown : w.ownsRow base e size (.slice A n c) n xs) (hx : a.eval x = .slice B m d) (hr : Rd w size B m d news) (h1 : ∀ u ∈ news, u.oneCell' = true)
    (h63 : n + m ≤ 1099511627776) (hb8 : bytes ≤ 64) (hbase : base ≤ w.heap.size)
    (h : ∀ A' c' w', w'.ownsRow base e size (.slice A' (n + m) c') (n + m) (xs ++ news) → Grew w A w' A' → K (a.put o.dst (.slice A' (n + m) c')) w') :
    if Region.wanted o (yielded ops a.tmps) = true then Oper.wp P o a w K Q else E := by
  have hw : Region.wanted o (yielded ops a.tmps) = true := by simp [Region.wanted, hgd]
  rw [if_pos hw]
  exact wp_app w s x t ho base e i z size bytes ht hi hz hsize hby hzs hsz hs hown hx hr h1 h63 hb8 hbase h
theorem wpList_app {ops : Array Oper} {rest : List Oper} {o : Oper} {a : Act} {Q : Exit → Act → World → Prop} (hgd : o.guard = none) (s x : Operand) (t : TypeId)
    (ho : o.op = .call { callee := .builtin .append, args := #[s, x], argTypes := #[t, t] })
    (base : Nat) (e : TypeId) (i : TypeInfo) (z : Value) (size bytes : Nat) (ht : P.underlying t = some (.slice e)) (hi : P.info? e = some i) (hz : i.zero = some z)
    (hsize : i.size = size) (hby : i.bytes = bytes) (hzs : z.cells.size = size) (hsz : 0 < size)
    {A B : Option Addr} {n c m d : Nat} {xs news : List Value} (hs : a.eval s = .slice A n c) (hown : w.ownsRow base e size (.slice A n c) n xs) (hx : a.eval x = .slice B m d) (hr : Rd w size B m d news) (h1 : ∀ u ∈ news, u.oneCell' = true)
    (h63 : n + m ≤ 1099511627776) (hb8 : bytes ≤ 64) (hbase : base ≤ w.heap.size)
    (h : ∀ A' c' w', w'.ownsRow base e size (.slice A' (n + m) c') (n + m) (xs ++ news) → Grew w A w' A' → wpList P ops Q rest (a.put o.dst (.slice A' (n + m) c')) w') : wpList P ops Q (o :: rest) a w :=
  wpList_plain hgd fun _ hK => wp_app w s x t ho base e i z size bytes ht hi hz hsize hby hzs hsz hs hown hx hr h1 h63 hb8 hbase fun A' c' w' h2 h3 => hK _ _ (h A' c' w' h2 h3)
end
end Go.Proofs.YtpmkohnljngbhaaGreatDoor.Wl
/- Rows of records in memory. -/
namespace Go.Proofs.YtpmkohnljngbhaaGreatDoor.Wl
set_option maxRecDepth 1000000
open Go.RowKit

theorem Rd.lit' (w : World) {q : Nat} (e size : Nat) (cs : Array Value) (n : Nat) (hq : w.heap.size = q) (hm : n ≤ 9223372036854775807) (hs : cs.size = n * size) : Rd (w.alloc (.cells cs e)) size (some ⟨q, 0, none⟩) n n cs.toList := by
  subst hq; exact Rd.lit w e size cs n hm hs
theorem one3 (a b c : Value) (h1 : a.oneCell' = true) (h2 : b.oneCell' = true) (h3 : c.oneCell' = true) : ∀ u ∈ (#[a, b, c] : Array Value).toList, u.oneCell' = true := by
  intro u hu
  simp only [List.mem_cons, List.not_mem_nil, or_false] at hu
  rcases hu with rfl | rfl | rfl <;> assumption
/-- A record in memory: its fields, the place of its data, the data. -/
structure RV where
  k : Int
  t : Int
  A : Option Addr
  c : Nat
  d : List UInt8
def RV.r (x : RV) : Rec := ⟨x.k, x.t, x.d⟩
def RV.cs (x : RV) : List Value := [.int .i64 x.k, .int .i64 x.t, .slice x.A x.d.length x.c]
def cells (l : List RV) : List Value := (l.map RV.cs).flatten
theorem cells_len : ∀ l, (cells l).length = l.length * 3
  | [] => rfl
  | x :: l => by
    have := cells_len l
    simp only [cells, List.map_cons, List.flatten_cons, List.length_append, List.length_cons, RV.cs] at this ⊢
    simp only [List.length_nil]; omega
theorem cells_app (a b : List RV) : cells (a ++ b) = cells a ++ cells b := by simp [cells]
theorem cells_snoc (l : List RV) (x : RV) : cells (l ++ [x]) = cells l ++ x.cs := by simp [cells]
theorem cells_one (l : List RV) : ∀ u ∈ cells l, u.oneCell' = true := by
  intro u hu
  simp only [cells, List.mem_flatten, List.mem_map] at hu
  obtain ⟨_, ⟨x, _, rfl⟩, hu⟩ := hu
  simp only [RV.cs, List.mem_cons, List.not_mem_nil, or_false] at hu
  rcases hu with rfl | rfl | rfl <;> rfl
theorem cells_get : ∀ (l : List RV) (i : Nat) (x : RV), l[i]? = some x → (cells l)[i * 3]? = some (.int .i64 x.k) ∧ (cells l)[i * 3 + 1]? = some (.int .i64 x.t) ∧ (cells l)[i * 3 + 2]? = some (.slice x.A x.d.length x.c)
  | [], i, x, h => by simp at h
  | y :: l, 0, x, h => by
    obtain rfl : y = x := by simpa using h
    simp [cells, RV.cs]
  | y :: l, i + 1, x, h => by
    have := cells_get l i x (by simpa using h)
    have e : cells (y :: l) = y.cs ++ cells l := by simp [cells]
    have h3 : y.cs.length = 3 := rfl
    rw [e, List.getElem?_append_right (by omega), List.getElem?_append_right (by omega), List.getElem?_append_right (by omega), h3]
    rw [show (i + 1) * 3 - 3 = i * 3 by omega, show (i + 1) * 3 + 1 - 3 = i * 3 + 1 by omega, show (i + 1) * 3 + 2 - 3 = i * 3 + 2 by omega]
    exact this
theorem len3 {w : World} {n c : Nat} {A : Option Addr} {l : List RV} (h : Rd w 3 A n c (cells l)) : n = l.length := by
  have := h.len; rw [cells_len] at this; omega

/-- Records that can be read. -/
structure Rr (w : World) (A : Option Addr) (n c : Nat) (l : List RV) : Prop where
  row : Rd w 3 A n c (cells l)
  dat : ∀ x ∈ l, Rd w 1 x.A x.d.length x.c (bv x.d)
/-- Records of the call's own. -/
structure Rs (w : World) (base : Nat) (A : Option Addr) (n c : Nat) (l : List RV) : Prop where
  row : w.ownsRow base 89 3 (.slice A n c) n (cells l)
  dat : ∀ x ∈ l, w.ownsRow base 5 1 (.slice x.A x.d.length x.c) x.d.length (bv x.d)
section
variable {w w' : World} {base n c : Nat} {A : Option Addr} {l : List RV}
theorem Rs.rr (h : Rs w base A n c l) : Rr w A n c l := ⟨Rd.of_own h.row, fun x hx => Rd.of_own (h.dat x hx)⟩
theorem Rs.len (h : Rs w base A n c l) : n = l.length := len3 (Rd.of_own h.row)
theorem Rr.len (h : Rr w A n c l) : n = l.length := len3 h.row
theorem Rr.below (h : Rr w A n c l) (hb : Below w.heap.size w w') : Rr w' A n c l := ⟨h.row.below hb, fun x hx => (h.dat x hx).below hb⟩
theorem Rs.below (h : Rs w base A n c l) (hb : Below w.heap.size w w') : Rs w' base A n c l := ⟨own_below h.row hb, fun x hx => own_below (h.dat x hx) hb⟩
theorem Rs.alloc (h : Rs w base A n c l) (o : Obj) : Rs (w.alloc o) base A n c l := h.below ((Below.refl _ _).alloc (Nat.le_refl _) _)
theorem Rs.rebase (h : Rs w base A n c l) {base' : Nat} (hb : base' ≤ base) : Rs w base' A n c l := ⟨own_base h.row hb, fun x hx => own_base (h.dat x hx) hb⟩
theorem Rs.nil_ (w : World) (base : Nat) : Rs w base none 0 0 [] := ⟨World.ownsRow_nil _ _ _ _, by simp⟩
/-- Other rows that grow leave records alone. -/
theorem Rs.grew (h : Rs w base A n c l) {B B' : Option Addr} (g : Grew w B w' B') (h1 : blk A = none ∨ blk A ≠ blk B) (h2 : ∀ x ∈ l, blk x.A = none ∨ blk x.A ≠ blk B) : Rs w' base A n c l :=
  ⟨own_grew h.row g h1, fun x hx => own_grew (h.dat x hx) g (h2 x hx)⟩
/-- A record more. -/
theorem Rs.push (h : Rs w base A n c l) {A' : Option Addr} {c' : Nat} (x : RV) (hx : w.ownsRow base 5 1 (.slice x.A x.d.length x.c) x.d.length (bv x.d))
    (row : w'.ownsRow base 89 3 (.slice A' (n + 1) c') (n + 1) (cells l ++ x.cs)) (g : Grew w A w' A') : Rs w' base A' (n + 1) c' (l ++ [x]) := by
  refine ⟨by rw [cells_snoc]; exact row, fun y hy => ?_⟩
  have hd : w.ownsRow base 5 1 (.slice y.A y.d.length y.c) y.d.length (bv y.d) := by
    rcases List.mem_append.1 hy with hy | hy
    · exact h.dat y hy
    · obtain rfl : y = x := by simpa using hy
      exact hx
  exact own_grew hd g (own_ne hd h.row (by decide))
end
end Go.Proofs.YtpmkohnljngbhaaGreatDoor.Wl
/- A map of the call's own, whose elements are kept as they are. -/
namespace Go.Proofs.YtpmkohnljngbhaaGreatDoor.Wl
set_option maxRecDepth 1000000
open Go.RowKit Go.Maps

def rawE (v : Value) : Option (DataW Value × List MemPlace) := some (.held v, [])
/-- Block b is a map of at most n entries that holds f. -/
def Mp (w : World) (b n : Nat) (f : Int → Value) : Prop :=
  ∃ D : DataW Value, w.ownsMap Tryz.prog 3 rawE b n D ∧ IsMap D ∧ ∀ t, (Lit.int .i64 t).wf = true → D.atKey (.int .i64 t) (.held (.slice none 0 0)) = .held (f t)
theorem lawK : Keyed Tryz.prog 3 := int_keyed Tryz.underlying3
theorem zeroE (w : World) : (zeroValue 85).run Tryz.prog w = .ok (.slice none 0 0) w := by kernel_rfl
def upd {α : Type} (f : Int → α) (t : Int) (v : α) : Int → α := fun x => if x = t then v else f x
theorem upd_same {α : Type} (f : Int → α) (t : Int) (v : α) : upd f t v t = v := by simp [upd]
theorem upd_other {α : Type} (f : Int → α) {t x : Int} (v : α) (h : x ≠ t) : upd f t v x = f x := by simp [upd, h]
section
variable {w w' : World} {b n : Nat} {f : Int → Value}
theorem Mp.made (w : World) : Mp (w.alloc (.map #[] 0)) w.heap.size 0 (fun _ => .slice none 0 0) :=
  ⟨.map [], World.ownsMap_made _ _ _ _, isMap_empty, fun t _ => by rfl⟩
theorem Mp.lt (h : Mp w b n f) : b < w.heap.size := let ⟨_, h, _⟩ := h; h.lt
theorem Mp.kept (h : Mp w b n f) {row : Option Nat} (hg : w.grownBy w' row) (hne : some b ≠ row) : Mp w' b n f := by
  obtain ⟨D, h1, h2, h3⟩ := h
  exact ⟨D, h1.kept hg hne, h2, h3⟩
theorem Mp.map (h : Mp w b n f) : ∃ es k, w.heap[b]? = some (.map es k) := by
  obtain ⟨D, ⟨es, k, h1, _⟩, _⟩ := h
  exact ⟨es, k, h1⟩
end
end Go.Proofs.YtpmkohnljngbhaaGreatDoor.Wl
/- Transactions in memory: groups of records under a map, and a row of transactions. -/
namespace Go.Proofs.YtpmkohnljngbhaaGreatDoor.Wl
set_option maxRecDepth 1000000
open Go.RowKit Go.Maps

/-- A row of records. -/
structure GV where
  A : Option Addr
  n : Nat
  c : Nat
  l : List RV
def GV.v (g : GV) : Value := .slice g.A g.n g.c
def GV.nil : GV := ⟨none, 0, 0, []⟩
/-- A transaction. -/
structure TV where
  tx : Int
  g : GV
def TV.cs (x : TV) : List Value := [.int .i64 x.tx, x.g.v]
def tcells (l : List TV) : List Value := (l.map TV.cs).flatten
theorem tcells_len : ∀ l, (tcells l).length = l.length * 2
  | [] => rfl
  | x :: l => by
    have := tcells_len l
    simp only [tcells, List.map_cons, List.flatten_cons, List.length_append, List.length_cons, TV.cs] at this ⊢
    simp only [List.length_nil]; omega
theorem tcells_snoc (l : List TV) (x : TV) : tcells (l ++ [x]) = tcells l ++ x.cs := by simp [tcells]
theorem tcells_get : ∀ (l : List TV) (i : Nat) (x : TV), l[i]? = some x → (tcells l)[i * 2]? = some (.int .i64 x.tx) ∧ (tcells l)[i * 2 + 1]? = some (.slice x.g.A x.g.n x.g.c)
  | [], i, x, h => by simp at h
  | y :: l, 0, x, h => by
    obtain rfl : y = x := by simpa using h
    simp [tcells, TV.cs, GV.v]
  | y :: l, i + 1, x, h => by
    have := tcells_get l i x (by simpa using h)
    have e : tcells (y :: l) = y.cs ++ tcells l := by simp [tcells]
    have h3 : y.cs.length = 2 := rfl
    rw [e, List.getElem?_append_right (by omega), List.getElem?_append_right (by omega), h3]
    rw [show (i + 1) * 2 - 2 = i * 2 by omega, show (i + 1) * 2 + 1 - 2 = i * 2 + 1 by omega]
    exact this
/-- Two slices lie apart. -/
def ap (A B : Option Addr) : Prop := blk A = none ∨ blk A ≠ blk B
theorem ap.symm {A B : Option Addr} (h : ap A B) : ap B A := by
  unfold ap at h ⊢
  rcases hB : blk B with _ | q
  · exact .inl rfl
  · refine .inr fun e => ?_
    rcases h with h | h
    · rw [h] at e; cases e
    · exact h (by rw [hB, e])
theorem ap_nil (A : Option Addr) : ap none A := .inl rfl
theorem ap_nil' (A : Option Addr) : ap A none := by
  unfold ap
  rcases hA : blk A with _ | q
  · exact .inl rfl
  · exact .inr (by simp [blk])
/-- A row never lies in a map's block. -/
theorem own_map {w : World} {base e size n c M : Nat} {A : Option Addr} {xs : List Value} {es : Array MapEntry} {k : Nat} (h : w.ownsRow base e size (.slice A n c) n xs) (hm : w.heap[M]? = some (.map es k)) : blk A = none ∨ blk A ≠ some M := by
  rcases h.2 with ⟨h1, _⟩ | ⟨g, cap, cur, h1, _, h2, _⟩
  · injection h1 with h1; subst h1; exact .inl rfl
  · injection h1 with h1; subst h1
    refine .inr fun e1 => ?_
    simp only [blk, Option.map_some, Option.some.injEq] at e1
    subst e1
    rw [h2] at hm
    cases hm
theorem Rs.kept {w w' : World} {base n c : Nat} {A : Option Addr} {l : List RV} (h : Rs w base A n c l) {row : Option Nat} (g : w.grownBy w' row) (h1 : blk A = none ∨ blk A ≠ row) (h2 : ∀ x ∈ l, blk x.A = none ∨ blk x.A ≠ row) : Rs w' base A n c l :=
  ⟨h.row.kept g (by rw [own_blk]; exact h1), fun x hx => (h.dat x hx).kept g (by rw [own_blk]; exact h2 x hx)⟩
theorem Rs.turned {w w' : World} {base n c M : Nat} {A : Option Addr} {l : List RV} {es : Array MapEntry} {k : Nat} (h : Rs w base A n c l) (g : w.grownBy w' (some M)) (hm : w.heap[M]? = some (.map es k)) : Rs w' base A n c l :=
  h.kept g (own_map h.row hm) fun x hx => own_map (h.dat x hx) hm
/-- Rows of another type that grow leave records alone. -/
theorem Rs.other {w w' : World} {base base' n c e size n' c' : Nat} {A B B' : Option Addr} {l : List RV} {xs : List Value} (h : Rs w base A n c l) (g : Grew w B w' B') (hB : w.ownsRow base' e size (.slice B n' c') n' xs) (h1 : e ≠ 89) (h2 : e ≠ 5) : Rs w' base A n c l :=
  h.grew g (own_ne h.row hB (Ne.symm h1)) fun x hx => own_ne (h.dat x hx) hB (Ne.symm h2)
/-- Another row of records that grows leaves records alone, if it lies apart. -/
theorem Rs.apart {w w' : World} {base base' n c n' c' : Nat} {A B B' : Option Addr} {l : List RV} {xs : List Value} (h : Rs w base A n c l) (g : Grew w B w' B') (hB : w.ownsRow base' 89 3 (.slice B n' c') n' xs) (ha : ap A B) : Rs w' base A n c l :=
  h.grew g ha fun x hx => own_ne (h.dat x hx) hB (by decide)

section
variable {w w' w1 w2 : World} {base lo M n no co : Nat} {G : Int → GV} {Ao : Option Addr} {out : List TV}
end

/-- How records make transactions. -/
def stp (s : (Int → List Rec) × List (Int × List Rec)) (r : Rec) : (Int → List Rec) × List (Int × List Rec) :=
  if r.k = 3 then (upd s.1 r.t [], s.2 ++ [(r.t, s.1 r.t)]) else (upd s.1 r.t (s.1 r.t ++ [r]), s.2)
def sts (l : List Rec) : (Int → List Rec) × List (Int × List Rec) := l.foldl stp (fun _ => [], [])
theorem sts_snoc (l : List Rec) (r : Rec) : sts (l ++ [r]) = stp (sts l) r := by simp [sts]
def trs (l : List Rec) : List (Int × List Rec) := (sts l).2
/-- The state in memory is the one of some records. -/
structure Is (G : Int → GV) (out : List TV) (l : List Rec) : Prop where
  g : ∀ t, (G t).l.map RV.r = (sts l).1 t
  o : out.map (fun x => (x.tx, x.g.l.map RV.r)) = (sts l).2
theorem Is.nil_ : Is (fun _ => GV.nil) [] [] := ⟨fun _ => rfl, rfl⟩
theorem Is.push {G : Int → GV} {out : List TV} {l : List Rec} (h : Is G out l) (x : RV) (hk : x.k ≠ 3) (A' : Option Addr) (n' c' : Nat) : Is (upd G x.t ⟨A', n', c', (G x.t).l ++ [x]⟩) out (l ++ [x.r]) := by
  have hr : x.r.t = x.t := rfl
  have hs : stp (sts l) x.r = (upd (sts l).1 x.t ((sts l).1 x.t ++ [x.r]), (sts l).2) := by
    unfold stp; rw [if_neg (show ¬ x.r.k = 3 from hk), hr]
  refine ⟨fun t => ?_, ?_⟩
  · rw [sts_snoc, hs]
    dsimp only
    by_cases e : t = x.t
    · subst e; rw [upd_same, upd_same]; simp [h.g]
    · rw [upd_other _ _ e, upd_other _ _ e]; exact h.g t
  · rw [sts_snoc, hs]; exact h.o
theorem Is.commit {G : Int → GV} {out : List TV} {l : List Rec} (h : Is G out l) (x : RV) (hk : x.k = 3) : Is (upd G x.t GV.nil) (out ++ [⟨x.t, G x.t⟩]) (l ++ [x.r]) := by
  have hr : x.r.t = x.t := rfl
  have hs : stp (sts l) x.r = (upd (sts l).1 x.t [], (sts l).2 ++ [(x.t, (sts l).1 x.t)]) := by
    unfold stp; rw [if_pos (show x.r.k = 3 from hk), hr]
  refine ⟨fun t => ?_, ?_⟩
  · rw [sts_snoc, hs]
    dsimp only
    by_cases e : t = x.t
    · subst e; rw [upd_same, upd_same]; rfl
    · rw [upd_other _ _ e, upd_other _ _ e]; exact h.g t
  · rw [sts_snoc, hs]; simp [h.o, h.g]
end Go.Proofs.YtpmkohnljngbhaaGreatDoor.Wl
