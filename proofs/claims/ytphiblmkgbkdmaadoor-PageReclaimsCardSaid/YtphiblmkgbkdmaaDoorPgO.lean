/- The arguments, opened to their cells. -/
import Derived.Test.YtphiblmkgbkdmaaDoorPgX9
import Derived.Test.YtphiblmkgbkdmaaDoorProg
import Derived.ProofKit
import Derived.OpenShut
import Derived.ShutString
import Derived.ChangeOld
import Derived.ChangeSame
import Derived.Below
import Derived.Lib.SmallJoins
import Derived.Deep.Slices
import Derived.Deep.Strs
namespace Go.Proofs.YtphiblmkgbkdmaaDoor.Wl
set_option linter.unusedVariables false
set_option linter.unusedSimpArgs false
open Go.ChangeShapes Go.WideShapes Go.Deep Go.RowKit

theorem cell_lt {W : World} {p : Addr} {v : Value} (h : W.cell? p = some v) : p.block < W.heap.size ∧ p.spot = none := by
  unfold World.cell? at h
  rcases hh : W.heap[p.block]? with _ | o
  · rw [hh] at h; simp at h
  · refine ⟨(Array.getElem?_eq_some_iff.1 hh).1, ?_⟩
    rw [hh] at h
    cases o <;> first | (simp at h; done) | skip
    rcases hs : p.spot with _ | x
    · rfl
    · simp [hs] at h
theorem addr_at {W : World} {a : Addr} {v : Value} (h : W.cell? (a.add 0) = some v) : a.block < W.heap.size ∧ a = ⟨a.block, a.off, none⟩ ∧ ∀ k, a.add k = ⟨a.block, a.off + k, none⟩ := by
  have e : a.add 0 = a := by simp [Addr.add]
  rw [e] at h
  obtain ⟨h1, h2⟩ := cell_lt h
  have ha : a = ⟨a.block, a.off, none⟩ := by cases a; simp at h2 ⊢; exact h2
  refine ⟨h1, ha, fun k => ?_⟩
  rw [ha]; exact addr_add _ _ _
section
variable {H : Type} {enc : TypeId × Value → H} {W : World} {base : Nat} {spare : Nat → Bool} {held : Bool}
theorem open_bytes {fuel : Nat} {c0 : Value} {y : DataW H × List MemPlace} (h : DataW.trod enc Tryd.prog W base spare held fuel 22 [c0] = some y) :
    ∃ (A : Option Addr) (n c : Nat) (d : List UInt8), c0 = .slice A n c ∧ Rd W 1 A n c (bv d) := by
  have one1 : Tryd.prog.cellsOf 5 = 1 := by kernel_rfl
  rcases open_slice Tryd.underlying22 h with ⟨hc, _⟩ | ⟨a, len, cap, m, fu, D, Pl, hc, _, hlc, hcm, hm, _, hi⟩
  · obtain rfl : c0 = .slice none 0 0 := by simpa using hc
    exact ⟨none, 0, 0, [], rfl, Rd.nil_ _ _⟩
  · obtain rfl : c0 = .slice (some a) len cap := by simpa using hc
    have hlm : len ≤ m := by rw [hm]; split <;> omega
    have hel : ∀ i, i < len → ∃ q : UInt8, W.cell? (a.add i) = some (.int .u8 (q.toNat : Int)) := by
      intro i him
      obtain ⟨cs', hcs, ht⟩ := hi i (by omega)
      rw [one1] at hcs
      obtain ⟨_, hcl, hat⟩ := World.cells?_some hcs
      match cs', hcl with
      | [x], _ =>
        obtain ⟨u, e, _, wf⟩ := DataW.trod_int Tryd.underlying5 ht
        obtain rfl : x = .int .u8 u := by simpa using e
        have h0 := hat 0 (by omega)
        have hb := bounds_u8 wf
        refine ⟨UInt8.ofNat u.toNat, ?_⟩
        rw [show ((UInt8.ofNat u.toNat).toNat : Int) = u by simp; omega]
        rw [add_add, Nat.mul_one, Nat.add_zero] at h0
        exact h0
    obtain ⟨f, hf⟩ := choose_lt hel
    have hmx : maxLen = 9223372036854775807 := by decide
    refine ⟨some a, len, cap, (List.range len).map f, rfl, ?_, hlc, fun e => (by cases e), by omega, fun h0 => ?_⟩
    · rw [bv_len]; simp
    · obtain ⟨h1, h2, h3⟩ := addr_at (hf 0 h0)
      refine ⟨a.block, a.off, by rw [← h2], h1, fun j hj => ?_⟩
      rw [← h3, hf j (by omega), bv_get, List.getElem?_map, List.getElem?_range (by omega)]; rfl
set_option maxRecDepth 100000 in
theorem open_bytes' {r : Reach} {b0 : Nat} {v : Value} {d : DataW H} {p : List MemPlace} (hv : Value.okWide Tryd.prog W r b0 22 v) (h : DataW.Trod enc Tryd.prog W base spare held 22 v d p) :
    ∃ (A : Option Addr) (n c : Nat) (x : List UInt8), v = .slice A n c ∧ Rd W 1 A n c (bv x) := by
  obtain ⟨a, len, cap, rfl⟩ := okWide_slice Tryd.underlying22 hv
  obtain ⟨fuel, hf⟩ := h
  obtain ⟨A, n, c, l, e, h1⟩ := open_bytes (c0 := .slice a len cap) hf
  exact ⟨A, n, c, l, e, h1⟩
end
end Go.Proofs.YtphiblmkgbkdmaaDoor.Wl
namespace Go.Proofs.YtphiblmkgbkdmaaDoor.Pg
open Go.ChangeShapes Go.WideShapes Go.Deep Go.RowKit Wl

/-- An operation, in memory. -/
structure OV where
  kd : Int
  A : Option Addr
  c : Nat
  k : List UInt8
  B : Option Addr
  d : Nat
  v : List UInt8
def OV.cs (x : OV) : List Value := [.int .i64 x.kd, .slice x.A x.k.length x.c, .slice x.B x.v.length x.d]
def oc (l : List OV) : List Value := l.flatMap OV.cs
theorem oc_len : ∀ l : List OV, (oc l).length = l.length * 3
  | [] => rfl
  | x :: l => by
    have := oc_len l
    simp only [oc, List.flatMap_cons, List.length_append] at this ⊢
    rw [this]; simp [OV.cs]; omega
theorem oc_get : ∀ (l : List OV) (k : Nat) (x : OV), l[k]? = some x → (oc l)[k * 3]? = some (.int .i64 x.kd) ∧ (oc l)[k * 3 + 1]? = some (.slice x.A x.k.length x.c) ∧ (oc l)[k * 3 + 2]? = some (.slice x.B x.v.length x.d)
  | [], k, x, h => by simp at h
  | y :: l, 0, x, h => by
    obtain rfl : y = x := by simpa using h
    simp [oc, OV.cs]
  | y :: l, k + 1, x, h => by
    have ih := oc_get l k x (by simpa using h)
    have e : ∀ j, (oc (y :: l))[(k + 1) * 3 + j]? = (oc l)[k * 3 + j]? := fun j => by
      show (OV.cs y ++ oc l)[(k + 1) * 3 + j]? = _
      rw [List.getElem?_append_right (by simp [OV.cs]; omega)]
      congr 1
      simp [OV.cs]; omega
    exact ⟨by rw [← Nat.add_zero ((k + 1) * 3), e 0]; exact ih.1, by rw [e 1]; exact ih.2.1, by rw [e 2]; exact ih.2.2⟩
structure Or (w : World) (A : Option Addr) (n c : Nat) (l : List OV) : Prop where
  row : Rd w 3 A n c (oc l)
  dat : ∀ x ∈ l, Rd w 1 x.A x.k.length x.c (bv x.k) ∧ Rd w 1 x.B x.v.length x.d (bv x.v)
theorem Or.below {w w' : World} {A : Option Addr} {n c : Nat} {l : List OV} (h : Or w A n c l) (hb : Below w.heap.size w w') : Or w' A n c l := ⟨h.row.below hb, fun x hx => ⟨(h.dat x hx).1.below hb, (h.dat x hx).2.below hb⟩⟩
theorem Or.len {w : World} {A : Option Addr} {n c : Nat} {l : List OV} (h : Or w A n c l) : n = l.length := by
  have := h.row.len; rw [oc_len] at this; omega
theorem Or.item {w : World} {n c k : Nat} {A : Option Addr} {l : List OV} (h : Or w A n c l) (hk : k < n) :
    ∃ g o x, A = some ⟨g, o, none⟩ ∧ g < w.heap.size ∧ l[k]? = some x ∧ w.cell? ⟨g, o + k * 3, none⟩ = some (.int .i64 x.kd) ∧ w.cell? ⟨g, o + k * 3 + 1, none⟩ = some (.slice x.A x.k.length x.c) ∧ w.cell? ⟨g, o + k * 3 + 2, none⟩ = some (.slice x.B x.v.length x.d) := by
  obtain ⟨g, o, e, hb, hc⟩ := h.row.at_ (by omega)
  have hl := h.len
  have hx : l[k]? = some (l[k]'(by omega)) := List.getElem?_eq_getElem (by omega)
  obtain ⟨k0, k1, k2⟩ := oc_get l k _ hx
  exact ⟨g, o, _, e, hb, hx, by rw [hc _ (by omega), k0], by rw [Nat.add_assoc, hc _ (by omega), k1], by rw [Nat.add_assoc, hc _ (by omega), k2]⟩
instance : Inhabited OV := ⟨⟨0, none, 0, [], none, 0, []⟩⟩
instance : Inhabited PV := ⟨⟨none, 0, []⟩⟩
section
variable {H : Type} {enc : TypeId × Value → H} {W : World} {base : Nat} {spare : Nat → Bool} {held : Bool}
theorem open_pages {fuel : Nat} {c0 : Value} {y : DataW H × List MemPlace} (h : DataW.trod enc Tryd.prog W base spare held fuel 27 [c0] = some y) :
    ∃ (A : Option Addr) (n c : Nat) (l : List PV), c0 = .slice A n c ∧ n = l.length ∧ Pr W A n c l := by
  have one22 : Tryd.prog.cellsOf 22 = 1 := by kernel_rfl
  rcases open_slice Tryd.underlying27 h with ⟨hc, _⟩ | ⟨a, len, cap, m, fu, D, Pl, hc, _, hlc, hcm, hm, _, hi⟩
  · obtain rfl : c0 = .slice none 0 0 := by simpa using hc
    exact ⟨none, 0, 0, [], rfl, rfl, ⟨Rd.nil_ _ _, by simp⟩⟩
  · obtain rfl : c0 = .slice (some a) len cap := by simpa using hc
    have hlm : len ≤ m := by rw [hm]; split <;> omega
    have hel : ∀ i, i < len → ∃ q : PV, W.cell? (a.add i) = some q.v ∧ Rd W 1 q.A q.d.length q.c (bv q.d) := by
      intro i him
      obtain ⟨cs', hcs, ht⟩ := hi i (by omega)
      rw [one22] at hcs
      obtain ⟨_, hcl, hat⟩ := World.cells?_some hcs
      match cs', hcl with
      | [x], _ =>
        obtain ⟨A', n1, c1, d, e2, hr⟩ := open_bytes ht
        subst e2
        have hl : n1 = d.length := by have := hr.len; rw [bv_len] at this; omega
        subst hl
        have h0 := hat 0 (by omega)
        rw [add_add, Nat.mul_one, Nat.add_zero] at h0
        exact ⟨⟨A', c1, d⟩, h0, hr⟩
    obtain ⟨f, hf⟩ := choose_lt hel
    have hmx : maxLen = 9223372036854775807 := by decide
    refine ⟨some a, len, cap, (List.range len).map f, rfl, by simp, ⟨⟨?_, hlc, fun e => (by cases e), by omega, fun h0 => ?_⟩, fun x hx => ?_⟩⟩
    · rw [pv_len]; simp
    · obtain ⟨h1, h2, h3⟩ := addr_at (hf 0 h0).1
      refine ⟨a.block, a.off, by rw [← h2], h1, fun j hj => ?_⟩
      rw [← h3, (hf j (by omega)).1]
      unfold pv
      rw [List.getElem?_map, List.getElem?_map, List.getElem?_range (by omega)]; rfl
    · obtain ⟨i, hi', rfl⟩ := List.mem_map.1 hx
      exact (hf i (List.mem_range.1 hi')).2
theorem open_ints {fuel : Nat} {c0 : Value} {y : DataW H × List MemPlace} (h : DataW.trod enc Tryd.prog W base spare held fuel 28 [c0] = some y) :
    ∃ (A : Option Addr) (n c : Nat) (l : List Int), c0 = .slice A n c ∧ n = l.length ∧ Rd W 1 A n c (iv l) := by
  have one3 : Tryd.prog.cellsOf 3 = 1 := by kernel_rfl
  rcases open_slice Tryd.underlying28 h with ⟨hc, _⟩ | ⟨a, len, cap, m, fu, D, Pl, hc, _, hlc, hcm, hm, _, hi⟩
  · obtain rfl : c0 = .slice none 0 0 := by simpa using hc
    exact ⟨none, 0, 0, [], rfl, rfl, Rd.nil_ _ _⟩
  · obtain rfl : c0 = .slice (some a) len cap := by simpa using hc
    have hlm : len ≤ m := by rw [hm]; split <;> omega
    have hel : ∀ i, i < len → ∃ q : Int, W.cell? (a.add i) = some (.int .i64 q) := by
      intro i him
      obtain ⟨cs', hcs, ht⟩ := hi i (by omega)
      rw [one3] at hcs
      obtain ⟨_, hcl, hat⟩ := World.cells?_some hcs
      match cs', hcl with
      | [x], _ =>
        obtain ⟨u, e, _, wf⟩ := DataW.trod_int Tryd.underlying3 ht
        obtain rfl : x = .int .i64 u := by simpa using e
        have h0 := hat 0 (by omega)
        rw [add_add, Nat.mul_one, Nat.add_zero] at h0
        exact ⟨u, h0⟩
    obtain ⟨f, hf⟩ := choose_lt hel
    have hmx : maxLen = 9223372036854775807 := by decide
    refine ⟨some a, len, cap, (List.range len).map f, rfl, by simp, ⟨?_, hlc, fun e => (by cases e), by omega, fun h0 => ?_⟩⟩
    · rw [iv_len]; simp
    · obtain ⟨h1, h2, h3⟩ := addr_at (hf 0 h0)
      refine ⟨a.block, a.off, by rw [← h2], h1, fun j hj => ?_⟩
      rw [← h3, hf j (by omega)]
      unfold iv
      rw [List.getElem?_map, List.getElem?_map, List.getElem?_range (by omega)]; rfl
theorem open_ops {fuel : Nat} {c0 : Value} {y : DataW H × List MemPlace} (h : DataW.trod enc Tryd.prog W base spare held fuel 47 [c0] = some y) :
    ∃ (A : Option Addr) (n c : Nat) (l : List OV), c0 = .slice A n c ∧ Or W A n c l := by
  have three : Tryd.prog.cellsOf 52 = 3 := by kernel_rfl
  have one3 : Tryd.prog.cellsOf 3 = 1 := by kernel_rfl
  have one22 : Tryd.prog.cellsOf 22 = 1 := by kernel_rfl
  rcases open_slice Tryd.underlying47 h with ⟨hc, _⟩ | ⟨a, len, cap, m, fu, D, Pl, hc, _, hlc, hcm, hm, _, hi⟩
  · obtain rfl : c0 = .slice none 0 0 := by simpa using hc
    exact ⟨none, 0, 0, [], rfl, ⟨Rd.nil_ _ _, by simp⟩⟩
  · obtain rfl : c0 = .slice (some a) len cap := by simpa using hc
    have hlm : len ≤ m := by rw [hm]; split <;> omega
    have hel : ∀ i, i < len → ∃ q : OV, (W.cell? (a.add (i * 3)) = some (.int .i64 q.kd) ∧ W.cell? (a.add (i * 3 + 1)) = some (.slice q.A q.k.length q.c) ∧ W.cell? (a.add (i * 3 + 2)) = some (.slice q.B q.v.length q.d)) ∧ Rd W 1 q.A q.k.length q.c (bv q.k) ∧ Rd W 1 q.B q.v.length q.d (bv q.v) := by
      intro i him
      obtain ⟨cs', hcs, ht⟩ := hi i (by omega)
      rw [three] at hcs
      obtain ⟨_, hcl, hat⟩ := World.cells?_some hcs
      match cs', hcl with
      | [x, y, z], _ =>
        obtain ⟨z0, z1, z2, n', _, _, g0, g1, g2⟩ := trod_struct3 Tryd.underlying52 ht
        have g0' : DataW.trod enc Tryd.prog W base spare held n' 3 [x] = some z0 := by simpa [one3] using g0
        have g1' : DataW.trod enc Tryd.prog W base spare held n' 22 [y] = some z1 := by simpa [one22] using g1
        have g2' : DataW.trod enc Tryd.prog W base spare held n' 22 [z] = some z2 := by simpa [one22] using g2
        obtain ⟨u0, e0, _, w0⟩ := DataW.trod_int Tryd.underlying3 g0'
        obtain ⟨A1, n1, c1, d1, e1, hr1⟩ := open_bytes g1'
        obtain ⟨A2, n2, c2, d2, e2, hr2⟩ := open_bytes g2'
        obtain rfl : x = .int .i64 u0 := by simpa using e0
        subst e1 e2
        have hl1 : n1 = d1.length := by have := hr1.len; rw [bv_len] at this; omega
        have hl2 : n2 = d2.length := by have := hr2.len; rw [bv_len] at this; omega
        subst hl1 hl2
        have h0 := hat 0 (by omega)
        have h1 := hat 1 (by omega)
        have h2 := hat 2 (by omega)
        rw [add_add] at h0 h1 h2
        exact ⟨⟨u0, A1, c1, d1, A2, c2, d2⟩, ⟨h0, h1, h2⟩, hr1, hr2⟩
    obtain ⟨f, hf⟩ := choose_lt hel
    have hmx : maxLen = 9223372036854775807 := by decide
    refine ⟨some a, len, cap, (List.range len).map f, rfl, ⟨⟨?_, hlc, fun e => (by cases e), by omega, fun h0 => ?_⟩, fun x hx => ?_⟩⟩
    · rw [oc_len]; simp
    · have hz := (hf 0 h0).1.1
      rw [Nat.zero_mul] at hz
      obtain ⟨h1, h2, h3⟩ := addr_at hz
      refine ⟨a.block, a.off, by rw [← h2], h1, fun j hj => ?_⟩
      obtain ⟨i, r, hr, rfl⟩ : ∃ i r, r < 3 ∧ j = i * 3 + r := ⟨j / 3, j % 3, Nat.mod_lt _ (by omega), by omega⟩
      have hi' : i < len := by omega
      obtain ⟨⟨c0, c1, c2⟩, _⟩ := hf i hi'
      obtain ⟨k0, k1, k2⟩ := oc_get ((List.range len).map f) i (f i) (by rw [List.getElem?_map, List.getElem?_range hi']; rfl)
      have hr3 : r = 0 ∨ r = 1 ∨ r = 2 := by omega
      rcases hr3 with rfl | rfl | rfl
      · rw [← h3]; rw [Nat.add_zero, c0, k0]
      · rw [← h3, c1, k1]
      · rw [← h3, c2, k2]
    · obtain ⟨i, hi', rfl⟩ := List.mem_map.1 hx
      exact (hf i (List.mem_range.1 hi')).2
set_option maxRecDepth 100000 in
theorem open_pages' {r : Reach} {b0 : Nat} {v : Value} {d : DataW H} {p : List MemPlace} (hv : Value.okWide Tryd.prog W r b0 27 v) (h : DataW.Trod enc Tryd.prog W base spare held 27 v d p) :
    ∃ (A : Option Addr) (n c : Nat) (l : List PV), v = .slice A n c ∧ n = l.length ∧ Pr W A n c l := by
  obtain ⟨a, len, cap, rfl⟩ := okWide_slice Tryd.underlying27 hv
  obtain ⟨fuel, hf⟩ := h
  exact open_pages (c0 := .slice a len cap) hf
set_option maxRecDepth 100000 in
theorem open_ops' {r : Reach} {b0 : Nat} {v : Value} {d : DataW H} {p : List MemPlace} (hv : Value.okWide Tryd.prog W r b0 47 v) (h : DataW.Trod enc Tryd.prog W base spare held 47 v d p) :
    ∃ (A : Option Addr) (n c : Nat) (l : List OV), v = .slice A n c ∧ Or W A n c l := by
  obtain ⟨a, len, cap, rfl⟩ := okWide_slice Tryd.underlying47 hv
  obtain ⟨fuel, hf⟩ := h
  exact open_ops (c0 := .slice a len cap) hf
end
end Go.Proofs.YtphiblmkgbkdmaaDoor.Pg
