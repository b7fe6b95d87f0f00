/- Bytes and records among the arguments, opened to their cells. -/
import Derived.Test.YtfkeedeiafegiaaWalMem2
import Derived.Test.YtfkeedeiafegiaaProg
import Derived.ProofKit
import Derived.OpenShut
import Derived.ShutString
import Derived.ChangeOld
import Derived.ChangeSame
import Derived.Below
import Derived.Lib.SmallJoins
import Derived.Deep.Slices
import Derived.Deep.Strs
namespace Go.Proofs.Ytfkeedeiafegiaa.Wl
set_option linter.unusedVariables false
set_option linter.unusedSimpArgs false
open Go.ChangeShapes Go.WideShapes Go.Deep Go.RowKit

theorem cell_lt {W : World} {p : Addr} {v : Value} (h : W.cell? p = some v) : p.block < W.heap.size ∧ p.spot = none := by
  unfold World.cell? at h
  rcases hh : W.heap[p.block]? with _ | o
  · rw [hh] at h; simp at h
  · refine ⟨(Array.getElem?_eq_some_iff.1 hh).1, ?_⟩
    rw [hh] at h
    cases o <;> first | (simp at h; done) | skip
    rcases hs : p.spot with _ | x
    · rfl
    · simp [hs] at h
theorem addr_at {W : World} {a : Addr} {v : Value} (h : W.cell? (a.add 0) = some v) : a.block < W.heap.size ∧ a = ⟨a.block, a.off, none⟩ ∧ ∀ k, a.add k = ⟨a.block, a.off + k, none⟩ := by
  have e : a.add 0 = a := by simp [Addr.add]
  rw [e] at h
  obtain ⟨h1, h2⟩ := cell_lt h
  have ha : a = ⟨a.block, a.off, none⟩ := by cases a; simp at h2 ⊢; exact h2
  refine ⟨h1, ha, fun k => ?_⟩
  rw [ha]; exact addr_add _ _ _
section
variable {H : Type} {enc : TypeId × Value → H} {W : World} {base : Nat} {spare : Nat → Bool} {held : Bool}
theorem open_bytes {fuel : Nat} {c0 : Value} {y : DataW H × List MemPlace} (h : DataW.trod enc Try.prog W base spare held fuel 22 [c0] = some y) :
    ∃ (A : Option Addr) (n c : Nat) (d : List UInt8), c0 = .slice A n c ∧ Rd W 1 A n c (bv d) := by
  have one1 : Try.prog.cellsOf 5 = 1 := by kernel_rfl
  rcases open_slice Try.underlying22 h with ⟨hc, _⟩ | ⟨a, len, cap, m, fu, D, Pl, hc, _, hlc, hcm, hm, _, hi⟩
  · obtain rfl : c0 = .slice none 0 0 := by simpa using hc
    exact ⟨none, 0, 0, [], rfl, Rd.nil_ _ _⟩
  · obtain rfl : c0 = .slice (some a) len cap := by simpa using hc
    have hlm : len ≤ m := by rw [hm]; split <;> omega
    have hel : ∀ i, i < len → ∃ q : UInt8, W.cell? (a.add i) = some (.int .u8 (q.toNat : Int)) := by
      intro i him
      obtain ⟨cs', hcs, ht⟩ := hi i (by omega)
      rw [one1] at hcs
      obtain ⟨_, hcl, hat⟩ := World.cells?_some hcs
      match cs', hcl with
      | [x], _ =>
        obtain ⟨u, e, _, wf⟩ := DataW.trod_int Try.underlying5 ht
        obtain rfl : x = .int .u8 u := by simpa using e
        have h0 := hat 0 (by omega)
        have hb := bounds_u8 wf
        refine ⟨UInt8.ofNat u.toNat, ?_⟩
        rw [show ((UInt8.ofNat u.toNat).toNat : Int) = u by simp; omega]
        rw [add_add, Nat.mul_one, Nat.add_zero] at h0
        exact h0
    obtain ⟨f, hf⟩ := choose_lt hel
    have hmx : maxLen = 9223372036854775807 := by decide
    refine ⟨some a, len, cap, (List.range len).map f, rfl, ?_, hlc, fun e => (by cases e), by omega, fun h0 => ?_⟩
    · rw [bv_len]; simp
    · obtain ⟨h1, h2, h3⟩ := addr_at (hf 0 h0)
      refine ⟨a.block, a.off, by rw [← h2], h1, fun j hj => ?_⟩
      rw [← h3, hf j (by omega), bv_get, List.getElem?_map, List.getElem?_range (by omega)]; rfl
instance : Inhabited RV := ⟨⟨0, 0, none, 0, []⟩⟩
/-- What a record of the program may hold. -/
def Fit (l : List RV) : Prop := ∀ x ∈ l, x.t ≤ 9223372036854775807
theorem open_recs {fuel : Nat} {c0 : Value} {y : DataW H × List MemPlace} (h : DataW.trod enc Try.prog W base spare held fuel 33 [c0] = some y) :
    ∃ (A : Option Addr) (n c : Nat) (l : List RV), c0 = .slice A n c ∧ Rr W A n c l ∧ Fit l := by
  have three : Try.prog.cellsOf 24 = 3 := by kernel_rfl
  have one3 : Try.prog.cellsOf 3 = 1 := by kernel_rfl
  have one22 : Try.prog.cellsOf 22 = 1 := by kernel_rfl
  rcases open_slice Try.underlying33 h with ⟨hc, _⟩ | ⟨a, len, cap, m, fu, D, Pl, hc, _, hlc, hcm, hm, _, hi⟩
  · obtain rfl : c0 = .slice none 0 0 := by simpa using hc
    exact ⟨none, 0, 0, [], rfl, ⟨Rd.nil_ _ _, by simp⟩, by simp [Fit]⟩
  · obtain rfl : c0 = .slice (some a) len cap := by simpa using hc
    have hlm : len ≤ m := by rw [hm]; split <;> omega
    have hel : ∀ i, i < len → ∃ q : RV, (W.cell? (a.add (i * 3)) = some (.int .i64 q.k) ∧ W.cell? (a.add (i * 3 + 1)) = some (.int .i64 q.t) ∧ W.cell? (a.add (i * 3 + 2)) = some (.slice q.A q.d.length q.c)) ∧ Rd W 1 q.A q.d.length q.c (bv q.d) ∧ q.t ≤ 9223372036854775807 := by
      intro i him
      obtain ⟨cs', hcs, ht⟩ := hi i (by omega)
      rw [three] at hcs
      obtain ⟨_, hcl, hat⟩ := World.cells?_some hcs
      match cs', hcl with
      | [x, y, z], _ =>
        obtain ⟨z0, z1, z2, n', _, _, g0, g1, g2⟩ := trod_struct3 Try.underlying24 ht
        have g0' : DataW.trod enc Try.prog W base spare held n' 3 [x] = some z0 := by simpa [one3] using g0
        have g1' : DataW.trod enc Try.prog W base spare held n' 3 [y] = some z1 := by simpa [one3] using g1
        have g2' : DataW.trod enc Try.prog W base spare held n' 22 [z] = some z2 := by simpa [one22] using g2
        obtain ⟨u0, e0, _, w0⟩ := DataW.trod_int Try.underlying3 g0'
        obtain ⟨u1, e1, _, w1⟩ := DataW.trod_int Try.underlying3 g1'
        obtain ⟨A', n1, c1, d, e2, hr⟩ := open_bytes g2'
        obtain rfl : x = .int .i64 u0 := by simpa using e0
        obtain rfl : y = .int .i64 u1 := by simpa using e1
        subst e2
        have hl : n1 = d.length := by have := hr.len; rw [bv_len] at this; omega
        subst hl
        have h0 := hat 0 (by omega)
        have h1 := hat 1 (by omega)
        have h2 := hat 2 (by omega)
        rw [add_add] at h0 h1 h2
        exact ⟨⟨u0, u1, A', c1, d⟩, ⟨h0, h1, h2⟩, hr, (bounds_i64 w1).2⟩
    obtain ⟨f, hf⟩ := choose_lt hel
    have hmx : maxLen = 9223372036854775807 := by decide
    refine ⟨some a, len, cap, (List.range len).map f, rfl, ⟨⟨?_, hlc, fun e => (by cases e), by omega, fun h0 => ?_⟩, fun x hx => ?_⟩, fun x hx => ?_⟩
    · rw [cells_len]; simp
    · have hz := (hf 0 h0).1.1
      rw [Nat.zero_mul] at hz
      obtain ⟨h1, h2, h3⟩ := addr_at hz
      refine ⟨a.block, a.off, by rw [← h2], h1, fun j hj => ?_⟩
      obtain ⟨i, r, hr, rfl⟩ : ∃ i r, r < 3 ∧ j = i * 3 + r := ⟨j / 3, j % 3, Nat.mod_lt _ (by omega), by omega⟩
      have hi' : i < len := by omega
      obtain ⟨⟨c0, c1, c2⟩, _⟩ := hf i hi'
      obtain ⟨k0, k1, k2⟩ := cells_get ((List.range len).map f) i (f i) (by rw [List.getElem?_map, List.getElem?_range hi']; rfl)
      have hr3 : r = 0 ∨ r = 1 ∨ r = 2 := by omega
      rcases hr3 with rfl | rfl | rfl
      · rw [← h3]; rw [Nat.add_zero, c0, k0]
      · rw [← h3, c1, k1]
      · rw [← h3, c2, k2]
    · obtain ⟨i, hi', rfl⟩ := List.mem_map.1 hx
      exact (hf i (List.mem_range.1 hi')).2.1
    · obtain ⟨i, hi', rfl⟩ := List.mem_map.1 hx
      exact (hf i (List.mem_range.1 hi')).2.2
theorem open_recs' {r : Reach} {b0 : Nat} {v : Value} {d : DataW H} {p : List MemPlace} (hv : Value.okWide Try.prog W r b0 33 v) (h : DataW.Trod enc Try.prog W base spare held 33 v d p) :
    ∃ (A : Option Addr) (n c : Nat) (l : List RV), v = .slice A n c ∧ Rr W A n c l ∧ Fit l := by
  obtain ⟨a, len, cap, rfl⟩ := okWide_slice Try.underlying33 hv
  obtain ⟨fuel, hf⟩ := h
  obtain ⟨A, n, c, l, e, h1, h2⟩ := open_recs (c0 := .slice a len cap) (by simpa [Value.cells] using hf)
  exact ⟨A, n, c, l, e, h1, h2⟩
theorem open_bytes' {r : Reach} {b0 : Nat} {v : Value} {d : DataW H} {p : List MemPlace} (hv : Value.okWide Try.prog W r b0 22 v) (h : DataW.Trod enc Try.prog W base spare held 22 v d p) :
    ∃ (A : Option Addr) (n c : Nat) (x : List UInt8), v = .slice A n c ∧ Rd W 1 A n c (bv x) := by
  obtain ⟨a, len, cap, rfl⟩ := okWide_slice Try.underlying22 hv
  obtain ⟨fuel, hf⟩ := h
  obtain ⟨A, n, c, l, e, h1⟩ := open_bytes (c0 := .slice a len cap) (by simpa [Value.cells] using hf)
  exact ⟨A, n, c, l, e, h1⟩
end
end Go.Proofs.Ytfkeedeiafegiaa.Wl
