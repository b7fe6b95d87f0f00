/- Calendars among the arguments, opened to their cells. -/
import Derived.Test.YtainibnjpkbfpaaCalMem
import Derived.Test.YtainibnjpkbfpaaProg
import Derived.ProofKit
import Derived.OpenShut
import Derived.ShutString
import Derived.ChangeOld
import Derived.ChangeSame
import Derived.Below
import Derived.Lib.SmallJoins
import Derived.Deep.Slices
import Derived.Deep.Strs
namespace Go.Proofs.Ytainibnjpkbfpaa.Cv
set_option linter.unusedVariables false
set_option linter.unusedSimpArgs false
open Go.ChangeShapes Go.WideShapes Go.Deep Go.RowKit Wl

theorem cell_lt {W : World} {p : Addr} {v : Value} (h : W.cell? p = some v) : p.block < W.heap.size ∧ p.spot = none := by
  unfold World.cell? at h
  rcases hh : W.heap[p.block]? with _ | o
  · rw [hh] at h; simp at h
  · refine ⟨(Array.getElem?_eq_some_iff.1 hh).1, ?_⟩
    rw [hh] at h
    cases o <;> first | (simp at h; done) | skip
    rcases hs : p.spot with _ | x
    · rfl
    · simp [hs] at h
theorem addr_at {W : World} {a : Addr} {v : Value} (h : W.cell? (a.add 0) = some v) : a.block < W.heap.size ∧ a = ⟨a.block, a.off, none⟩ ∧ ∀ k, a.add k = ⟨a.block, a.off + k, none⟩ := by
  have e : a.add 0 = a := by simp [Addr.add]
  rw [e] at h
  obtain ⟨h1, h2⟩ := cell_lt h
  have ha : a = ⟨a.block, a.off, none⟩ := by cases a; simp at h2 ⊢; exact h2
  refine ⟨h1, ha, fun k => ?_⟩
  rw [ha]; exact addr_add _ _ _
section
variable {H : Type} {enc : TypeId × Value → H} {W : World} {base : Nat} {spare : Nat → Bool} {held : Bool}
theorem open_spans {fuel : Nat} {c0 : Value} {y : DataW H × List MemPlace} (h : DataW.trod enc Try.prog W base spare held fuel 22 [c0] = some y) :
    ∃ (A : Option Addr) (n c : Nat) (l : List (Int × Int)), c0 = .slice A n c ∧ Sr W A n c l := by
  have two : Try.prog.cellsOf 35 = 2 := by kernel_rfl
  have one3 : Try.prog.cellsOf 3 = 1 := by kernel_rfl
  rcases open_slice Try.underlying22 h with ⟨hc, _⟩ | ⟨a, len, cap, m, fu, D, Pl, hc, _, hlc, hcm, hm, _, hi⟩
  · obtain rfl : c0 = .slice none 0 0 := by simpa using hc
    exact ⟨none, 0, 0, [], rfl, Rd.nil_ _ _⟩
  · obtain rfl : c0 = .slice (some a) len cap := by simpa using hc
    have hlm : len ≤ m := by rw [hm]; split <;> omega
    have hel : ∀ i, i < len → ∃ q : Int × Int, W.cell? (a.add (i * 2)) = some (.int .i64 q.1) ∧ W.cell? (a.add (i * 2 + 1)) = some (.int .i64 q.2) := by
      intro i him
      obtain ⟨cs', hcs, ht⟩ := hi i (by omega)
      rw [two] at hcs
      obtain ⟨_, hcl, hat⟩ := World.cells?_some hcs
      match cs', hcl with
      | [x, y], _ =>
        obtain ⟨z0, z1, n', _, _, g0, g1⟩ := trod_struct2 Try.underlying35 ht
        have g0' : DataW.trod enc Try.prog W base spare held n' 3 [x] = some z0 := by simpa [one3] using g0
        have g1' : DataW.trod enc Try.prog W base spare held n' 3 [y] = some z1 := by simpa [one3] using g1
        obtain ⟨u0, e0, _, w0⟩ := DataW.trod_int Try.underlying3 g0'
        obtain ⟨u1, e1, _, w1⟩ := DataW.trod_int Try.underlying3 g1'
        obtain rfl : x = .int .i64 u0 := by simpa using e0
        obtain rfl : y = .int .i64 u1 := by simpa using e1
        have h0 := hat 0 (by omega)
        have h1 := hat 1 (by omega)
        rw [add_add] at h0 h1
        exact ⟨(u0, u1), h0, h1⟩
    obtain ⟨f, hf⟩ := choose_lt hel
    have hmx : maxLen = 9223372036854775807 := by decide
    refine ⟨some a, len, cap, (List.range len).map f, rfl, ⟨?_, hlc, fun e => (by cases e), by omega, fun h0 => ?_⟩⟩
    · rw [sc_len]; simp
    · have hz := (hf 0 h0).1
      rw [Nat.zero_mul] at hz
      obtain ⟨h1, h2, h3⟩ := addr_at hz
      refine ⟨a.block, a.off, by rw [← h2], h1, fun j hj => ?_⟩
      obtain ⟨i, r, hr, rfl⟩ : ∃ i r, r < 2 ∧ j = i * 2 + r := ⟨j / 2, j % 2, Nat.mod_lt _ (by omega), by omega⟩
      have hi' : i < len := by omega
      obtain ⟨c0, c1⟩ := hf i hi'
      have hg : gt ((List.range len).map f) i = f i := gt_of (by rw [List.getElem?_map, List.getElem?_range hi']; rfl)
      obtain ⟨k0, k1⟩ := sc_get ((List.range len).map f) i (by simpa using hi')
      rw [hg] at k0 k1
      have hr2 : r = 0 ∨ r = 1 := by omega
      rcases hr2 with rfl | rfl
      · rw [← h3]; rw [Nat.add_zero, c0, k0]
      · rw [← h3, c1, k1]
end
end Go.Proofs.Ytainibnjpkbfpaa.Cv
