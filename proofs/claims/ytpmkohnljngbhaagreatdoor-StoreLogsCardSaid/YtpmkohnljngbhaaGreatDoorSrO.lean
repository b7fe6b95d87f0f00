/- The arguments, opened to their cells: changes, transactions. -/
import Derived.Test.YtpmkohnljngbhaaGreatDoorSrMem
import Derived.Test.YtpmkohnljngbhaaGreatDoorWalC
import Derived.ChangeArms
namespace Go.Proofs.YtpmkohnljngbhaaGreatDoor.Sr
set_option linter.unusedVariables false
set_option linter.unusedSimpArgs false
set_option maxRecDepth 1000000
open Go.ChangeShapes Go.WideShapes Go.Deep Go.RowKit Wl
section
variable {H : Type} {enc : TypeId × Value → H} {W : World} {base : Nat} {spare : Nat → Bool} {held : Bool}
theorem open_chs {fuel : Nat} {c0 : Value} {y : DataW H × List MemPlace} (h : DataW.trod enc Tryz.prog W base spare held fuel 42 [c0] = some y) :
    ∃ (A : Option Addr) (n c : Nat) (l : List CV), c0 = .slice A n c ∧ n = l.length ∧ Cr W A n c l := by
  have three : Tryz.prog.cellsOf 52 = 3 := by kernel_rfl
  have one4 : Tryz.prog.cellsOf 4 = 1 := by kernel_rfl
  have one22 : Tryz.prog.cellsOf 30 = 1 := by kernel_rfl
  rcases open_slice Tryz.underlying42 h with ⟨hc, _⟩ | ⟨a, len, cap, m, fu, D, Pl, hc, _, hlc, hcm, hm, _, hi⟩
  · obtain rfl : c0 = .slice none 0 0 := by simpa using hc
    exact ⟨none, 0, 0, [], rfl, rfl, Cr.nil_ _⟩
  · obtain rfl : c0 = .slice (some a) len cap := by simpa using hc
    have hlm : len ≤ m := by rw [hm]; split <;> omega
    have hel : ∀ i, i < len → ∃ q : CV, (W.cell? (a.add (i * 3)) = some (.slice q.A q.k.length q.c) ∧ W.cell? (a.add (i * 3 + 1)) = some (.slice q.B q.v.length q.d) ∧ W.cell? (a.add (i * 3 + 2)) = some (.bool q.del)) ∧ Dt W q := by
      intro i him
      obtain ⟨cs', hcs, ht⟩ := hi i (by omega)
      rw [three] at hcs
      obtain ⟨_, hcl, hat⟩ := World.cells?_some hcs
      match cs', hcl with
      | [x, y, z], _ =>
        obtain ⟨z0, z1, z2, n', _, _, g0, g1, g2⟩ := trod_struct3 Tryz.underlying52 ht
        have g0' : DataW.trod enc Tryz.prog W base spare held n' 30 [x] = some z0 := by simpa [one22] using g0
        have g1' : DataW.trod enc Tryz.prog W base spare held n' 30 [y] = some z1 := by simpa [one22] using g1
        have g2' : DataW.trod enc Tryz.prog W base spare held n' 4 [z] = some z2 := by simpa [one4, one22] using g2
        obtain ⟨A1, n1, c1, d1, e1, hr1⟩ := open_bytes g0'
        obtain ⟨A2, n2, c2, d2, e2, hr2⟩ := open_bytes g1'
        obtain ⟨b, e3, _⟩ := DataW.trod_bool Tryz.underlying4 g2'
        obtain rfl : z = .bool b := by simpa using e3
        subst e1 e2
        have hl1 : n1 = d1.length := by have := hr1.len; rw [bv_len] at this; omega
        have hl2 : n2 = d2.length := by have := hr2.len; rw [bv_len] at this; omega
        subst hl1 hl2
        have h0 := hat 0 (by omega)
        have h1 := hat 1 (by omega)
        have h2 := hat 2 (by omega)
        rw [add_add] at h0 h1 h2
        exact ⟨⟨A1, c1, d1, A2, c2, d2, b⟩, ⟨h0, h1, h2⟩, hr1, hr2⟩
    obtain ⟨f, hf⟩ := choose_lt hel
    have hmx : maxLen = 9223372036854775807 := by decide
    refine ⟨some a, len, cap, (List.range len).map f, rfl, by simp, ⟨⟨?_, hlc, fun e => (by cases e), by omega, fun h0 => ?_⟩, fun x hx => ?_⟩⟩
    · rw [cvs_len]; simp
    · have hz := (hf 0 h0).1.1
      rw [Nat.zero_mul] at hz
      obtain ⟨h1, h2, h3⟩ := addr_at hz
      refine ⟨a.block, a.off, by rw [← h2], h1, fun j hj => ?_⟩
      obtain ⟨i, r, hr, rfl⟩ : ∃ i r, r < 3 ∧ j = i * 3 + r := ⟨j / 3, j % 3, Nat.mod_lt _ (by omega), by omega⟩
      have hi' : i < len := by omega
      obtain ⟨⟨c0, c1, c2⟩, _⟩ := hf i hi'
      obtain ⟨k0, k1, k2⟩ := cvs_get ((List.range len).map f) i (f i) (by rw [List.getElem?_map, List.getElem?_range hi']; rfl)
      have hr3 : r = 0 ∨ r = 1 ∨ r = 2 := by omega
      rcases hr3 with rfl | rfl | rfl
      · rw [← h3]; rw [Nat.add_zero, c0, k0]
      · rw [← h3, c1, k1]
      · rw [← h3, c2, k2]
    · obtain ⟨i, hi', rfl⟩ := List.mem_map.1 hx
      exact (hf i (List.mem_range.1 hi')).2
instance : Inhabited XV := ⟨⟨none, 0, []⟩⟩
theorem open_txs {fuel : Nat} {c0 : Value} {y : DataW H × List MemPlace} (h : DataW.trod enc Tryz.prog W base spare held fuel 22 [c0] = some y) :
    ∃ (A : Option Addr) (n c : Nat) (L : List XV), c0 = .slice A n c ∧ Xr W A n c L := by
  have one36 : Tryz.prog.cellsOf 42 = 1 := by kernel_rfl
  rcases open_slice Tryz.underlying22 h with ⟨hc, _⟩ | ⟨a, len, cap, m, fu, D, Pl, hc, _, hlc, hcm, hm, _, hi⟩
  · obtain rfl : c0 = .slice none 0 0 := by simpa using hc
    exact ⟨none, 0, 0, [], rfl, Xr.nil_ _⟩
  · obtain rfl : c0 = .slice (some a) len cap := by simpa using hc
    have hlm : len ≤ m := by rw [hm]; split <;> omega
    have hel : ∀ i, i < len → ∃ q : XV, W.cell? (a.add i) = some q.v ∧ Cr W q.A q.l.length q.c q.l := by
      intro i him
      obtain ⟨cs', hcs, ht⟩ := hi i (by omega)
      rw [one36] at hcs
      obtain ⟨_, hcl, hat⟩ := World.cells?_some hcs
      match cs', hcl with
      | [x], _ =>
        obtain ⟨A', n1, c1, l1, e2, hl, hr⟩ := open_chs ht
        subst e2 hl
        have h0 := hat 0 (by omega)
        rw [add_add, Nat.mul_one, Nat.add_zero] at h0
        exact ⟨⟨A', c1, l1⟩, h0, hr⟩
    obtain ⟨f, hf⟩ := choose_lt hel
    have hmx : maxLen = 9223372036854775807 := by decide
    refine ⟨some a, len, cap, (List.range len).map f, rfl, ⟨⟨?_, hlc, fun e => (by cases e), by omega, fun h0 => ?_⟩, fun x hx => ?_⟩⟩
    · rw [xvs_len]; simp
    · obtain ⟨h1, h2, h3⟩ := addr_at (hf 0 h0).1
      refine ⟨a.block, a.off, by rw [← h2], h1, fun j hj => ?_⟩
      rw [← h3, (hf j (by omega)).1]
      unfold xvs
      rw [List.getElem?_map, List.getElem?_map, List.getElem?_range (by omega)]; rfl
    · obtain ⟨i, hi', rfl⟩ := List.mem_map.1 hx
      exact (hf i (List.mem_range.1 hi')).2
set_option maxRecDepth 1000000 in
theorem open_chs' {r : Reach} {b0 : Nat} {v : Value} {d : DataW H} {p : List MemPlace} (hv : Value.okWide Tryz.prog W r b0 42 v) (h : DataW.Trod enc Tryz.prog W base spare held 42 v d p) :
    ∃ (A : Option Addr) (n c : Nat) (l : List CV), v = .slice A n c ∧ n = l.length ∧ Cr W A n c l := by
  obtain ⟨a, len, cap, rfl⟩ := okWide_slice Tryz.underlying42 hv
  obtain ⟨fuel, hf⟩ := h
  exact open_chs (c0 := .slice a len cap) hf
set_option maxRecDepth 1000000 in
theorem open_txs' {r : Reach} {b0 : Nat} {v : Value} {d : DataW H} {p : List MemPlace} (hv : Value.okWide Tryz.prog W r b0 22 v) (h : DataW.Trod enc Tryz.prog W base spare held 22 v d p) :
    ∃ (A : Option Addr) (n c : Nat) (L : List XV), v = .slice A n c ∧ Xr W A n c L := by
  obtain ⟨a, len, cap, rfl⟩ := okWide_slice Tryz.underlying22 hv
  obtain ⟨fuel, hf⟩ := h
  exact open_txs (c0 := .slice a len cap) hf
end
end Go.Proofs.YtpmkohnljngbhaaGreatDoor.Sr
