/- Rows of bytes that are written to. -/
import Derived.Test.YtfkeedeiafegiaaWalW23
import Derived.Test.YtfkeedeiafegiaaWalL6
namespace Go.Proofs.Ytfkeedeiafegiaa.Wl
set_option linter.unusedVariables false
set_option linter.unusedSimpArgs false
open Go.RowKit

/-- A row of bytes of the call's own, whatever they are. -/
def Ob (w : World) (base : Nat) (A : Option Addr) (n c : Nat) : Prop := ∃ d : List UInt8, w.ownsRow base 5 1 (.slice A n c) n (bv d)
section
variable {w w' : World} {base n c : Nat} {A : Option Addr}
theorem Ob.below (h : Ob w base A n c) (hb : Below w.heap.size w w') : Ob w' base A n c := let ⟨d, h⟩ := h; ⟨d, own_below h hb⟩
theorem Ob.set (h : Ob w base A n c) (g i : Nat) (x : UInt8) : Ob (w.setCell ⟨g, i, none⟩ (.int .u8 (x.toNat : Int))) base A n c := by
  obtain ⟨d, h⟩ := h
  by_cases hA : blk A = some g
  · have : A = some ⟨g, 0, none⟩ := by
      rcases h.2 with ⟨h1, _⟩ | ⟨g', cap, cur, h1, _⟩
      · injection h1 with h1; subst h1; cases hA
      · injection h1 with h1; subst h1
        have : g' = g := Option.some.inj hA
        rw [this]
    subst this
    exact ⟨_, own_store h i x⟩
  · exact ⟨d, own_set h _ _ hA⟩
theorem Ob.at_ (h : Ob w base A n c) {i : Nat} (hi : i < n) : ∃ g x, A = some ⟨g, 0, none⟩ ∧ base ≤ g ∧ g < w.heap.size ∧ w.cell? ⟨g, i, none⟩ = some (.int .u8 ((x : UInt8).toNat : Int)) ∧ w.frozen? ⟨g, i, none⟩ = false := by
  obtain ⟨d, h⟩ := h
  obtain ⟨g, rfl, _, _⟩ := own_pos h (by omega)
  have hl := h.1
  rw [bv_len] at hl
  have hz := own_blk_le (g := g) h rfl
  refine ⟨g, d[i]'(by omega), rfl, hz.1, hz.2, ?_, h.frozenAt i⟩
  rw [h.cellAt i (by omega), bv_get, List.getElem?_eq_getElem (by omega)]; rfl
theorem Ob.nc (h : Ob w base A n c) : n ≤ c ∧ c ≤ 9223372036854775807 := let ⟨_, h⟩ := h; ⟨(Rd.of_own h).nc, (Rd.of_own h).c63⟩
end
theorem row_set {w : World} {base n c : Nat} {A : Option Addr} {l : List RV} (h : w.ownsRow base 24 3 (.slice A n c) n (cells l)) {b' n' c' g : Nat} (h' : Ob w b' (some ⟨g, 0, none⟩) n' c') (i : Nat) (v : Value) :
    (w.setCell ⟨g, i, none⟩ v).ownsRow base 24 3 (.slice A n c) n (cells l) := by
  obtain ⟨d, h'⟩ := h'
  rcases own_ne h h' (by decide) with e | e
  · exact own_set h _ _ (by rw [e]; simp)
  · exact own_set h _ _ e
/-- Prefixes. -/
theorem aout_pre {b : List UInt8} {r : Rec} (h : aerr b r = 0) : eqB ((aout b r).take b.length) b = true := by
  rw [aout_yes h, List.take_left]; exact eqB_self b
end Go.Proofs.Ytfkeedeiafegiaa.Wl
