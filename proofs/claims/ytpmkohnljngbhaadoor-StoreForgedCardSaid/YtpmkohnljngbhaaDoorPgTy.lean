/- Blocks of cells of a type. -/
import Derived.Test.YtpmkohnljngbhaaDoorPgB1
namespace Go.Proofs.YtpmkohnljngbhaaDoor.Pg
set_option linter.unusedVariables false
set_option linter.unusedSimpArgs false
set_option maxRecDepth 1000000
open Go.RowKit Wl

/-- A block of cells of a type. -/
def Ty (W : World) (p T : Nat) : Prop := ∃ cs, W.heap[p]? = some (.cells cs T (0, 0))
section
variable {W W' : World} {p T : Nat} {X : Nat → Prop}
theorem Ty.lt (h : Ty W p T) : p < W.heap.size := by obtain ⟨cs, e⟩ := h; exact (Array.getElem?_eq_some_iff.1 e).1
theorem Ty.kp (h : Ty W p T) (k : Kp W W' X) (hX : ¬ X p) : Ty W' p T := by obtain ⟨cs, e⟩ := h; exact ⟨cs, (k.block p (Array.getElem?_eq_some_iff.1 e).1 hX).trans e⟩
theorem Ty.step (h : Ty W p T) (k : Below W.heap.size W W') : Ty W' p T := h.kp (Kp.of_below k fun _ => False) fun e => e
theorem Ty.set (h : Ty W p T) (b o : Nat) (v : Value) : Ty (W.setCell ⟨b, o, none⟩ v) p T := by
  obtain ⟨cs, e⟩ := h
  by_cases hp : b = p
  · subst hp
    refine ⟨cs.setIfInBounds o v, ?_⟩
    unfold World.setCell
    rw [Array.getElem?_modify]
    simp only [if_pos, e, Option.map_some, Option.isSome_none, Bool.false_eq_true, if_false]
  · exact ⟨cs, (Below.heap_setCell W ⟨b, o, none⟩ v p fun e => hp e.symm).trans e⟩
theorem Ty.new (w : World) (cs : Array Value) (T : TypeId) : Ty (w.alloc (.cells cs T)) w.heap.size T := ⟨cs, by rw [heap_alloc_new]⟩
end
end Go.Proofs.YtpmkohnljngbhaaDoor.Pg
