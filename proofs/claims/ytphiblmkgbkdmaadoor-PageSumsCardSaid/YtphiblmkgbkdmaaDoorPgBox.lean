/- Boxes of cells that the call writes. -/
import Derived.Test.YtphiblmkgbkdmaaDoorPgMem
namespace Go.Proofs.YtphiblmkgbkdmaaDoor.Pg
set_option linter.unusedVariables false
set_option linter.unusedSimpArgs false
open Go.RowKit Wl

theorem rd_lit {q : Nat} (w : World) (hq : w.heap.size = q) (e size : Nat) (cs : Array Value) (n : Nat) (hm : n ≤ 9223372036854775807) (hs : cs.size = n * size) : Rd (w.alloc (.cells cs e)) size (some ⟨q, 0, none⟩) n n cs.toList := by
  subst hq; exact Rd.lit w e size cs n hm hs
/-- The walk stops here. -/
def Hold (p : Prop) : Prop := p
theorem hold {p : Prop} (h : Hold p) : p := h
/-- The block p has the cells l, which may be written. -/
structure Bx (W : World) (p : Nat) (l : List Value) : Prop where
  lt : p < W.heap.size
  at_ : ∀ j, j < l.length → W.cell? ⟨p, j, none⟩ = l[j]?
  fz : ∀ j, j < l.length → W.frozen? ⟨p, j, none⟩ = false
section
variable {W U : World} {p : Nat} {l : List Value} {X : Nat → Prop}
theorem Bx.kp (h : Bx W p l) (k : Kp W U X) (hX : ¬ X p) : Bx U p l :=
  ⟨Nat.lt_of_lt_of_le h.lt k.size, fun j hj => (k.cell h.lt hX).trans (h.at_ j hj), fun j hj => (World.frozen?_of_block (k.block p h.lt hX)).trans (h.fz j hj)⟩
theorem Bx.below {B : Nat} (h : Bx W p l) (hb : Below B W U) (hp : p < B) : Bx U p l :=
  ⟨Nat.lt_of_lt_of_le h.lt hb.size, fun j hj => (World.cell?_of_block (hb.block p hp)).trans (h.at_ j hj), fun j hj => (World.frozen?_of_block (hb.block p hp)).trans (h.fz j hj)⟩
theorem Bx.step (h : Bx W p l) (hb : Below W.heap.size W U) : Bx U p l := h.below hb h.lt
theorem Bx.other (h : Bx W p l) {q : Nat} (hq : q ≠ p) (o : Nat) (v : Value) : Bx (W.setCell ⟨q, o, none⟩ v) p l :=
  h.kp (X := fun i => i = q) (Kp.of_set W ⟨q, o, none⟩ v rfl) fun e => hq e.symm
theorem Bx.set (h : Bx W p l) {j : Nat} (hj : j < l.length) (v : Value) : Bx (W.setCell ⟨p, j, none⟩ v) p (l.set j v) := by
  refine ⟨by simpa using h.lt, fun i hi => ?_, fun i hi => ?_⟩
  · rw [List.length_set] at hi
    by_cases e : i = j
    · subst e
      rw [List.getElem?_set_self hj]
      have := h.at_ i hj
      rw [List.getElem?_eq_getElem hj] at this
      exact World.cell?_setCell_same _ _ _ this
    · rw [List.getElem?_set_ne (by omega)]
      exact (World.cell?_setCell_other _ _ _ _ (by simp [e])).trans (h.at_ i hi)
  · rw [List.length_set] at hi
    have := h.fz i hi
    simpa [go_sem] using this
theorem Bx.drewN (h : Bx W p l) (n : Nat) : Bx (W.drewN n) p l := ⟨h.lt, h.at_, h.fz⟩
theorem Kp.drewN (W : World) (n : Nat) (X : Nat → Prop) : Kp W (W.drewN n) X := ⟨rfl, rfl, rfl, Nat.le_refl _, fun _ _ _ => rfl⟩
theorem Bx.new (w : World) (cs : Array Value) (T : TypeId) : Bx (w.alloc (.cells cs T)) w.heap.size cs.toList := by
  refine ⟨by simp, fun j hj => ?_, fun j hj => ?_⟩
  · unfold World.cell?; rw [heap_alloc_new]; simp
  · unfold World.frozen?; rw [heap_alloc_new]; rfl
theorem Bx.put {q : Nat} (w : World) (hq : w.heap.size = q) (cs : Array Value) (T : TypeId) : Bx (w.alloc (.cells cs T)) q cs.toList := by
  subst hq; exact Bx.new w cs T
end
end Go.Proofs.YtphiblmkgbkdmaaDoor.Pg
