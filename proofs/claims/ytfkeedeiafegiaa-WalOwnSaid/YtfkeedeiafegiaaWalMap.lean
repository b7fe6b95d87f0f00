/- A map of the call's own, whose elements are kept as they are. -/
import Derived.Test.YtfkeedeiafegiaaProg
import Derived.Test.YtfkeedeiafegiaaWalMem2
import Derived.Maps.OwnSet
import Derived.Maps.OwnOps
import Derived.Maps.Views
namespace Go.Proofs.Ytfkeedeiafegiaa.Wl
set_option linter.unusedVariables false
set_option linter.unusedSimpArgs false
open Go.RowKit Go.Maps

def rawE (v : Value) : Option (DataW Value × List MemPlace) := some (.held v, [])
/-- Block b is a map of at most n entries that holds f. -/
def Mp (w : World) (b n : Nat) (f : Int → Value) : Prop :=
  ∃ D : DataW Value, w.ownsMap Try.prog 3 rawE b n D ∧ IsMap D ∧ ∀ t, (Lit.int .i64 t).wf = true → D.atKey (.int .i64 t) (.held (.slice none 0 0)) = .held (f t)
theorem lawK : Keyed Try.prog 3 := int_keyed Try.underlying3
theorem zeroE (w : World) : (zeroValue 33).run Try.prog w = .ok (.slice none 0 0) w := by kernel_rfl
def upd {α : Type} (f : Int → α) (t : Int) (v : α) : Int → α := fun x => if x = t then v else f x
theorem upd_same {α : Type} (f : Int → α) (t : Int) (v : α) : upd f t v t = v := by simp [upd]
theorem upd_other {α : Type} (f : Int → α) {t x : Int} (v : α) (h : x ≠ t) : upd f t v x = f x := by simp [upd, h]
section
variable {w w' : World} {b n : Nat} {f : Int → Value}
theorem Mp.made (w : World) : Mp (w.alloc (.map #[] 0)) w.heap.size 0 (fun _ => .slice none 0 0) :=
  ⟨.map [], World.ownsMap_made _ _ _ _, isMap_empty, fun t _ => by rfl⟩
theorem Mp.lt (h : Mp w b n f) : b < w.heap.size := let ⟨_, h, _⟩ := h; h.lt
theorem Mp.kept (h : Mp w b n f) {row : Option Nat} (hg : w.grownBy w' row) (hne : some b ≠ row) : Mp w' b n f := by
  obtain ⟨D, h1, h2, h3⟩ := h
  exact ⟨D, h1.kept hg hne, h2, h3⟩
theorem Mp.map (h : Mp w b n f) : ∃ es k, w.heap[b]? = some (.map es k) := by
  obtain ⟨D, ⟨es, k, h1, _⟩, _⟩ := h
  exact ⟨es, k, h1⟩
theorem Mp.look (h : Mp w b n f) {t : Int} (ht : (Lit.int .i64 t).wf = true) : (Instr.lookup 79 (.map (some b)) (.int .i64 t) false).run Try.prog w = .ok (f t) w := by
  obtain ⟨D, h1, h2, h3⟩ := h
  obtain ⟨v, ps, hrun, hv⟩ := h1.lookup lawK Try.underlying79 (zeroE w) (zd := .held (.slice none 0 0)) (zp := []) rfl (keyOf_int_mk Try.underlying3 ht)
  rw [h3 t ht] at hv
  simp only [rawE, Option.some.injEq, Prod.mk.injEq, DataW.held.injEq] at hv
  rw [hrun, hv.1]
theorem Mp.store (h : Mp w b n f) {t : Int} (ht : (Lit.int .i64 t).wf = true) (hn : n < 2000000000) (v : Value) :
    ∃ w', (Instr.mapUpdate 79 (.map (some b)) (.int .i64 t) v).run Try.prog w = .ok () w' ∧ Mp w' b (n + 1) (upd f t v) ∧ w.grownBy w' (some b) := by
  obtain ⟨D, h1, h2, h3⟩ := h
  obtain ⟨w', hrun, r1, r2⟩ := h1.update (val := v) (d := .held v) (ps := []) lawK Try.underlying79 (by unfold maxLen; omega) (keyOf_int_mk Try.underlying3 ht) rfl
  refine ⟨w', hrun, ⟨_, r1, h2.put _ _, fun x hx => ?_⟩, r2⟩
  by_cases e : x = t
  · subst e
    rw [atKey_put_same h2 (by trivial), upd_same]
  · rw [atKey_put_other (by intro h; injection h with _ h; exact e h), upd_other _ _ e]; exact h3 x hx
theorem Mp.del (h : Mp w b n f) {t : Int} (ht : (Lit.int .i64 t).wf = true) (ty : TypeId) :
    ∃ w', (Builtin.delete_ #[79, 3] ty #[.map (some b), .int .i64 t]).run Try.prog w = .ok (.tuple #[]) w' ∧ Mp w' b n (upd f t (.slice none 0 0)) ∧ w.mapTurned w' b := by
  obtain ⟨D, h1, h2, h3⟩ := h
  obtain ⟨w', hrun, r1, r2⟩ := h1.drop lawK Try.underlying79 (keyOf_int_mk Try.underlying3 ht) ty
  refine ⟨w', hrun, ⟨_, r1, h2.del _, fun x hx => ?_⟩, r2⟩
  by_cases e : x = t
  · subst e
    rw [atKey_del_same, upd_same]
  · rw [atKey_del_other (by intro h; injection h with _ h; exact e h), upd_other _ _ e]; exact h3 x hx
end
theorem wpList_del (w : World) {ops : Array Oper} {rest : List Oper} {o : Oper} {a : Act} {Q : Exit → Act → World → Prop} (hg : o.guard = none) (m x : Operand)
    (hop : o.op = Op.call { callee := Callee.builtin Builtin.delete, args := #[m, x], argTypes := #[79, 3] }) {b n : Nat} {f : Int → Value} {t : Int}
    (hm : a.eval m = .map (some b)) (hx : a.eval x = .int .i64 t) (h : Mp w b n f) (ht : (Lit.int .i64 t).wf = true)
    (hK : ∀ w', Mp w' b n (upd f t (.slice none 0 0)) → w.grownBy w' (some b) → wpList Try.prog ops Q rest (a.put o.dst (.tuple #[])) w') : wpList Try.prog ops Q (o :: rest) a w := by
  refine wpList_plain hg fun K' hK' => ?_
  obtain ⟨w', hrun, r1, r2⟩ := h.del ht o.type
  unfold Oper.wp
  simp [execOp, hop, resolve, invoke, builtin, hm, hx, hrun, Result.andThen]
  exact hK' _ _ (hK w' r1 r2.grown)
end Go.Proofs.Ytfkeedeiafegiaa.Wl
