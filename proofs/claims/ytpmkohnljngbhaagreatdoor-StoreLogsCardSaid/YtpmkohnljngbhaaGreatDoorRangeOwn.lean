/- A range over a function whose iterator keeps a state of its own in cells: the iterator's contract is taken at the caller's invariant. -/
import Derived.Test.YtpmkohnljngbhaaGreatDoorKit
import Derived.RangeFuncNested
import Derived.RangeFuncBound
import Derived.RangeFuncCalls
import Derived.RangeFuncLeaves
import Derived.Shelf.Abstract
import Derived.Shelf.RegionOpen
import Derived.OwnWalkIn
import Derived.TacticsInMore
import Derived.LoopNIn
import Derived.LoopIn
namespace Go.Proofs.YtpmkohnljngbhaaGreatDoor
set_option linter.unusedVariables false
set_option linter.unusedSimpArgs false
set_option maxRecDepth 1000000
open Go.RowKit Go.Shelf
variable {F : Fence} {n : Nat} {P : Program}

/-- Objects that are no cells lie as they lay. -/
def Others (W W' : World) : Prop := ∀ (k : Nat) (o : Obj), W.heap[k]? = some o → o.isCells = false → W'.heap[k]? = some o
theorem Others.refl (W : World) : Others W W := fun _ _ h _ => h
theorem Others.trans {A B C : World} (h : Others A B) (k : Others B C) : Others A C := fun i o hi ho => k i o (h i o hi ho) ho
theorem Others.of_keeps {A B : World} (h : KeepsOthers A B) : Others A B := h.same
theorem Others.below {A B : World} (h : Below A.heap.size A B) : Others A B := fun k o hk _ => by
  have hlt := (Array.getElem?_eq_some_iff.1 hk).1
  exact (h.block k hlt).trans hk
theorem Others.alloc (W : World) (o : Obj) : Others W (W.alloc o) := .of_keeps (KeepsOthers.alloc W o)
theorem Others.setCell (W : World) (a : Addr) (v : Value) : Others W (W.setCell a v) := .of_keeps (KeepsOthers.setCell W a v)
theorem Others.drewN (W : World) (q : Nat) : Others W (W.drewN q) := fun _ _ h _ => h

/-- How a body may be left: it goes on (I), or it returns (Ix). -/
def rowPost {α : Type} (Kp : World → World → Prop) (I : List α → World → Prop) (Ix : World → Prop) (xs : List α) (W : World) : Exit → Act → World → Prop
  | .normal, _, W' => Others W W' ∧ Kp W W' ∧ I xs W'
  | .ret, _, W' => Others W W' ∧ Ix W'
  | _, _, _ => False

theorem putObj_cell {W : World} {l : Nat} {o' : Obj} {p : Addr} (h : p.block ≠ l) : (W.putObj l o').cell? p = W.cell? p := by
  unfold World.cell?; rw [World.putObj_heap_other h]
theorem putObj_frozen {W : World} {l : Nat} {o' : Obj} {p : Addr} (h : p.block ≠ l) : (W.putObj l o').frozen? p = W.frozen? p := by
  unfold World.frozen?; rw [World.putObj_heap_other h]
theorem cell_ne {W : World} {l : Nat} {o : Obj} {p : Addr} {v : Value} (hc : W.cell? p = some v) (hl : W.heap[l]? = some o) (ho : o.isCells = false) : p.block ≠ l := by
  intro e
  unfold World.cell? at hc
  rw [e, hl] at hc
  cases o <;> first | (simp at hc; done) | (simp [Obj.isCells] at ho)

theorem range_at {α : Type} {g : Operand} {ps : Array Tmp} {assign body : Code} {Q : Exit → Act → World → Prop} {a : Act} {w : World}
    (hro : F.round = none) (h1 : 1 ≤ n) {gf : Nat} {lb : Array Value} (hg : a.eval g = .func (.func gf) #[] lb) (hFg : F.fn gf) (eg : ∀ args w, (callFunc gf args).run P w = .ok (.enter gf args) w)
    {encs : α → Array Value} (hps : ∀ x, (encs x).size = ps.size) {S : List α → Prop} (Good : List α → α → Prop)
    (I : List α → World → Prop) (Ix : World → Prop) (Kp : World → World → Prop) (hKt : ∀ {A B C : World}, Kp A B → Kp B C → Kp A C) (hKb : ∀ (W : World) (l : Nat) (o' : Obj), w.heap.size ≤ l → Kp W (W.putObj l o'))
    (hI : ∀ pre W l o o', I pre W → w.heap.size ≤ l → W.heap[l]? = some o → o.isCells = false → o.isWalk = false → I pre (W.putObj l o')) (hIx : ∀ W l o o', Ix W → w.heap.size ≤ l → W.heap[l]? = some o → o.isCells = false → o.isWalk = false → Ix (W.putObj l o'))
    (h0 : ∀ o o' : Obj, I [] ((w.alloc o).alloc o')) (a₁ : α → Act)
    (hassign : ∀ (l : Nat) (x : α) (W : World) (K : Act → World → Prop), K (a₁ x) W →
      assign.wpIn (F.inRound l) (n - 1 - 1) P (Exit.then K (fun _ _ _ => False)) { tmps := (ps.zip (encs x)).foldl (fun t (p, v) => t.setIfInBounds p v) a.tmps, defers := [] } W)
    (hbody : ∀ (l : Nat) (pre : List α) (x : α) (W : World), w.heap.size + 2 ≤ W.heap.size → Good pre x → I pre W → body.wpIn (F.inRound l) (n - 1 - 1) P (rowPost Kp I Ix (pre ++ [x]) W) (a₁ x) W)
    (hseq : ∀ (l : Nat) (R D : Obj) (X : World → Prop) (W : World), l = w.heap.size + 1 → R.isCells = false → D.isCells = false → W.heap[l]? = some R → W.heap[w.heap.size]? = some D → Below w.heap.size w W → I [] W →
      (∀ pre x W1, Good pre x → I pre W1 → W1.heap[l]? = some R → W1.heap[w.heap.size]? = some D → YieldAt F (n - 1 - 1) P l (encs x) W1 fun e W' =>
        (e = .returned (.bool true) ∧ I (pre ++ [x]) W' ∧ W'.heap[l]? = some R ∧ W'.heap[w.heap.size]? = some D ∧ Kp W1 W') ∨ (e = .returned (.bool false) ∧ X W')) →
      CallsIn F (n - 1) P gf (#[.func (.yield l) #[] #[]] ++ lb) W fun e W' => (∃ v, e = .returned v) ∧ ((∃ xs, S xs ∧ I xs W' ∧ W'.heap[l]? = some R ∧ W'.heap[w.heap.size]? = some D) ∨ X W'))
    (hdone : ∀ (xs : List α) (W : World), S xs → I xs W → W.heap[w.heap.size]? = some (.deferred (some [])) → Q .normal { a with defers := { target := .collected w.heap.size, args := #[] } :: a.defers } W)
    (hstop : ∀ (W : World), Ix W → W.heap[w.heap.size]? = some (.deferred (some [])) → Code.ret.wpIn F n P Q { a with defers := { target := .collected w.heap.size, args := #[] } :: a.defers } W) :
    (Code.rangeFunc g ps assign body).wpIn F n P Q a w := by
  refine wpIn_rangeFunc fun fn hfn => ?_
  rw [hro]
  let lp : LoopState → Option Code → Loop := fun st pe => { state := st, pending := pe, fn, tmps := a.tmps, params := ps, assign, body, defers := w.heap.size }
  have hnew : ((w.alloc (.deferred (some []))).alloc (.loop (lp .ready none))).heap[w.heap.size + 1]? = some (.loop (lp .ready none)) := by
    have := World.alloc_heap_new (w.alloc (.deferred (some []))) (.loop (lp .ready none)); rwa [World.size_alloc] at this
  have hdef : ((w.alloc (.deferred (some []))).alloc (.loop (lp .ready none))).heap[w.heap.size]? = some (.deferred (some [])) :=
    (Below.heap_alloc _ _ _ (by simp)).trans (World.alloc_heap_new w _)
  have hstart := h0 (.deferred (some [])) (.loop (lp .ready none))
  have henter := run_enterLoop_outer (P := P) (w := w) fn a.tmps ps assign body
  obtain ⟨W0, hW0⟩ : ∃ W0, (w.alloc (.deferred (some []))).alloc (.loop (lp .ready none)) = W0 := ⟨_, rfl⟩
  rw [show (w.alloc (.deferred (some []))).alloc (.loop { state := .ready, pending := none, fn, tmps := a.tmps, params := ps, assign, body, defers := w.heap.size }) = W0 from hW0] at henter
  rw [hW0] at hnew hdef hstart
  refine ⟨w.heap.size + 1, [{ target := .collected w.heap.size, args := #[] }], W0, { target := .fn (.func gf) lb, args := #[.func (.yield (w.heap.size + 1)) #[] #[]] }, W0, gf, #[.func (.yield (w.heap.size + 1)) #[] #[]] ++ lb, W0, henter, ?_, ?_, ?_, fun _ => h1, ?_⟩
  · simp only [resolve, hg]; simp [go_sem]
  · intro f' hf'; simp [Target.leads] at hf'; subst hf'; exact hFg
  · simp [invoke, go_sem, eg]
  · refine (hseq (w.heap.size + 1) (.loop (lp .ready none)) (.deferred (some [])) (fun W => Ix W ∧ W.heap[w.heap.size + 1]? = some (.loop (lp .done (some .ret))) ∧ W.heap[w.heap.size]? = some (.deferred (some [])))
      W0 rfl rfl rfl hnew hdef (hW0 ▸ ((Below.refl _ w).alloc (Nat.le_refl _) _).alloc (by simp) _) hstart ?_).mono ?_
    · -- one round
      intro pre x W hgd hi hl hk
      have hlt : w.heap.size + 1 < W.heap.size := (Array.getElem?_eq_some_iff.1 hl).1
      refine ⟨fn, _, assign, body, run_yield (P := P) (args := encs x) hl (hps x), roundIn_of_wpIn hfn (hassign _ x W _ ⟨_, run_beginRound hl rfl, ?_⟩)⟩
      obtain ⟨W2, hW2⟩ : ∃ W2, W.putObj (w.heap.size + 1) (.loop (lp .busy none)) = W2 := ⟨_, rfl⟩
      have l2 : W2.heap[w.heap.size + 1]? = some (.loop (lp .busy none)) := hW2 ▸ World.putObj_heap_same hlt
      have k2 : W2.heap[w.heap.size]? = some (.deferred (some [])) := hW2 ▸ (World.putObj_heap_other (by omega)).trans hk
      have z2 : w.heap.size + 2 ≤ W2.heap.size := by rw [← hW2]; simp; omega
      have i2 : I pre W2 := hW2 ▸ hI pre W _ _ _ hi (by omega) hl rfl rfl
      have hb := hbody (w.heap.size + 1) pre x W2 z2 hgd i2
      rw [show W.putObj (w.heap.size + 1) (.loop { lp .ready none with state := .busy }) = W2 from hW2]
      refine wpIn_mono hb ?_
      intro e a3 W3 hp
      have turn : Others W2 W3 → ∀ (jump : Option Code) (st : LoopState), st = (if jump.isNone then LoopState.ready else LoopState.done) → ∃ W4, (Instr.endRound (w.heap.size + 1) jump).run P W3 = .ok (.bool jump.isNone) W4 ∧ W4 = W3.putObj (w.heap.size + 1) (.loop (lp st jump)) ∧
          W4.heap[w.heap.size + 1]? = some (.loop (lp st jump)) ∧ W4.heap[w.heap.size]? = some (.deferred (some [])) := fun ho jump st hst => by
        have l3 := ho _ _ l2 rfl
        have k3 := ho _ _ k2 rfl
        refine ⟨_, run_endRound (P := P) jump l3, by rw [hst], ?_, ?_⟩
        · rw [hst]; exact World.putObj_heap_same (Array.getElem?_eq_some_iff.1 l3).1
        · exact (World.putObj_heap_other (by omega)).trans k3
      cases e with
      | normal =>
        obtain ⟨W4, hr, e4, l4, k4⟩ := turn hp.1 none .ready rfl
        have k1 : Kp W W2 := hW2 ▸ hKb W _ _ (by omega)
        have k3 : Kp W3 W4 := e4 ▸ hKb W3 _ _ (by omega)
        exact ⟨_, W4, hr, .inl ⟨rfl, e4 ▸ hI _ _ _ _ _ hp.2.2 (by omega) (hp.1 _ _ l2 rfl) rfl rfl, l4, k4, hKt (hKt k1 hp.2.1) k3⟩⟩
      | ret =>
        obtain ⟨W4, hr, e4, l4, k4⟩ := turn hp.1 (some .ret) .done rfl
        exact ⟨_, W4, hr, .inr ⟨rfl, e4 ▸ hIx _ _ _ _ hp.2 (by omega) (hp.1 _ _ l2 rfl) rfl rfl, l4, k4⟩⟩
      | exit id => exact hp.elim
      | goto t => exact hp.elim
      | panic ch => exact hp.elim
      | outgrown => exact hp.elim
    · -- behind the iterator
      rintro e W2 ⟨⟨v, rfl⟩, (⟨xs, hS, hi, hl, hk⟩ | ⟨hx, hl, hk⟩)⟩
      · exact ⟨none, _, run_endLoop (P := P) hl (by simp [lp]), hdone xs _ hS (hI _ _ _ _ _ hi (by omega) hl rfl rfl) ((World.putObj_heap_other (by omega)).trans hk)⟩
      · exact ⟨some .ret, _, run_endLoop (P := P) hl (by simp [lp]), hstop _ (hIx _ _ _ _ hx (by omega) hl rfl rfl) ((World.putObj_heap_other (by omega)).trans hk)⟩

end Go.Proofs.YtpmkohnljngbhaaGreatDoor
