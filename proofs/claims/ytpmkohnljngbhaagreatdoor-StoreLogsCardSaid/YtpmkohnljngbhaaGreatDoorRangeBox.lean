/- A range over a function whose loop variable lies in a block of its own in each round. -/
import Derived.Test.YtpmkohnljngbhaaGreatDoorRangeOwn
namespace Go.Proofs.YtpmkohnljngbhaaGreatDoor
set_option linter.unusedVariables false
set_option linter.unusedSimpArgs false
set_option maxRecDepth 1000000
open Go.RowKit Go.Shelf
variable {F : Fence} {n : Nat} {P : Program}

theorem range_at2 {α : Type} {g : Operand} {ps : Array Tmp} {assign body : Code} {Q : Exit → Act → World → Prop} {a : Act} {w : World}
    (hro : F.round = none) (h1 : 1 ≤ n) {gf : Nat} {lb : Array Value} (hg : a.eval g = .func (.func gf) #[] lb) (hFg : F.fn gf) (eg : ∀ args w, (callFunc gf args).run P w = .ok (.enter gf args) w)
    {encs : α → Array Value} (hps : ∀ x, (encs x).size = ps.size) {S : List α → Prop} (Good : List α → α → Prop)
    (I : List α → World → Prop) (Ix : World → Prop) (Kp : World → World → Prop) (hKt : ∀ {A B C : World}, Kp A B → Kp B C → Kp A C) (hKb : ∀ (W : World) (l : Nat) (o' : Obj), w.heap.size ≤ l → Kp W (W.putObj l o'))
    (hI : ∀ pre W l o o', I pre W → w.heap.size ≤ l → W.heap[l]? = some o → o.isCells = false → o.isWalk = false → I pre (W.putObj l o')) (hIx : ∀ W l o o', Ix W → w.heap.size ≤ l → W.heap[l]? = some o → o.isCells = false → o.isWalk = false → Ix (W.putObj l o'))
    (h0 : ∀ o o' : Obj, I [] ((w.alloc o).alloc o')) (J : List α → α → Act → World → Prop) (hJ : ∀ pre x a' W l o o', J pre x a' W → w.heap.size ≤ l → W.heap[l]? = some o → o.isCells = false → o.isWalk = false → J pre x a' (W.putObj l o'))
    (hassign : ∀ (l : Nat) (pre : List α) (x : α) (W : World) (K : Act → World → Prop), w.heap.size + 2 ≤ W.heap.size → Good pre x → I pre W → (∀ a' W', J pre x a' W' → Others W W' → Kp W W' → W.heap.size ≤ W'.heap.size → K a' W') →
      assign.wpIn (F.inRound l) (n - 1 - 1) P (Exit.then K (fun _ _ _ => False)) { tmps := (ps.zip (encs x)).foldl (fun t (p, v) => t.setIfInBounds p v) a.tmps, defers := [] } W)
    (hbody : ∀ (l : Nat) (pre : List α) (x : α) (a' : Act) (W : World), w.heap.size + 2 ≤ W.heap.size → Good pre x → J pre x a' W → body.wpIn (F.inRound l) (n - 1 - 1) P (rowPost Kp I Ix (pre ++ [x]) W) a' W)
    (hseq : ∀ (l : Nat) (R D : Obj) (X : World → Prop) (W : World), l = w.heap.size + 1 → R.isCells = false → D.isCells = false → W.heap[l]? = some R → W.heap[w.heap.size]? = some D → Below w.heap.size w W → I [] W →
      (∀ pre x W1, Good pre x → I pre W1 → W1.heap[l]? = some R → W1.heap[w.heap.size]? = some D → YieldAt F (n - 1 - 1) P l (encs x) W1 fun e W' =>
        (e = .returned (.bool true) ∧ I (pre ++ [x]) W' ∧ W'.heap[l]? = some R ∧ W'.heap[w.heap.size]? = some D ∧ Kp W1 W') ∨ (e = .returned (.bool false) ∧ X W')) →
      CallsIn F (n - 1) P gf (#[.func (.yield l) #[] #[]] ++ lb) W fun e W' => (∃ v, e = .returned v) ∧ ((∃ xs, S xs ∧ I xs W' ∧ W'.heap[l]? = some R ∧ W'.heap[w.heap.size]? = some D) ∨ X W'))
    (hdone : ∀ (xs : List α) (W : World), S xs → I xs W → W.heap[w.heap.size]? = some (.deferred (some [])) → Q .normal { a with defers := { target := .collected w.heap.size, args := #[] } :: a.defers } W)
    (hstop : ∀ (W : World), Ix W → W.heap[w.heap.size]? = some (.deferred (some [])) → Code.ret.wpIn F n P Q { a with defers := { target := .collected w.heap.size, args := #[] } :: a.defers } W) :
    (Code.rangeFunc g ps assign body).wpIn F n P Q a w := by
  refine wpIn_rangeFunc fun fn hfn => ?_
  rw [hro]
  let lp : LoopState → Option Code → Loop := fun st pe => { state := st, pending := pe, fn, tmps := a.tmps, params := ps, assign, body, defers := w.heap.size }
  have hnew : ((w.alloc (.deferred (some []))).alloc (.loop (lp .ready none))).heap[w.heap.size + 1]? = some (.loop (lp .ready none)) := by
    have := World.alloc_heap_new (w.alloc (.deferred (some []))) (.loop (lp .ready none)); rwa [World.size_alloc] at this
  have hdef : ((w.alloc (.deferred (some []))).alloc (.loop (lp .ready none))).heap[w.heap.size]? = some (.deferred (some [])) :=
    (Below.heap_alloc _ _ _ (by simp)).trans (World.alloc_heap_new w _)
  have hstart := h0 (.deferred (some [])) (.loop (lp .ready none))
  have henter := run_enterLoop_outer (P := P) (w := w) fn a.tmps ps assign body
  obtain ⟨W0, hW0⟩ : ∃ W0, (w.alloc (.deferred (some []))).alloc (.loop (lp .ready none)) = W0 := ⟨_, rfl⟩
  rw [show (w.alloc (.deferred (some []))).alloc (.loop { state := .ready, pending := none, fn, tmps := a.tmps, params := ps, assign, body, defers := w.heap.size }) = W0 from hW0] at henter
  rw [hW0] at hnew hdef hstart
  refine ⟨w.heap.size + 1, [{ target := .collected w.heap.size, args := #[] }], W0, { target := .fn (.func gf) lb, args := #[.func (.yield (w.heap.size + 1)) #[] #[]] }, W0, gf, #[.func (.yield (w.heap.size + 1)) #[] #[]] ++ lb, W0, henter, ?_, ?_, ?_, fun _ => h1, ?_⟩
  · simp only [resolve, hg]; simp [go_sem]
  · intro f' hf'; simp [Target.leads] at hf'; subst hf'; exact hFg
  · simp [invoke, go_sem, eg]
  · refine (hseq (w.heap.size + 1) (.loop (lp .ready none)) (.deferred (some [])) (fun W => Ix W ∧ W.heap[w.heap.size + 1]? = some (.loop (lp .done (some .ret))) ∧ W.heap[w.heap.size]? = some (.deferred (some [])))
      W0 rfl rfl rfl hnew hdef (hW0 ▸ ((Below.refl _ w).alloc (Nat.le_refl _) _).alloc (by simp) _) hstart ?_).mono ?_
    · -- one round
      intro pre x W hgd hi hl hk
      have hlt : w.heap.size + 1 < W.heap.size := (Array.getElem?_eq_some_iff.1 hl).1
      refine ⟨fn, _, assign, body, run_yield (P := P) (args := encs x) hl (hps x), roundIn_of_wpIn hfn (hassign _ pre x W _ (by omega) hgd hi ?_)⟩
      intro a' Wa hja hoa hka hza
      replace hl := hoa _ _ hl rfl
      replace hk := hoa _ _ hk rfl
      replace hlt : w.heap.size + 1 < Wa.heap.size := by omega
      refine ⟨_, run_beginRound hl rfl, ?_⟩
      obtain ⟨W2, hW2⟩ : ∃ W2, Wa.putObj (w.heap.size + 1) (.loop (lp .busy none)) = W2 := ⟨_, rfl⟩
      have l2 : W2.heap[w.heap.size + 1]? = some (.loop (lp .busy none)) := hW2 ▸ World.putObj_heap_same hlt
      have k2 : W2.heap[w.heap.size]? = some (.deferred (some [])) := hW2 ▸ (World.putObj_heap_other (by omega)).trans hk
      have z2 : w.heap.size + 2 ≤ W2.heap.size := by rw [← hW2]; simp; omega
      have i2 : J pre x a' W2 := hW2 ▸ hJ pre x a' Wa _ _ _ hja (by omega) hl rfl rfl
      have hb := hbody (w.heap.size + 1) pre x a' W2 z2 hgd i2
      rw [show Wa.putObj (w.heap.size + 1) (.loop { lp .ready none with state := .busy }) = W2 from hW2]
      refine wpIn_mono hb ?_
      intro e a3 W3 hp
      have turn : Others W2 W3 → ∀ (jump : Option Code) (st : LoopState), st = (if jump.isNone then LoopState.ready else LoopState.done) → ∃ W4, (Instr.endRound (w.heap.size + 1) jump).run P W3 = .ok (.bool jump.isNone) W4 ∧ W4 = W3.putObj (w.heap.size + 1) (.loop (lp st jump)) ∧
          W4.heap[w.heap.size + 1]? = some (.loop (lp st jump)) ∧ W4.heap[w.heap.size]? = some (.deferred (some [])) := fun ho jump st hst => by
        have l3 := ho _ _ l2 rfl
        have k3 := ho _ _ k2 rfl
        refine ⟨_, run_endRound (P := P) jump l3, by rw [hst], ?_, ?_⟩
        · rw [hst]; exact World.putObj_heap_same (Array.getElem?_eq_some_iff.1 l3).1
        · exact (World.putObj_heap_other (by omega)).trans k3
      cases e with
      | normal =>
        obtain ⟨W4, hr, e4, l4, k4⟩ := turn hp.1 none .ready rfl
        have k1 : Kp W W2 := hKt hka (hW2 ▸ hKb Wa _ _ (by omega))
        have k3 : Kp W3 W4 := e4 ▸ hKb W3 _ _ (by omega)
        exact ⟨_, W4, hr, .inl ⟨rfl, e4 ▸ hI _ _ _ _ _ hp.2.2 (by omega) (hp.1 _ _ l2 rfl) rfl rfl, l4, k4, hKt (hKt k1 hp.2.1) k3⟩⟩
      | ret =>
        obtain ⟨W4, hr, e4, l4, k4⟩ := turn hp.1 (some .ret) .done rfl
        exact ⟨_, W4, hr, .inr ⟨rfl, e4 ▸ hIx _ _ _ _ hp.2 (by omega) (hp.1 _ _ l2 rfl) rfl rfl, l4, k4⟩⟩
      | exit id => exact hp.elim
      | goto t => exact hp.elim
      | panic ch => exact hp.elim
      | outgrown => exact hp.elim
    · -- behind the iterator
      rintro e W2 ⟨⟨v, rfl⟩, (⟨xs, hS, hi, hl, hk⟩ | ⟨hx, hl, hk⟩)⟩
      · exact ⟨none, _, run_endLoop (P := P) hl (by simp [lp]), hdone xs _ hS (hI _ _ _ _ _ hi (by omega) hl rfl rfl) ((World.putObj_heap_other (by omega)).trans hk)⟩
      · exact ⟨some .ret, _, run_endLoop (P := P) hl (by simp [lp]), hstop _ (hIx _ _ _ _ hx (by omega) hl rfl rfl) ((World.putObj_heap_other (by omega)).trans hk)⟩

end Go.Proofs.YtpmkohnljngbhaaGreatDoor
