/- Small lemmas that every walk of this seat uses: how an ending is spelled, and regions whose callees make memory. -/
import Derived.WalkKit
import Derived.WalkSpells
import Derived.WalkLawsBesides
import Derived.Lib.Hide
import Derived.BigQuiet
import Derived.StillTail
namespace Go.Proofs.YtpmkohnljngbhaaGreatDoor
set_option linter.unusedVariables false
set_option linter.unusedSimpArgs false
set_option maxRecDepth 1000000
open Go.RowKit

theorem ret_bool {a b : Bool} (h : a = b) : Ending.returned (.bool a) = .returned (.bool b) := by rw [h]
theorem ret_int {k : IntKind} {a b : Int} (h : a = b) : Ending.returned (.int k a) = .returned (.int k b) := by rw [h]
theorem ret_int2 {k j : IntKind} {a b c d : Int} (h : a = b) (g : c = d) : Ending.returned (.tuple #[.int k a, .int j c]) = .returned (.tuple #[.int k b, .int j d]) := by rw [h, g]
theorem ret_int3 {k j l : IntKind} {a b c d e f : Int} (h : a = b) (g : c = d) (i : e = f) : Ending.returned (.tuple #[.int k a, .int j c, .int l e]) = .returned (.tuple #[.int k b, .int j d, .int l f]) := by rw [h, g, i]
theorem ret_val {a b : Value} (h : a = b) : Ending.returned a = .returned b := by rw [h]
/-- A callee that makes memory of its own, met in a world that lies above w. -/
theorem calm {P : Program} {f : FuncId} {args : Array Value} {B : Nat} {w0 w : World} {v : Value} (h : Calls P f args w fun e w' => e = .returned v ∧ Below w.heap.size w w')
    (hC : Below B w0 w) (hB : B ≤ w0.heap.size) : Calls P f args w fun e w'' => e = .returned v ∧ Below B w0 w'' :=
  h.mono fun _ _ ⟨he, hb⟩ => ⟨he, hC.trans (hb.mono (Nat.le_trans hB hC.size))⟩
theorem calm_same {P : Program} {f : FuncId} {args : Array Value} {B : Nat} {w0 w : World} {v : Value} (h : Calls P f args w fun e w' => e = .returned v ∧ w = w')
    (hC : Below B w0 w) : Calls P f args w fun e w'' => e = .returned v ∧ Below B w0 w'' :=
  h.mono fun _ _ ⟨he, hb⟩ => ⟨he, hb ▸ hC⟩
theorem bdrewN {B n : Nat} {a w : World} (h : Below B a w) : Below B a (w.drewN n) := ⟨h.os, h.tape, h.output, h.size, h.block⟩
/-- The worlds in which all of w0's own memory reads as in w0. -/
def Abv (w0 : World) : Type := { w' : World // Below w0.heap.size w0 w' }
instance (w0 : World) : Nonempty (Abv w0) := ⟨⟨w0, Below.refl _ _⟩⟩
def Abv.w {w0 : World} (s : Abv w0) : World := s.1
theorem Abv.bel {w0 : World} (s : Abv w0) : Below w0.heap.size w0 s.w := s.2
theorem Abv.cells (w0 : World) : ∀ (s : Abv w0) (b o : Nat), b < w0.heap.size → s.w.cell? ⟨b, o, none⟩ = w0.cell? ⟨b, o, none⟩ := fun s b o h => s.bel.cell (p := ⟨b, o, none⟩) h
/-- A region that draws its order, whose operations only read and whose callees make memory of their own at most: one walk, in the order of the text. -/
theorem wp_region_abv {P : Program} {id : Nat} {Q : Exit → Act → World → Prop} {a : Act} {w : World} {l : List Oper} (hm : P.follows .mixedOrders = true) (hB : Region.lexB .any l.toArray = true)
    (h : wpQuiet P l.toArray (fun w' => ∃ s : Abv w, w' = s.w) (fun a' => ∀ w', Below w.heap.size w w' → Q .normal a' w') l a) : (Code.region id l.toArray true).wp P Q a w := by
  refine wp_region_quiet (C := fun w' => ∃ s : Abv w, w' = s.w) hm hB ⟨⟨_, (Below.refl _ w).drew⟩, rfl⟩ ?_
  have e : (fun a' => ∀ w', (∃ s : Abv w, w' = s.w) → Q .normal a' w') = (fun a' => ∀ w', Below w.heap.size w w' → Q .normal a' w') := by
    funext a'; exact propext ⟨fun h w' hb => h w' ⟨⟨w', hb⟩, rfl⟩, fun h w' ⟨s, hs⟩ => hs ▸ h _ s.bel⟩
  rw [e]; simpa using h
theorem abv_call {P : Program} {f : FuncId} {args : Array Value} {w0 : World} {s : Abv w0} {v : Value} (h : Calls P f args s.w fun e w' => e = .returned v ∧ Below s.w.heap.size s.w w') :
    Calls P f args s.w fun e w'' => e = .returned v ∧ ∃ s' : Abv w0, w'' = s'.w :=
  h.mono fun _ _ ⟨he, hb⟩ => ⟨he, ⟨_, s.bel.trans (hb.mono s.bel.size)⟩, rfl⟩
theorem abv_drew {P : Program} {f : FuncId} {args : Array Value} {w0 : World} {s : Abv w0} {v : Value} (h : Calls P f args s.w fun e w' => e = .returned v ∧ ∃ n, w' = s.w.drewN n) :
    Calls P f args s.w fun e w'' => e = .returned v ∧ ∃ s' : Abv w0, w'' = s'.w :=
  h.mono fun _ _ ⟨he, n, hb⟩ => ⟨he, ⟨_, hb ▸ bdrewN s.bel⟩, rfl⟩
theorem abv_same {P : Program} {f : FuncId} {args : Array Value} {w0 : World} {s : Abv w0} {v : Value} (h : Calls P f args s.w fun e w' => e = .returned v ∧ s.w = w') :
    Calls P f args s.w fun e w'' => e = .returned v ∧ ∃ s' : Abv w0, w'' = s'.w :=
  h.mono fun _ _ ⟨he, hb⟩ => ⟨he, s, hb.symm⟩
section
variable {P : Program} {ops : Array Oper} {md : Region.Mode} {C : World → Prop}
/-- The head of a region, in whatever order, over a class of worlds; what the head leaves is L. -/
def headQ (P : Program) (md : Region.Mode) (ops : Array Oper) (C : World → Prop) (n : Nat) (L : Array Bool → Act → Prop) : Nat → Array Bool → Act → Prop
  | 0, listed, a => L listed a
  | f + 1, listed, a => Region.ready md ops listed ≠ [] ∧ ∀ i ∈ Region.ready md ops listed, i < n ∧ qOp P ops C i (headQ P md ops C n L f (listed.setIfInBounds i true)) a
theorem any_of_headQ {n g : Nat} {L : Array Bool → Act → Prop} {Q' : Exit → Act → World → Prop} (hL : ∀ listed a w, C w → L listed a → wpAny P md ops Q' g listed a w) :
    ∀ (f : Nat) (listed : Array Bool) (a : Act) (w : World), C w → headQ P md ops C n L f listed a → wpAny P md ops Q' (f + g) listed a w
  | 0, listed, a, w, hw, h => by rw [Nat.zero_add]; exact hL _ _ _ hw h
  | f + 1, listed, a, w, hw, h => by
    rw [show f + 1 + g = (f + g) + 1 by omega]
    exact ⟨fun h0 => absurd h0 h.1, fun i hi => wpOp_of_qOp hw (fun a' w' hw' h' => any_of_headQ hL f _ a' w' hw' h') (h.2 i hi).2⟩
theorem headQ_first {n i : Nat} {oi : Oper} {v : Value} {L : Array Bool → Act → Prop} (hi : ops[i]? = some oi) (hsel : ∀ (j : Nat) (o : Oper) cs b, ops[j]? = some o → o.op ≠ .select cs b)
    (hs : Region.sinkB md ops n = true) (hc : Region.chainB md ops n = true) (hn : n < ops.size) (hin : i < n) (hdone : ∀ listed a, L listed a → ∀ j ∈ Region.ready md ops listed, n ≤ j) :
    ∀ (f : Nat) (listed : Array Bool) (a : Act), HeadInv md ops n listed →
      (∀ j oj, ops[j]? = some oj → j ≠ i → listed.getD j true = false → (∀ e ∈ oj.after, Region.binds md e = true → e.on ≠ i) → oi.apart ops oj = true) →
      i ∈ Region.ready md ops listed → YieldsIn P ops C oi v a → headQ P md ops C n L f (listed.setIfInBounds i true) (a.put oi.dst v) → headQ P md ops C n L (f + 1) listed a := by
  intro f
  induction f with
  | zero =>
    intro listed a inv _ hr hy H
    have hun := (mem_ready.1 hr).1
    refine ⟨fun h => (by rw [h] at hr; cases hr), fun j hj => ?_⟩
    have hjn : j < n := (Nat.lt_or_ge j n).elim id fun h => absurd hj (tail_waits hs hc hn inv _ i rfl hin hun j h)
    refine ⟨hjn, ?_⟩
    by_cases hji : j = i
    · subst hji; exact hy.qOp hi H
    · have := hdone _ _ H j (ready_mono hj hji)
      omega
  | succ f ih =>
    intro listed a inv hfree hr hy H
    have hun := (mem_ready.1 hr).1
    refine ⟨fun h => (by rw [h] at hr; cases hr), fun j hj => ?_⟩
    have hjn : j < n := (Nat.lt_or_ge j n).elim id fun h => absurd hj (tail_waits hs hc hn inv _ i rfl hin hun j h)
    refine ⟨hjn, ?_⟩
    by_cases hji : j = i
    · subst hji; exact hy.qOp hi H
    · have h1 := (H.2 j (ready_mono hj hji)).2
      obtain ⟨hjun, oj, hoj, hall⟩ := mem_ready.1 hj
      have hnot : ∀ e ∈ oj.after, Region.binds md e = true → e.on ≠ i := fun e he hb heq => by
        have h1 := hall e he hb
        rw [heq, getD_both hun] at h1
        cases h1
      have h2 := qOp_put hoj (hfree j oj hoj hji hjun hnot) (fun cs b => hsel i oi cs b hi) (fun cs b => hsel j oj cs b hoj) hy h1
      have hfree' : ∀ k ok, ops[k]? = some ok → k ≠ i → (listed.setIfInBounds j true).getD k true = false →
          (∀ e ∈ ok.after, Region.binds md e = true → e.on ≠ i) → oi.apart ops ok = true := fun k ok hk hki hun hno => by
        refine hfree k ok hk hki ?_ hno
        by_cases hjk : j = k
        · subst hjk; exact hjun
        · rw [getD_set_ne true hjk] at hun; exact hun
      refine qOp_mono (fun a' h3 => ih (listed.setIfInBounds j true) a' (inv.set hj hjn) hfree' (ready_mono hr (Ne.symm hji)) h3.1 ?_) h2
      rw [Array.setIfInBounds_comm _ _ hji]
      exact h3.2
theorem headQ_lex {n g : Nat} {Lq : Act → Prop} (hsel : Region.noSelect ops = true) (hs : Region.sinkB md ops n = true) (hc : Region.chainB md ops n = true) (hn : n < ops.size) :
    ∀ (l : List Oper) (k : Nat) (listed : Array Bool) (a : Act), (∀ j, j < l.length → l[j]? = ops[k + j]?) → k + l.length = n → HeadInv md ops n listed →
    Region.lexHead md ops g l.length k listed = true → wpQuiet P ops C Lq l a → headQ P md ops C n (fun listed' a' => Region.seqB md ops g n listed' = true ∧ Lq a') l.length listed a
  | [], k, listed, a, _, hk, _, hB, h => by
    obtain rfl : k = n := by simpa using hk
    exact ⟨by simpa [Region.lexHead] using hB, h⟩
  | o :: l, k, listed, a, hl, hk, inv, hB, h => by
    have h0 : ops[k]? = some o := by simpa using (hl 0 (by simp)).symm
    simp only [List.length_cons, Region.lexHead, Bool.and_eq_true] at hB
    obtain ⟨⟨hr, hf⟩, hB'⟩ := hB
    have hkn : k < n := by simp only [List.length_cons] at hk; omega
    have hr' : k ∈ Region.ready md ops listed := by simpa using hr
    have hst : qOp P ops C k (wpQuiet P ops C Lq l) a := by unfold qOp; simp only [h0]; exact h
    obtain ⟨v, hy, hK⟩ := yieldsIn_of_qOp h0 hst
    exact headQ_first h0 (Region.noSelect_spec hsel) hs hc hn hkn (fun listed' a' hL => seqB_ready hL.1) l.length listed a inv (Region.free_spec h0 hf) hr' hy
      (headQ_lex hsel hs hc hn l (k + 1) _ _ (fun j hj => by have := hl (j + 1) (by simp; omega); simpa [Nat.add_assoc, Nat.add_comm 1 j] using this) (by simp only [List.length_cons] at hk; omega) (inv.set hr' hkn) hB' hK)
end
/-- The same where the last operations (from number n on) write, in one forced order, behind all others. -/
theorem wp_region_abv_tail {P : Program} {id : Nat} {Q : Exit → Act → World → Prop} {a : Act} {w : World} {l : List Oper} (n : Nat) (hm : P.follows .mixedOrders = true) (hB : Region.lexTailB .any l.toArray n = true)
    (h : wpQuiet P l.toArray (fun w' => ∃ s : Abv w, w' = s.w) (fun a' => ∀ w', Below w.heap.size w w' → wpList P l.toArray Q (l.drop n) a' w') (l.take n) a) : (Code.region id l.toArray true).wp P Q a w := by
  simp only [Region.lexTailB, Bool.and_eq_true, decide_eq_true_eq] at hB
  obtain ⟨⟨⟨⟨hsel, hn⟩, hs⟩, hc⟩, hlex⟩ := hB
  have hn' : n < l.length := by simpa using hn
  have htl : (l.take n).length = n := by simp; omega
  have hdl : (l.drop n).length = l.toArray.size - n := by simp
  have inv0 : HeadInv .any l.toArray n (Array.replicate l.toArray.size false) :=
    ⟨by simp, fun j oj _ hl => (by rw [getD_replicate_false] at hl; cases hl), fun t _ ht => getD_in (by simpa using ht) (getD_replicate_false _ _)⟩
  have H := headQ_lex (md := .any) (g := l.toArray.size - n) hsel hs hc hn (l.take n) 0 _ a (fun j hj => by
    have hj' : j < n := by rw [htl] at hj; exact hj
    simp [hj']) (by simpa using htl) inv0 (by rw [htl]; exact hlex) h
  refine wp_region_any hm ?_
  have := any_of_headQ (Q' := Q) (g := l.toArray.size - n) (fun listed a' w' hw' hL => by
    obtain ⟨s, rfl⟩ := hw'
    have := wpAny_of_seq (md := .any) (Q' := Q) (l.drop n) n listed a' s.w (fun j => by simp [List.getElem?_drop]) (by rw [hdl]; exact hL.1) (hL.2 _ s.bel)
    rwa [hdl] at this) _ _ _ _ ⟨(⟨_, (Below.refl _ w).drew⟩ : Abv w), rfl⟩ H
  rw [htl, show n + (l.toArray.size - n) = l.toArray.size by omega] at this
  exact this
/-- What a contract that makes memory leaves of the cells that were there. -/
theorem bcell {B : Nat} {W w1 : World} (hb : Below B W w1) : (∀ b o, b < B → w1.cell? ⟨b, o, none⟩ = W.cell? ⟨b, o, none⟩) ∧ (∀ b o, b < B → w1.frozen? ⟨b, o, none⟩ = W.frozen? ⟨b, o, none⟩) :=
  ⟨fun b o h => hb.cell (p := ⟨b, o, none⟩) h, fun b o h => hb.frozen (p := ⟨b, o, none⟩) h⟩
/-- Quiet callees, where the world has been drawn on before: q_ at 'w.drewN (j + a)', q0_ at 'w.drewN a'. -/
theorem q_same {P : Program} {f : FuncId} {args : Array Value} {w : World} {j a : Nat} {v : Value} (h : Calls P f args (w.drewN (j + a)) fun e w' => e = .returned v ∧ w.drewN (j + a) = w') :
    Calls P f args (w.drewN (j + a)) fun e w'' => e = .returned v ∧ ∃ n, w'' = w.drewN (j + n) := h.mono fun _ _ ⟨he, hw⟩ => ⟨he, a, hw.symm⟩
theorem q_drew {P : Program} {f : FuncId} {args : Array Value} {w : World} {j a : Nat} {v : Value} (h : Calls P f args (w.drewN (j + a)) fun e w' => e = .returned v ∧ ∃ m, w' = (w.drewN (j + a)).drewN m) :
    Calls P f args (w.drewN (j + a)) fun e w'' => e = .returned v ∧ ∃ n, w'' = w.drewN (j + n) := h.mono fun _ _ ⟨he, m, hw⟩ => ⟨he, a + m, by rw [hw, World.drewN_drewN, Nat.add_assoc]⟩
theorem q0_same {P : Program} {f : FuncId} {args : Array Value} {w : World} {a : Nat} {v : Value} (h : Calls P f args (w.drewN a) fun e w' => e = .returned v ∧ w.drewN a = w') :
    Calls P f args (w.drewN a) fun e w'' => e = .returned v ∧ ∃ n, w'' = w.drewN n := h.mono fun _ _ ⟨he, hw⟩ => ⟨he, a, hw.symm⟩
theorem q0_drew {P : Program} {f : FuncId} {args : Array Value} {w : World} {a : Nat} {v : Value} (h : Calls P f args (w.drewN a) fun e w' => e = .returned v ∧ ∃ m, w' = (w.drewN a).drewN m) :
    Calls P f args (w.drewN a) fun e w'' => e = .returned v ∧ ∃ n, w'' = w.drewN n := h.mono fun _ _ ⟨he, m, hw⟩ => ⟨he, a + m, by rw [hw, World.drewN_drewN]⟩
theorem bcellN {n : Nat} {W w1 : World} (hb : Below (W.drewN n).heap.size (W.drewN n) w1) : (∀ b o, b < W.heap.size → w1.cell? ⟨b, o, none⟩ = W.cell? ⟨b, o, none⟩) ∧ (∀ b o, b < W.heap.size → w1.frozen? ⟨b, o, none⟩ = W.frozen? ⟨b, o, none⟩) :=
  ⟨fun b o h => hb.cell (p := ⟨b, o, none⟩) h, fun b o h => hb.frozen (p := ⟨b, o, none⟩) h⟩
theorem cell_alloc_lt {w : World} {o : Obj} {b k : Nat} (h : b < w.heap.size) : (w.alloc o).cell? ⟨b, k, none⟩ = w.cell? ⟨b, k, none⟩ :=
  ((Below.refl w.heap.size w).alloc (Nat.le_refl _) o).cell (p := ⟨b, k, none⟩) h
theorem bundrewN {n : Nat} {W w1 : World} (hb : Below (W.drewN n).heap.size (W.drewN n) w1) : Below W.heap.size W w1 := ⟨hb.os, hb.tape, hb.output, hb.size, hb.block⟩
theorem Abv.cellsN {n : Nat} (w0 : World) : ∀ (s : Abv (w0.drewN n)) (b o : Nat), b < w0.heap.size → s.w.cell? ⟨b, o, none⟩ = w0.cell? ⟨b, o, none⟩ := fun s b o h => s.bel.cell (p := ⟨b, o, none⟩) h
end Go.Proofs.YtpmkohnljngbhaaGreatDoor
