/- A region that draws its order: first operations that only read, then some in one forced order that write, then operations that only read. -/
import Derived.Test.YtpmkohnljngbhaaGreatDoorKit
namespace Go.Proofs.YtpmkohnljngbhaaGreatDoor
set_option linter.unusedVariables false
set_option linter.unusedSimpArgs false
set_option maxRecDepth 1000000
open Go.RowKit
section
variable {P : Program} {ops : Array Oper} {md : Region.Mode} {C : World → Prop}
/-- Each operation behind number n waits for one from n on. -/
def chainW (md : Region.Mode) (ops : Array Oper) (n : Nat) : Bool :=
  (List.range ops.size).all fun t => decide (t ≤ n) || (List.range t).any fun s => decide (n ≤ s) && Region.waitsFor md ops t s
theorem tail_waitsW {n : Nat} {listed : Array Bool} (hs : Region.sinkB md ops n = true) (hc : chainW md ops n = true) (hn : n < ops.size) (inv : HeadInv md ops n listed) :
    ∀ (d i : Nat), n - i = d → i < n → listed.getD i true = false → ∀ t, n ≤ t → t ∉ Region.ready md ops listed := by
  intro d
  induction d using Nat.strongRecOn with
  | _ d ih =>
    intro i hd hi hun t ht hr
    obtain ⟨_, ot, hot, hall⟩ := mem_ready.1 hr
    have htlt : t < ops.size := (Array.getElem?_eq_some_iff.1 hot).1
    by_cases htn : t = n
    · subst htn
      have h1 := List.all_eq_true.1 hs i (List.mem_range.2 hi)
      obtain ⟨j, hj, hj2⟩ := List.any_eq_true.1 h1
      simp only [Bool.and_eq_true, decide_eq_true_eq] at hj2
      obtain ⟨oj, hoj, e, he, hb, hon⟩ := Region.waitsFor_spec hj2.2
      have hjle : j ≤ t := by have := List.mem_range.1 hj; omega
      by_cases hjt : j = t
      · subst hjt
        have : oj = ot := Option.some.inj (hoj.symm.trans hot)
        subst this
        have h2 := hall e he hb
        rw [hon, getD_both hun] at h2
        cases h2
      · cases hl : listed.getD j false with
        | true =>
          have h2 := inv.closed j oj hoj hl e he hb
          rw [hon, getD_both hun] at h2
          cases h2
        | false =>
          have hjs : j < listed.size := by rw [inv.size]; omega
          exact ih (t - j) (by omega) j rfl (by omega) (getD_in hjs hl) t (Nat.le_refl _) hr
    · have h1 := List.all_eq_true.1 hc t (List.mem_range.2 htlt)
      simp only [Bool.or_eq_true, decide_eq_true_eq] at h1
      rcases h1 with h1 | h1
      · omega
      · obtain ⟨s, hs1, hs2⟩ := List.any_eq_true.1 h1
        simp only [Bool.and_eq_true, decide_eq_true_eq] at hs2
        have hst := List.mem_range.1 hs1
        obtain ⟨o', ho', e, he, hb, hon⟩ := Region.waitsFor_spec hs2.2
        have : o' = ot := Option.some.inj (ho'.symm.trans hot)
        subst this
        have h2 := hall e he hb
        rw [hon, getD_both (inv.tail s hs2.1 (by omega))] at h2
        cases h2
theorem headW_first {n i : Nat} {oi : Oper} {v : Value} {L : Array Bool → Act → Prop} (hi : ops[i]? = some oi) (hsel : ∀ (j : Nat) (o : Oper) cs b, ops[j]? = some o → o.op ≠ .select cs b)
    (hs : Region.sinkB md ops n = true) (hc : chainW md ops n = true) (hn : n < ops.size) (hin : i < n) (hdone : ∀ listed a, L listed a → ∀ j ∈ Region.ready md ops listed, n ≤ j) :
    ∀ (f : Nat) (listed : Array Bool) (a : Act), HeadInv md ops n listed →
      (∀ j oj, ops[j]? = some oj → j ≠ i → listed.getD j true = false → (∀ e ∈ oj.after, Region.binds md e = true → e.on ≠ i) → oi.apart ops oj = true) →
      i ∈ Region.ready md ops listed → YieldsIn P ops C oi v a → headQ P md ops C n L f (listed.setIfInBounds i true) (a.put oi.dst v) → headQ P md ops C n L (f + 1) listed a := by
  intro f
  induction f with
  | zero =>
    intro listed a inv _ hr hy H
    have hun := (mem_ready.1 hr).1
    refine ⟨fun h => (by rw [h] at hr; cases hr), fun j hj => ?_⟩
    have hjn : j < n := (Nat.lt_or_ge j n).elim id fun h => absurd hj (tail_waitsW hs hc hn inv _ i rfl hin hun j h)
    refine ⟨hjn, ?_⟩
    by_cases hji : j = i
    · subst hji; exact hy.qOp hi H
    · have := hdone _ _ H j (ready_mono hj hji)
      omega
  | succ f ih =>
    intro listed a inv hfree hr hy H
    have hun := (mem_ready.1 hr).1
    refine ⟨fun h => (by rw [h] at hr; cases hr), fun j hj => ?_⟩
    have hjn : j < n := (Nat.lt_or_ge j n).elim id fun h => absurd hj (tail_waitsW hs hc hn inv _ i rfl hin hun j h)
    refine ⟨hjn, ?_⟩
    by_cases hji : j = i
    · subst hji; exact hy.qOp hi H
    · have h1 := (H.2 j (ready_mono hj hji)).2
      obtain ⟨hjun, oj, hoj, hall⟩ := mem_ready.1 hj
      have hnot : ∀ e ∈ oj.after, Region.binds md e = true → e.on ≠ i := fun e he hb heq => by
        have h1 := hall e he hb
        rw [heq, getD_both hun] at h1
        cases h1
      have h2 := qOp_put hoj (hfree j oj hoj hji hjun hnot) (fun cs b => hsel i oi cs b hi) (fun cs b => hsel j oj cs b hoj) hy h1
      have hfree' : ∀ k ok, ops[k]? = some ok → k ≠ i → (listed.setIfInBounds j true).getD k true = false →
          (∀ e ∈ ok.after, Region.binds md e = true → e.on ≠ i) → oi.apart ops ok = true := fun k ok hk hki hun hno => by
        refine hfree k ok hk hki ?_ hno
        by_cases hjk : j = k
        · subst hjk; exact hjun
        · rw [getD_set_ne true hjk] at hun; exact hun
      refine qOp_mono (fun a' h3 => ih (listed.setIfInBounds j true) a' (inv.set hj hjn) hfree' (ready_mono hr (Ne.symm hji)) h3.1 ?_) h2
      rw [Array.setIfInBounds_comm _ _ hji]
      exact h3.2
/-- From number k on so many operations in one forced order, then the rest in any order. -/
def midB (md : Region.Mode) (ops : Array Oper) (g : Nat) : Nat → Nat → Array Bool → Bool
  | 0, k, listed => Region.lexFrom md ops g k listed
  | f + 1, k, listed => decide (Region.ready md ops listed = [k]) && midB md ops g f (k + 1) (listed.setIfInBounds k true)
def headB (md : Region.Mode) (ops : Array Oper) (g q : Nat) : Nat → Nat → Array Bool → Bool
  | 0, k, listed => decide (0 < q) && midB md ops g q k listed
  | f + 1, k, listed => (Region.ready md ops listed).contains k && Region.free md ops listed k && headB md ops g q f (k + 1) (listed.setIfInBounds k true)
def regionB (md : Region.Mode) (ops : Array Oper) (n q : Nat) : Bool :=
  Region.noSelect ops && decide (n < ops.size) && Region.sinkB md ops n && chainW md ops n && headB md ops (ops.size - n - q) q n 0 (Array.replicate ops.size false)
theorem midB_ready {g q k : Nat} {listed : Array Bool} (h : (decide (0 < q) && midB md ops g q k listed) = true) : ∀ j ∈ Region.ready md ops listed, k ≤ j := by
  cases q with
  | zero => simp at h
  | succ q =>
    intro j hj
    simp only [midB, Bool.and_eq_true, decide_eq_true_eq] at h
    rw [h.2.1] at hj
    have : j = k := by simpa using hj
    omega
theorem headW_lex {n g q : Nat} {Lq : Act → Prop} (hsel : Region.noSelect ops = true) (hs : Region.sinkB md ops n = true) (hc : chainW md ops n = true) (hn : n < ops.size) :
    ∀ (l : List Oper) (k : Nat) (listed : Array Bool) (a : Act), (∀ j, j < l.length → l[j]? = ops[k + j]?) → k + l.length = n → HeadInv md ops n listed →
    headB md ops g q l.length k listed = true → wpQuiet P ops C Lq l a → headQ P md ops C n (fun listed' a' => (decide (0 < q) && midB md ops g q n listed') = true ∧ Lq a') l.length listed a
  | [], k, listed, a, _, hk, _, hB, h => by
    obtain rfl : k = n := by simpa using hk
    exact ⟨by simpa only [List.length_nil, headB] using hB, h⟩
  | o :: l, k, listed, a, hl, hk, inv, hB, h => by
    have h0 : ops[k]? = some o := by simpa using (hl 0 (by simp)).symm
    simp only [List.length_cons, headB, Bool.and_eq_true] at hB
    obtain ⟨⟨hr, hf⟩, hB'⟩ := hB
    have hkn : k < n := by simp only [List.length_cons] at hk; omega
    have hr' : k ∈ Region.ready md ops listed := by simpa using hr
    have hst : qOp P ops C k (wpQuiet P ops C Lq l) a := by unfold qOp; simp only [h0]; exact h
    obtain ⟨v, hy, hK⟩ := yieldsIn_of_qOp h0 hst
    exact headW_first h0 (Region.noSelect_spec hsel) hs hc hn hkn (fun listed' a' hL => midB_ready hL.1) l.length listed a inv (Region.free_spec h0 hf) hr' hy
      (headW_lex hsel hs hc hn l (k + 1) _ _ (fun j hj => by have := hl (j + 1) (by simp; omega); simpa [Nat.add_assoc, Nat.add_comm 1 j] using this) (by simp only [List.length_cons] at hk; omega) (inv.set hr' hkn) hB' hK)
end
/-- What follows the forced operations: the rest only reads, over a class of worlds. -/
def MidQ (P : Program) (ops : Array Oper) (Q : Exit → Act → World → Prop) (rest : List Oper) : Exit → Act → World → Prop
  | .normal, a, w => ∃ C : World → Prop, C w ∧ wpQuiet P ops C (fun a' => ∀ w', C w' → Q .normal a' w') rest a
  | e, a, w => Q e a w
theorem MidQ.intro {P : Program} {ops : Array Oper} {Q : Exit → Act → World → Prop} {rest : List Oper} {a : Act} {w : World} (C : World → Prop) (hC : C w) (h : wpQuiet P ops C (fun a' => ∀ w', C w' → Q .normal a' w') rest a) : MidQ P ops Q rest .normal a w := ⟨C, hC, h⟩
theorem wp_post {P : Program} {Q Q' : Exit → Act → World → Prop} {o : Oper} {a : Act} {w : World} {K : Act → World → Prop} (hp : ∀ c a w, Q (.panic c) a w → Q' (.panic c) a w) (hl : LetsOut Q → LetsOut Q')
    (hh : o.wp P a w K Q) : o.wp P a w K Q' := by
  unfold Oper.wp at *
  generalize (execOp a.eval o).run P w = r at *
  cases r with
  | ok n w' =>
    cases n <;> simp only [Oper.upon] at hh ⊢ <;>
      first
        | exact hh
        | exact Calls.mono hh (fun e w'' he => by cases e <;> first | exact he | exact hp _ _ _ he | exact hl he)
  | halt x w' => cases x <;> simp only [Oper.upon] at hh ⊢ <;> first | exact hh | exact hp _ _ _ hh
theorem MidQ.out {P : Program} {ops : Array Oper} {Q : Exit → Act → World → Prop} {rest : List Oper} : LetsOut (MidQ P ops Q rest) → LetsOut Q := id
theorem wpAny_of_mid {P : Program} {ops : Array Oper} {md : Region.Mode} {Q : Exit → Act → World → Prop} (hs : Region.noSelect ops = true) (rest : List Oper) : ∀ (l : List Oper) (k : Nat) (listed : Array Bool) (a : Act) (w : World), (∀ j, (l ++ rest)[j]? = ops[k + j]?) →
    midB md ops rest.length l.length k listed = true → wpList P ops (MidQ P ops Q rest) l a w → wpAny P md ops Q (l.length + rest.length) listed a w
  | [], k, listed, a, w, hl, hB, h => by
    obtain ⟨C, hC, hq⟩ := (h : MidQ P ops Q rest .normal a w)
    have := wpAnyQ_lex (C := C) (md := md) hs rest k listed a (by simpa using hl) (by simpa only [List.length_nil, midB] using hB) hq
    simpa using wpAny_of_quiet (Q := fun a' => ∀ w', C w' → Q .normal a' w') (fun _ w' hw' h => h w' hw') _ _ _ _ hC this
  | o :: l, k, listed, a, w, hl, hB, h => by
    have h0 : ops[k]? = some o := by simpa using (hl 0).symm
    simp only [List.length_cons, midB, Bool.and_eq_true, decide_eq_true_eq] at hB
    rw [show (o :: l).length + rest.length = (l.length + rest.length) + 1 by simp; omega]
    refine ⟨fun h1 => (by rw [hB.1] at h1; cases h1), fun i hi => ?_⟩
    rw [hB.1] at hi
    have hik : i = k := by simpa using hi
    subst hik
    have key : ∀ a' w', wpList P ops (MidQ P ops Q rest) l a' w' → wpAny P md ops Q (l.length + rest.length) (listed.setIfInBounds i true) a' w' := fun a' w' h' => wpAny_of_mid hs rest l (i + 1) _ a' w' (fun j => by have := hl (j + 1); simpa [Nat.add_assoc, Nat.add_comm 1 j] using this) hB.2 h'
    have hw : wpOp P ops (MidQ P ops Q rest) i (wpList P ops (MidQ P ops Q rest) l) a w := by unfold wpOp; simp only [h0]; exact h
    have hw2 := wpOp_mono key hw
    unfold wpOp at hw2 ⊢
    simp only [h0] at hw2 ⊢
    split
    · rename_i hh
      simp only [hh, if_true] at hw2
      exact hw2.imp (wp_post (fun _ _ _ h => h) (MidQ.out (P := P) (ops := ops) (rest := rest))) (And.imp id (MidQ.out (P := P) (ops := ops) (rest := rest)))
    · rename_i hh; simp only [hh] at hw2; exact hw2
/-- The region: the head (n operations), q forced operations, the rest. -/
theorem wp_region_mid {P : Program} {id : Nat} {Q : Exit → Act → World → Prop} {a : Act} {w : World} {l : List Oper} (C : World → Prop) (n q : Nat) (hm : P.follows .mixedOrders = true) (hB : regionB .any l.toArray n q = true) (hC : C w.drew)
    (h : wpQuiet P l.toArray C (fun a' => ∀ w', C w' → wpList P l.toArray (MidQ P l.toArray Q (l.drop (n + q))) ((l.drop n).take q) a' w') (l.take n) a) : (Code.region id l.toArray true).wp P Q a w := by
  simp only [regionB, Bool.and_eq_true, decide_eq_true_eq] at hB
  obtain ⟨⟨⟨⟨hsel, hn⟩, hs⟩, hc⟩, hlex⟩ := hB
  have hn' : n < l.length := by simpa using hn
  have htl : (l.take n).length = n := by simp; omega
  have inv0 : HeadInv .any l.toArray n (Array.replicate l.toArray.size false) :=
    ⟨by simp, fun j oj _ hl => (by rw [getD_replicate_false] at hl; cases hl), fun t _ ht => getD_in (by simpa using ht) (getD_replicate_false _ _)⟩
  have H := headW_lex (md := .any) (g := l.toArray.size - n - q) (q := q) hsel hs hc hn (l.take n) 0 _ a (fun j hj => by
    have hj' : j < n := by rw [htl] at hj; exact hj
    simp [hj']) (by simpa using htl) inv0 (by rw [htl]; exact hlex) h
  refine wp_region_any hm ?_
  have hq : n + q ≤ l.length ∨ l.length < n + q := by omega
  have key : ∀ listed a' w', C w' → ((decide (0 < q) && midB .any l.toArray (l.toArray.size - n - q) q n listed) = true ∧ ∀ w', C w' → wpList P l.toArray (MidQ P l.toArray Q (l.drop (n + q))) ((l.drop n).take q) a' w') →
      wpAny P .any l.toArray Q (l.length - n) listed a' w' := by
    intro listed a' w' hw' hL
    rcases hq with hq | hq
    · have e1 : ((l.drop n).take q).length = q := by simp; omega
      have e2 : (l.drop (n + q)).length = l.toArray.size - n - q := by simp; omega
      have := wpAny_of_mid (md := .any) (Q := Q) hsel (l.drop (n + q)) ((l.drop n).take q) n listed a' w' (fun j => by
        rw [← List.drop_drop, List.take_append_drop, List.getElem?_drop]; simp) (by
        rw [e1, e2]; have := hL.1; simp only [Bool.and_eq_true] at this; exact this.2) (hL.2 w' hw')
      rw [e1, e2] at this
      rwa [show q + (l.toArray.size - n - q) = l.length - n by simp; omega] at this
    · exfalso
      have := hL.1
      simp only [Bool.and_eq_true] at this
      have h2 : ∀ (f k : Nat) (listed : Array Bool), k + f > l.length → k ≤ l.length → 0 < f → midB .any l.toArray (l.toArray.size - n - q) f k listed = true → False := by
        intro f
        induction f with
        | zero => intro k listed _ _ h0; omega
        | succ f ih =>
          intro k listed h1 h2 _ h3
          simp only [midB, Bool.and_eq_true, decide_eq_true_eq] at h3
          have hk : k ∈ Region.ready .any l.toArray listed := by rw [h3.1]; simp
          obtain ⟨_, ok, hok, _⟩ := mem_ready.1 hk
          have hlt := (Array.getElem?_eq_some_iff.1 hok).1
          simp only [List.size_toArray] at hlt
          rcases Nat.eq_zero_or_pos f with h0 | h0
          · omega
          · exact ih (k + 1) _ (by omega) (by omega) h0 h3.2
      exact h2 q n listed (by omega) (by omega) (by have := hL.1; simp only [Bool.and_eq_true, decide_eq_true_eq] at this; exact this.1) this.2
  have := any_of_headQ (Q' := Q) (g := l.length - n) key _ _ _ _ hC H
  rw [htl, show n + (l.length - n) = l.toArray.size by simp; omega] at this
  exact this
end Go.Proofs.YtpmkohnljngbhaaGreatDoor
