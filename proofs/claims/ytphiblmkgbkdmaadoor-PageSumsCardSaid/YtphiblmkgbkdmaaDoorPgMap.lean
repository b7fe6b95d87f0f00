/- A set of numbers that is a map of the call's own. -/
import Derived.Test.YtphiblmkgbkdmaaDoorPgS
import Derived.Maps.OwnSet
import Derived.Maps.OwnOps
import Derived.Maps.Views
namespace Go.Proofs.YtphiblmkgbkdmaaDoor.Pg
set_option linter.unusedVariables false
set_option linter.unusedSimpArgs false
open Go.RowKit Go.Maps Wl

def rawE (v : Value) : Option (DataW Value × List MemPlace) := some (.held v, [])
def inS (S : List Nat) (t : Int) : Bool := S.any fun s => (s : Int) == t
def ins (n : Nat) (S : List Nat) : List Nat := if n ∈ S then S else n :: S
theorem inS_nat (S : List Nat) (n : Nat) : inS S (n : Int) = decide (n ∈ S) := by
  unfold inS
  rw [Bool.eq_iff_iff, List.any_eq_true, decide_eq_true_iff]
  exact ⟨fun ⟨s, hs, e⟩ => by have : s = n := by have := beq_iff_eq.1 e; omega
                              exact this ▸ hs, fun h => ⟨n, h, by simp⟩⟩
theorem inS_ins (n : Nat) (S : List Nat) (t : Int) : inS (ins n S) t = (decide (t = n) || inS S t) := by
  unfold ins
  by_cases h : n ∈ S
  · rw [if_pos h]
    by_cases e : t = n
    · subst e; rw [inS_nat, decide_eq_true h, decide_eq_true rfl]; rfl
    · rw [decide_eq_false e, Bool.false_or]
  · rw [if_neg h]
    unfold inS
    rw [List.any_cons]
    congr 1
    rw [Bool.eq_iff_iff, beq_iff_eq, decide_eq_true_iff]
    exact ⟨fun e => e.symm, fun e => e.symm⟩
theorem ins_nodup {n : Nat} {S : List Nat} (h : S.Nodup) : (ins n S).Nodup := by
  unfold ins
  split
  · exact h
  · rename_i hn; exact List.nodup_cons.2 ⟨hn, h⟩
theorem mem_ins {n m : Nat} {S : List Nat} : m ∈ ins n S ↔ m = n ∨ m ∈ S := by
  unfold ins
  split
  · rename_i h; exact ⟨.inr, fun e => e.elim (fun e => e ▸ h) id⟩
  · exact List.mem_cons
theorem keyed : Keyed Tryd.prog 3 := int_keyed Tryd.underlying3
theorem zeroB (w : World) : (zeroValue 4).run Tryd.prog w = .ok (.bool false) w := by kernel_rfl
/-- Block b is a map that holds true for the numbers of S. -/
structure Mc (w : World) (b : Nat) (S : List Nat) (D : DataW Value) : Prop where
  own : w.ownsMap Tryd.prog 3 rawE b S.length D
  im : IsMap D
  at_ : ∀ t, (Lit.int .i64 t).wf = true → D.atKey (.int .i64 t) (.held (.bool false)) = .held (.bool (inS S t))
  has_ : ∀ t, (Lit.int .i64 t).wf = true → has D (.int .i64 t) = inS S t
  size_ : size D = S.length
  nd : S.Nodup
def Mb (w : World) (b : Nat) (S : List Nat) : Prop := ∃ D, Mc w b S D
section
variable {w w' : World} {b : Nat} {S : List Nat}
theorem Mb.made (w : World) : Mb (w.alloc (.map #[] 0)) w.heap.size [] :=
  ⟨.map [], World.ownsMap_made _ _ _ _, isMap_empty, fun t _ => by rfl, fun t _ => by rfl, rfl, List.nodup_nil⟩
theorem Mb.lt (h : Mb w b S) : b < w.heap.size := let ⟨_, h⟩ := h; h.own.lt
theorem Mb.nd (h : Mb w b S) : S.Nodup := let ⟨_, h⟩ := h; h.nd
theorem Mb.of_block (h : Mb w b S) (hb : w'.heap[b]? = w.heap[b]?) : Mb w' b S := by
  obtain ⟨D, h⟩ := h
  obtain ⟨es, k, h1, h2⟩ := h.own
  exact ⟨D, ⟨es, k, hb.trans h1, h2⟩, h.im, h.at_, h.has_, h.size_, h.nd⟩
theorem Mb.kp {X : Nat → Prop} (h : Mb w b S) (k : Kp w w' X) (hX : ¬ X b) : Mb w' b S := h.of_block (k.block b h.lt hX)
theorem Mb.below (h : Mb w b S) (k : Below w.heap.size w w') : Mb w' b S := h.of_block (k.block b h.lt)
theorem Mb.look (h : Mb w b S) {t : Int} (ht : (Lit.int .i64 t).wf = true) : (Instr.lookup 79 (.map (some b)) (.int .i64 t) false).run Tryd.prog w = .ok (.bool (inS S t)) w := by
  obtain ⟨D, h⟩ := h
  obtain ⟨v, ps, hrun, hv⟩ := h.own.lookup keyed Tryd.underlying79 (zeroB w) (zd := .held (.bool false)) (zp := []) rfl (keyOf_int_mk Tryd.underlying3 ht)
  rw [h.at_ t ht] at hv
  simp only [rawE, Option.some.injEq, Prod.mk.injEq, DataW.held.injEq] at hv
  rw [hrun, hv.1]
theorem Mb.len (h : Mb w b S) (ty : TypeId) : (Builtin.len_ #[79] ty #[.map (some b)]).run Tryd.prog w = .ok (.int .i64 (S.length : Int)) w := by
  obtain ⟨D, h⟩ := h
  rw [h.own.len Tryd.underlying79 ty, h.size_]
theorem own_size {n : Nat} {D : DataW Value} (h : w.ownsMap Tryd.prog 3 rawE b n D) : w.ownsMap Tryd.prog 3 rawE b (size D) D := by
  obtain ⟨es, k, h1, h2, h3, rfl⟩ := h
  exact ⟨es, k, h1, h2, by simp [size, length_sorted], rfl⟩
theorem Mb.store (h : Mb w b S) {n : Nat} (ht : n < 4611686018427387904) (hn : S.length < 2000000000) :
    ∃ w', (Instr.mapUpdate 79 (.map (some b)) (.int .i64 (n : Int)) (.bool true)).run Tryd.prog w = .ok () w' ∧ Mb w' b (ins n S) ∧ w.grownBy w' (some b) := by
  obtain ⟨D, h⟩ := h
  have hwf : (Lit.int .i64 (n : Int)).wf = true := by
    simp [Lit.wf, IntKind.min, IntKind.max, IntKind.wrap, IntKind.bits, IntKind.signed]; omega
  obtain ⟨w', hrun, r1, r2⟩ := h.own.update (val := .bool true) (d := .held (.bool true)) (ps := []) keyed Tryd.underlying79 (by unfold maxLen; omega) (keyOf_int_mk Tryd.underlying3 hwf) rfl
  have htd := h.own.tidy keyed
  have hsz := size_put htd (k := .int .i64 (n : Int)) (.held (.bool true))
  rw [h.has_ _ hwf, inS_nat, h.size_] at hsz
  have hsz2 : size (D.put (.int .i64 (n : Int)) (.held (.bool true))) = (ins n S).length := by
    rw [hsz]; unfold ins
    by_cases hm : n ∈ S
    · rw [if_pos hm, if_pos (by simpa using hm)]
    · rw [if_neg hm, if_neg (by simpa using hm)]; rfl
  refine ⟨w', hrun, ⟨_, ?_, h.im.put _ _, fun x hx => ?_, fun x hx => ?_, hsz2, ins_nodup h.nd⟩, r2⟩
  · rw [← hsz2]; exact own_size r1
  · rw [inS_ins]
    by_cases e : x = n
    · subst e
      rw [atKey_put_same h.im (by trivial), decide_eq_true rfl]; rfl
    · rw [atKey_put_other (by intro h; injection h with _ h; exact e h), decide_eq_false e, Bool.false_or]; exact h.at_ x hx
  · rw [inS_ins]
    by_cases e : x = n
    · subst e
      rw [has_put_same h.im (by trivial), decide_eq_true rfl]; rfl
    · rw [has_put_other (by intro h; injection h with _ h; exact e h), decide_eq_false e, Bool.false_or]; exact h.has_ x hx
end
end Go.Proofs.YtphiblmkgbkdmaaDoor.Pg
