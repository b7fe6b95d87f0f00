/- The law: WalPrefix. -/
import Derived.Test.YtfkeedeiafegiaaWalL2
import Derived.Test.YtfkeedeiafegiaaWalM2
namespace Go.Proofs.Ytfkeedeiafegiaa.Wl
set_option linter.unusedVariables false
set_option linter.unusedSimpArgs false
open Go.RowKit

theorem cells_take (l : List RV) (k : Nat) : (cells l).take (k * 3) = cells (l.take k) := by
  induction l generalizing k with
  | nil => simp [cells]
  | cons x l ih =>
    rcases k with _ | k
    · simp [cells]
    · have e : cells (x :: l) = x.cs ++ cells l := by simp [cells]
      have e2 : cells ((x :: l).take (k + 1)) = x.cs ++ cells (l.take k) := by simp [cells]
      have h3 : x.cs.length = 3 := rfl
      rw [e, e2, List.take_append, h3, List.take_of_length_le (by omega), show (k + 1) * 3 - 3 = k * 3 by omega, ih]
theorem Rr.upto {w : World} {n c k : Nat} {A : Option Addr} {l : List RV} (h : Rr w A n c l) (hk : k ≤ n) : Rr w A k c (l.take k) :=
  ⟨by have := h.row.upto hk; rwa [cells_take] at this, fun x hx => h.dat x (List.mem_of_mem_take hx)⟩
def begB (a b : List Rec) : Bool := decide (a.length ≤ b.length) && eqR a (b.take a.length)
theorem begB_t {a b c : List Rec} (h : b = a ++ c) : begB a b = true := by
  subst h; unfold begB; simp [eqR_self]
theorem begins_any {A B : Option Addr} {n c m d : Nat} {a b : List RV} (w : World) (h : Hid (Rr w A n c a)) (k : Hid (Rr w B m d b)) :
    Calls Try.prog 27 #[.slice A n c, .slice B m d] w fun e w' => e = .returned (.bool (begB (a.map RV.r) (b.map RV.r))) ∧ Below w.heap.size w w' := by
  have hmd := k.out.row.nc
  have hd63 := k.out.row.c63
  have hn := Lib.hid h.out.len
  have hm := Lib.hid k.out.len
  by_cases hlt : n ≤ m
  · have kp := Lib.hid (k.out.upto hlt)
    have R : Hid (eqR (a.map RV.r) ((b.map RV.r).take n) = begB (a.map RV.r) (b.map RV.r)) := Lib.hid (by
      unfold begB
      rw [List.length_map, List.length_map, ← hn.out, ← hm.out, decide_eq_true hlt, Bool.true_and])
    go_enter Try.func27, Try.ntmps27
    go_wp2_with fail
    go_at_call 21
    refine (equal_any _ h kp).mono ?_
    rintro e w1 ⟨rfl, b1⟩
    go_wp2_with fail
    go_ret
    exact ⟨ret_bool R.out, b1⟩
  · have R : Hid (false = begB (a.map RV.r) (b.map RV.r)) := Lib.hid (by
      unfold begB
      rw [List.length_map, List.length_map, ← hn.out, ← hm.out, decide_eq_false hlt, Bool.false_and])
    go_enter Try.func27, Try.ntmps27
    go_wp2_with fail
    go_ret
    exact ⟨ret_bool R.out, Below.refl _ _⟩
theorem Cut_some {A : Option Addr} {n c : Nat} {b : List UInt8} (k : Int) (w : World) (hl : Hid (n = b.length)) (h : Hid (Rd w 1 A n c (bv b))) (hn : n ≤ 1073741824) (k1 : -9223372036854775808 ≤ k) (k2 : k ≤ 9223372036854775807) :
    Calls Try.prog 26 #[.slice A n c, .int .i64 k] w fun e w' => ∃ kc, Mk w kc (b.take kc) e w' := (Cut_any k w hl h hn k1 k2).mono fun _ _ hh => ⟨_, hh⟩
/-- The part of WalPrefix behind the reckoning of the cut. -/
theorem pre_facts {l : List RV} (hf : Fit l) {b : List UInt8} (hb : encs (vals l) = b) (k : Nat) :
    rd b = vals l ∧ glen b = b.length ∧ glen (b.take k) ≤ (b.take k).length ∧ begB (rd (b.take k)) (rd b) = true ∧ begB (com (rd (b.take k))) (com (rd b)) = true ∧
    ((rd (b.take k)).length = (rd b).length ∨ ∃ r, (rd b)[(rd (b.take k)).length]? = some r ∧ (b.take k).length < glen (b.take k) + (21 + r.d.length)) := by
  subst hb
  have hok := vals_ok hf
  obtain ⟨ys, e, hy⟩ := cut_reads hok k
  obtain ⟨zs, hz⟩ := rd_com_cut hok k
  refine ⟨rd_encs hok, glen_encs hok, glen_le _, begB_t (c := ys) (by rw [rd_encs hok]; exact e), begB_t hz, ?_⟩
  rw [rd_encs hok]
  rcases ys with _ | ⟨r, ys⟩
  · left; have := congrArg List.length e; simpa using this.symm
  · right
    refine ⟨r, ?_, hy r ys rfl⟩
    obtain ⟨p, hp⟩ : ∃ p, rd ((encs (vals l)).take k) = p := ⟨_, rfl⟩
    rw [hp] at e ⊢
    rw [e]; simp
end Go.Proofs.Ytfkeedeiafegiaa.Wl
