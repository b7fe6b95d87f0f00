/- Walks: great. -/
import Derived.Test.YtfkeedeiafegiaaWalW11
namespace Go.Proofs.Ytfkeedeiafegiaa.Wl
set_option linter.unusedVariables false
set_option linter.unusedSimpArgs false
open Go.RowKit

def bigB (l : List RV) : Bool := l.any fun x => decide (5000 < x.d.length)
def greatB (l : List RV) : Bool := decide (40 < l.length) || bigB l
theorem greatB_f {l : List RV} (h : greatB l = false) : l.length ≤ 40 ∧ ∀ x ∈ l, x.d.length ≤ 5000 := by
  unfold greatB bigB at h
  simp only [Bool.or_eq_false_iff, decide_eq_false_iff_not, List.any_eq_false, decide_eq_true_eq] at h
  exact ⟨by omega, fun x hx => by have := h.2 x hx; omega⟩
theorem great1_any (k t : Int) (A : Option Addr) (n c : Nat) (w : World) : Calls Try.prog 48 #[.agg #[.int .i64 k, .int .i64 t, .slice A n c]] w fun e w' => e = .returned (.bool (decide (5000 < n))) ∧ Below w.heap.size w w' := by
  by_cases h : 5000 < n
  · have R : Hid (true = decide (5000 < n)) := Lib.hid (by simp [h])
    go_enter Try.func48, Try.ntmps48
    go_wp2
    go_ret
    exact ⟨ret_bool (by rw [← R.out]; simp; omega), (Below.refl _ _).alloc (Nat.le_refl _) _⟩
  · have R : Hid (false = decide (5000 < n)) := Lib.hid (by simp [h])
    go_enter Try.func48, Try.ntmps48
    go_wp2
    go_ret
    exact ⟨ret_bool (by rw [← R.out]; simp; omega), (Below.refl _ _).alloc (Nat.le_refl _) _⟩
/-- The index of the first one, or -1. -/
def Ix (w : World) (b : Bool) (e : Ending) (w' : World) : Prop := ∃ i : Int, e = .returned (.int .i64 i) ∧ (b = true → 0 ≤ i) ∧ (b = false → i = -1) ∧ Below w.heap.size w w'
theorem Ix.t {w w' : World} {b : Bool} {i : Int} {e : Ending} (hb : b = true) (he : e = .returned (.int .i64 i)) (h : 0 ≤ i) (hw : Below w.heap.size w w') : Ix w b e w' := ⟨i, he, fun _ => h, (fun h => by rw [hb] at h; cases h), hw⟩
theorem Ix.f {w w' : World} {b : Bool} {e : Ending} (hb : b = false) (he : e = .returned (.int .i64 (-1))) (hw : Below w.heap.size w w') : Ix w b e w' := ⟨-1, he, (fun h => by rw [hb] at h; cases h), fun _ => rfl, hw⟩
theorem IndexGreat_any {A : Option Addr} {n c : Nat} {a : List RV} (w : World) (h : Hid (Rr w A n c a)) :
    Calls Try.prog 55 #[.slice A n c, .func (.func 48) #[] #[]] w (Ix w (bigB a)) := by
  have hnc := h.out.row.nc
  have hc63 := h.out.row.c63
  go_enter Try.func55, Try.ntmps55
  go_wp2_with fail
  go_loopw [8] (fun i wr => ∃ j : Nat, j ≤ n ∧ i = .int .i64 j ∧ Below w.heap.size w wr ∧ Hid (bigB (a.take j) = false)) (fun i _ => (n - intOf i).toNat)
  case atStart => exact ⟨0, by omega, rfl, Below.refl _ _, Lib.hid rfl⟩
  case round =>
    obtain ⟨j, hj, rfl, bw, hpre⟩ := hrel
    have hz := bw.size
    by_cases hlt : j < n
    · obtain ⟨g, o, x, rfl, hg, hx, hxm, a0, a1, a2⟩ := (h.out.below bw).rec_ hlt
      obtain ⟨nx, hnx⟩ : ∃ nx, x.d.length = nx := ⟨_, rfl⟩
      rw [hnx] at a2
      have HX := Lib.hid hx
      have HN := Lib.hid hnx
      clear hnx hx
      go_wp2_with fail
      go_at_call 48
      refine (great1_any x.k x.t x.A nx x.c _).mono ?_
      rintro e w1 ⟨rfl, hb1⟩
      have bw1 : Below w.heap.size w w1 := bel_step bw hb1 (Nat.le_refl _)
      clear hb1
      rcases hs : decide (5000 < nx) with _ | _
      · have hp2 : Hid (bigB (a.take (j + 1)) = false) := Lib.hid (by
          have := hpre.out; unfold bigB at this ⊢; rw [List.take_add_one, List.any_append, this, HX.out, Bool.false_or]; simpa [HN.out] using hs)
        clear hs
        go_wp2_with fail
        go_roundw
        case rel => exact ⟨j + 1, by omega, by go_num, bw1, hp2⟩
        case measure => simp [intOf]; omega
      · have R : Hid (bigB a = true) := Lib.hid (List.any_eq_true.2 ⟨x, hxm, by rw [HN.out]; exact hs⟩)
        clear hs
        go_wp2_with fail
        go_ret
        exact Ix.t R.out rfl (by omega) bw1
    · obtain rfl : j = n := by omega
      have R : Hid (bigB a = false) := Lib.hid (by
        have h1 := hpre.out
        rwa [List.take_of_length_le (by rw [← h.out.len]; omega)] at h1)
      go_wp2_with fail
      go_ret
      exact Ix.f R.out rfl bw
theorem ContainsGreat_any {A : Option Addr} {n c : Nat} {a : List RV} (w : World) (h : Hid (Rr w A n c a)) :
    Calls Try.prog 47 #[.slice A n c, .func (.func 48) #[] #[]] w fun e w' => e = .returned (.bool (bigB a)) ∧ Below w.heap.size w w' := by
  go_enter Try.func47, Try.ntmps47
  go_wp2_with fail
  go_at_call 55
  refine (IndexGreat_any _ h).mono ?_
  rintro e w1 ⟨i, rfl, i1, i2, hb1⟩
  rcases hs : bigB a with _ | _
  · have hi : i = -1 := i2 hs
    subst hi
    have HS := Lib.hid hs
    clear hs i1 i2
    go_wp2_with fail
    go_ret
    exact ⟨ret_bool (by rw [HS.out]), hb1⟩
  · have hi : 0 ≤ i := i1 hs
    have HS := Lib.hid hs
    clear hs i1 i2
    go_wp2_with fail
    go_ret
    exact ⟨ret_bool (by rw [HS.out]), hb1⟩
theorem great_any {A : Option Addr} {n c : Nat} {a : List RV} (w : World) (h : Hid (Rr w A n c a)) :
    Calls Try.prog 17 #[.slice A n c] w fun e w' => e = .returned (.bool (greatB a)) ∧ Below w.heap.size w w' := by
  have hl := Lib.hid h.out.len
  by_cases h40 : n ≤ 40
  · have R : Hid ((bigB a) = greatB a) := Lib.hid (by unfold greatB; rw [decide_eq_false (by have := hl.out; omega), Bool.false_or])
    go_enter Try.func17, Try.ntmps17
    go_wp2_with fail
    go_at_call 47
    refine (ContainsGreat_any _ h).mono ?_
    rintro e w1 ⟨rfl, hb1⟩
    go_wp2_with fail
    go_ret
    exact ⟨ret_bool (by rw [decide_eq_false (by omega), Bool.false_or]; exact R.out), hb1⟩
  · have R : Hid (true = greatB a) := Lib.hid (by unfold greatB; rw [decide_eq_true (by have := hl.out; omega), Bool.true_or])
    go_enter Try.func17, Try.ntmps17
    go_wp2_with fail
    go_ret
    exact ⟨ret_bool R.out, Below.refl _ _⟩
end Go.Proofs.Ytfkeedeiafegiaa.Wl
