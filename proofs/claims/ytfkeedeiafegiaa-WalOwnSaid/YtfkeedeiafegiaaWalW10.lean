/- Walks: put, commit, records compared, great, the log of records. -/
import Derived.Test.YtfkeedeiafegiaaWalW9
namespace Go.Proofs.Ytfkeedeiafegiaa.Wl
set_option linter.unusedVariables false
set_option linter.unusedSimpArgs false
open Go.RowKit

theorem commit_any (t : Int) (w : World) : Calls Try.prog 30 #[.int .i64 t] w fun e w' => e = .returned (.agg #[.int .i64 3, .int .i64 t, .slice none 0 0]) ∧ Below w.heap.size w w' := by
  go_enter Try.func30, Try.ntmps30
  go_wp2
  exact bodyPost_ret (v := .agg #[.int .i64 3, .int .i64 t, .slice none 0 0]) (by simp [results, Try.results30, go_sem]) rfl ⟨rfl, (Below.refl _ _).alloc (Nat.le_refl _) _⟩

def sameB (a b : Rec) : Bool := decide (a.k = b.k ∧ a.t = b.t ∧ a.d = b.d)
theorem sameB_self (a : Rec) : sameB a a = true := decide_eq_true ⟨rfl, rfl, rfl⟩
theorem sameB_iff {a b : Rec} : sameB a b = true ↔ a = b := by
  unfold sameB
  rw [decide_eq_true_iff]
  exact ⟨fun ⟨h1, h2, h3⟩ => Rec.ext' h1 h2 h3, fun h => by rw [h]; exact ⟨rfl, rfl, rfl⟩⟩
theorem same_any (x y : RV) {n m : Nat} (w : World) (hn : Hid (n = x.d.length)) (hm : Hid (m = y.d.length)) (h : Hid (Rd w 1 x.A n x.c (bv x.d))) (k : Hid (Rd w 1 y.A m y.c (bv y.d))) :
    Calls Try.prog 52 #[.agg #[.int .i64 x.k, .int .i64 x.t, .slice x.A n x.c], .agg #[.int .i64 y.k, .int .i64 y.t, .slice y.A m y.c]] w fun e w' => e = .returned (.bool (sameB x.r y.r)) ∧ Below w.heap.size w w' := by
  obtain ⟨xk, xt, xA, xc, xd⟩ := x
  obtain ⟨yk, yt, yA, yc, yd⟩ := y
  simp only [RV.r] at *
  have h' := Lib.hid ((h.out.alloc (.cells #[.int .i64 xk, .int .i64 xt, .slice xA n xc] 24)).alloc (.cells #[.int .i64 yk, .int .i64 yt, .slice yA m yc] 24))
  have k' := Lib.hid ((k.out.alloc (.cells #[.int .i64 xk, .int .i64 xt, .slice xA n xc] 24)).alloc (.cells #[.int .i64 yk, .int .i64 yt, .slice yA m yc] 24))
  have hb : Below w.heap.size w ((w.alloc (.cells #[.int .i64 xk, .int .i64 xt, .slice xA n xc] 24)).alloc (.cells #[.int .i64 yk, .int .i64 yt, .slice yA m yc] 24)) :=
    ((Below.refl _ _).alloc (Nat.le_refl _) _).alloc (by simp) _
  by_cases h1 : xk = yk
  · subst h1
    by_cases h2 : xt = yt
    · subst h2
      have R : Hid (eqB xd yd = sameB ⟨xk, xt, xd⟩ ⟨xk, xt, yd⟩) := Lib.hid (by unfold eqB sameB; simp)
      go_enter Try.func52, Try.ntmps52
      go_wp2_with fail
      go_at_call 16
      refine (Equal_any _ h' k').mono ?_
      rintro e w' ⟨rfl, rfl⟩
      go_wp2_with fail
      go_ret
      exact ⟨ret_bool R.out, hb⟩
    · have R : Hid (false = sameB ⟨xk, xt, xd⟩ ⟨xk, yt, yd⟩) := Lib.hid (by unfold sameB; simp [h2])
      have hd : (xt == yt) = false := by simpa using h2
      go_enter Try.func52, Try.ntmps52
      go_wp2_with fail
      go_ret
      exact ⟨ret_bool R.out, hb⟩
  · have R : Hid (false = sameB ⟨xk, xt, xd⟩ ⟨yk, yt, yd⟩) := Lib.hid (by unfold sameB; simp [h1])
    have hd : (xk == yk) = false := by simpa using h1
    go_enter Try.func52, Try.ntmps52
    go_wp2_with fail
    go_ret
    exact ⟨ret_bool R.out, hb⟩
end Go.Proofs.Ytfkeedeiafegiaa.Wl
