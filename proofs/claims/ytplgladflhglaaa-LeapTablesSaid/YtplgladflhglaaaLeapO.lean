/- A table of leap seconds among the arguments, opened to its cells. -/
import Derived.Test.YtplgladflhglaaaLeapA
import Derived.Test.YtplgladflhglaaaLeapV2
import Derived.Test.YtplgladflhglaaaLeapW2
import Derived.ProofKit
import Derived.OpenShut
import Derived.ShutString
import Derived.ChangeOld
import Derived.ChangeSame
import Derived.Below
import Derived.Lib.SmallJoins
import Derived.Deep.Slices
namespace Go.Proofs.Ytplgladflhglaaa.Lp
set_option linter.unusedVariables false
set_option linter.unusedSimpArgs false
open Go.ChangeShapes Go.WideShapes Go.Deep Go.RowKit

theorem cell_lt {W : World} {p : Addr} {v : Value} (h : W.cell? p = some v) : p.block < W.heap.size ∧ p.spot = none := by
  unfold World.cell? at h
  rcases hh : W.heap[p.block]? with _ | o
  · rw [hh] at h; simp at h
  · refine ⟨(Array.getElem?_eq_some_iff.1 hh).1, ?_⟩
    rw [hh] at h
    cases o <;> first | (simp at h; done) | skip
    rcases hs : p.spot with _ | x
    · rfl
    · simp [hs] at h
theorem open_tab {H : Type} {enc : TypeId × Value → H} {W : World} {base : Nat} {spare : Nat → Bool} {held : Bool} {r : Reach} {b0 : Nat} {v : Value} {d : DataW H} {p : List MemPlace}
    (hv : Value.okWide Try.prog W r b0 24 v) (h : DataW.Trod enc Try.prog W base spare held 24 v d p) :
    ∃ (sl : Option Addr) (n cap b o : Nat) (A T : Nat → Int), v = .agg #[.slice sl n cap] ∧ Tab W sl n b o A T := by
  obtain ⟨cs, rfl, hsz⟩ := okWide_struct Try.underlying24 hv
  obtain ⟨l⟩ := cs
  match l, hsz.trans (by kernel_rfl : Try.prog.cellsOf 24 = 1) with
  | [c0], _ =>
    obtain ⟨fuel, hf⟩ := h
    obtain ⟨y0, n0, _, _, hy⟩ := trod_struct1 Try.underlying24 hf
    have hy' : DataW.trod enc Try.prog W base spare held n0 22 [c0] = some y0 := by
      have e1 : Try.prog.cellsOf 22 = 1 := by kernel_rfl
      simpa [Value.cells, e1] using hy
    rcases open_slice Try.underlying22 hy' with ⟨hc, _⟩ | ⟨a, len, cap, m, fu, D, Pl, hc, _, hlc, hcm, hm, _, hi⟩
    · obtain rfl : c0 = .slice none 0 0 := by simpa using hc
      exact ⟨none, 0, 0, 0, 0, fun _ => 0, fun _ => 0, rfl, fun h => by omega, fun h => by omega, fun i h => by omega, fun i h => by omega, fun i h => by omega, fun i h => by omega, by omega⟩
    · obtain rfl : c0 = .slice (some a) len cap := by simpa using hc
      have hlm : len ≤ m := by rw [hm]; split <;> omega
      have two : Try.prog.cellsOf 43 = 2 := by kernel_rfl
      have one3 : Try.prog.cellsOf 3 = 1 := by kernel_rfl
      have hel : ∀ i, i < len → ∃ q : Int × Int, W.cell? (a.add (i * 2)) = some (.int .i64 q.1) ∧ W.cell? (a.add (i * 2 + 1)) = some (.int .i64 q.2) ∧ (-9223372036854775808 ≤ q.1 ∧ q.1 ≤ 9223372036854775807) ∧ (-9223372036854775808 ≤ q.2 ∧ q.2 ≤ 9223372036854775807) := by
        intro i him
        obtain ⟨cs', hcs, ht⟩ := hi i (by omega)
        rw [two] at hcs
        obtain ⟨_, hcl, hat⟩ := World.cells?_some hcs
        match cs', hcl with
        | [x, y], _ =>
          obtain ⟨z0, z1, n', _, _, g0, g1⟩ := trod_struct2 Try.underlying43 ht
          have g0' : DataW.trod enc Try.prog W base spare held n' 3 [x] = some z0 := by simpa [one3] using g0
          have g1' : DataW.trod enc Try.prog W base spare held n' 3 [y] = some z1 := by simpa [one3] using g1
          obtain ⟨u0, e0, _, w0⟩ := DataW.trod_int Try.underlying3 g0'
          obtain ⟨u1, e1, _, w1⟩ := DataW.trod_int Try.underlying3 g1'
          obtain rfl : x = .int .i64 u0 := by simpa using e0
          obtain rfl : y = .int .i64 u1 := by simpa using e1
          have h0 := hat 0 (by omega)
          have h1 := hat 1 (by omega)
          rw [add_add] at h0 h1
          exact ⟨(u0, u1), h0, h1, bounds_i64 w0, bounds_i64 w1⟩
      obtain ⟨f, hfn⟩ := choose_lt hel
      have hbl : 0 < len → a.spot = none ∧ a.block < W.heap.size := fun h0 => by
        have := (hfn 0 h0).1
        have e : a.add (0 * 2) = a := by simp [Addr.add]
        rw [e] at this
        have := cell_lt this
        exact ⟨this.2, this.1⟩
      have hadd : ∀ k, 0 < len → a.add k = ⟨a.block, a.off + k, none⟩ := fun k h0 => by
        have hs := (hbl h0).1
        unfold Addr.add
        split
        · rename_i hk; subst hk; cases a; simp at hs ⊢; exact hs
        · rfl
      refine ⟨some a, len, cap, a.block, a.off, fun i => (f i).1, fun i => (f i).2, rfl, fun h0 => ?_, fun h0 => (hbl h0).2, fun i h => ?_, fun i h => ?_, fun i h => (hfn i h).2.2.1, fun i h => (hfn i h).2.2.2, ?_⟩
      · have hs := (hbl h0).1
        cases a; simp at hs ⊢; exact hs
      · have := (hfn i h).1; rw [hadd _ (by omega)] at this; exact this
      · have := (hfn i h).2.1; rw [hadd _ (by omega)] at this; exact this
      · have : maxLen = 9223372036854775807 := by decide
        omega

theorem long_any {sl : Option Addr} {n b o cap : Nat} {A T : Nat → Int} (w : World) (h : Hid (Tab w sl n b o A T)) :
    Calls Try.prog 12 #[.agg #[.slice sl n cap]] w fun e w' => e = .returned (.bool (decide (300 < n))) ∧ Below w.heap.size w w' := by
  have hn := h.out.n62
  go_enter Try.func12, Try.ntmps12
  go_wp2
  go_ret
  exact ⟨ret_bool (decide_eq_decide.2 (by omega)), (Below.refl _ _).alloc (Nat.le_refl _) _⟩

theorem long_at {sl : Option Addr} {n b o cap : Nat} {A T : Nat → Int} {v : Bool} (w : World) (h : Hid (Tab w sl n b o A T)) (hv : Hid (decide (300 < n) = v)) :
    Calls Try.prog 12 #[.agg #[.slice sl n cap]] w fun e w' => e = .returned (.bool v) ∧ Below w.heap.size w w' := hv.out ▸ long_any w h

/-- A law's table in its box, in a world behind some calls. -/
structure Bx (w wk : World) (sl : Option Addr) (n cap b o : Nat) (A T : Nat → Int) : Prop where
  cell : wk.cell? ⟨w.heap.size, 0, none⟩ = some (.slice sl n cap)
  bel : Below w.heap.size w wk
  lt : w.heap.size < wk.heap.size
  tab : Tab wk sl n b o A T
theorem Bx.start {w : World} {sl : Option Addr} {n b o : Nat} {A T : Nat → Int} (cap : Nat) (h : Tab w sl n b o A T) : Bx w (w.alloc (.cells #[.slice sl n cap] 24)) sl n cap b o A T :=
  ⟨by simp [go_sem], (Below.refl _ _).alloc (Nat.le_refl _) _, by simp, h.alloc _⟩
theorem Bx.step {w wk wl : World} {sl : Option Addr} {n b o cap : Nat} {A T : Nat → Int} (h : Bx w wk sl n cap b o A T) (hb : Below wk.heap.size wk wl) : Bx w wl sl n cap b o A T :=
  ⟨((bcell hb).1 _ 0 h.lt).trans h.cell, h.bel.trans (hb.mono (Nat.le_of_lt h.lt)), Nat.lt_of_lt_of_le h.lt hb.size, h.tab.below hb⟩
theorem Atomic_at {sl : Option Addr} {n b o cap : Nat} {A T : Nat → Int} {x a e : Int} (w : World) (h : Hid (Tab w sl n b o A T)) (h1 : -9223372036854775808 ≤ x) (h2 : x ≤ 9223372036854775807) (hv : Hid (M.atm n A T x = (a, e))) :
    Calls Try.prog 13 #[.agg #[.slice sl n cap], .int .i64 x] w fun y w' => y = .returned (.tuple #[.int .i64 a, .int .i64 e]) ∧ Below w.heap.size w w' :=
  (Atomic_any x w h h1 h2).mono fun _ _ ⟨he, hw⟩ => ⟨he.trans (ret_atm hv.out).symm, hw⟩
theorem Civil_at {sl : Option Addr} {n b o cap : Nat} {A T : Nat → Int} {x a e : Int} {i : Bool} (w : World) (h : Hid (Tab w sl n b o A T)) (h1 : -9223372036854775808 ≤ x) (h2 : x ≤ 9223372036854775807) (hv : Hid (M.cvl n A T x = ((a, i), e))) :
    Calls Try.prog 14 #[.agg #[.slice sl n cap], .int .i64 x] w fun y w' => y = .returned (.tuple #[.int .i64 a, .bool i, .int .i64 e]) ∧ Below w.heap.size w w' :=
  (Civil_any x w h h1 h2).mono fun _ _ ⟨he, hw⟩ => ⟨he.trans (ret_cvl hv.out).symm, hw⟩
theorem rCivil_at {sl : Option Addr} {n b o cap : Nat} {A T : Nat → Int} {x a e : Int} {i : Bool} (w : World) (h : Hid (Tab w sl n b o A T)) (hk : Hid (M.Ok n A T)) (h1 : -9223372036854775808 ≤ x) (h2 : x ≤ 9223372036854775807) (hv : Hid (M.civ n A x = ((a, i), e))) :
    Calls Try.prog 16 #[.agg #[.slice sl n cap], .int .i64 x] w fun y w' => y = .returned (.tuple #[.int .i64 a, .bool i, .int .i64 e]) ∧ Below w.heap.size w w' :=
  (rCivil_any x w h hk h1 h2).mono fun _ _ ⟨he, hw⟩ => ⟨he.trans (ret_civ hv.out).symm, hw⟩
theorem rValid_at {sl : Option Addr} {n b o cap : Nat} {A T : Nat → Int} {v : Bool} (w : World) (h : Hid (Tab w sl n b o A T)) (hv : Hid (M.okb n A T = v)) :
    Calls Try.prog 15 #[.agg #[.slice sl n cap]] w fun e w' => e = .returned (.bool v) ∧ Below w.heap.size w w' := hv.out ▸ rValid_any w h
theorem rInstant_at {x : Int} {v : Bool} (w : World) (h : Hid (decide (-62135596800 ≤ x ∧ x < 253402300800) = v)) :
    Calls Try.prog 17 #[.int .i64 x] w fun e w' => e = .returned (.bool v) ∧ w = w' := h.out ▸ rInstant_any x w

end Go.Proofs.Ytplgladflhglaaa.Lp
