/- Files in memory. -/
import Derived.Test.YtphiblmkgbkdmaaDoorPgV1
namespace Go.Proofs.YtphiblmkgbkdmaaDoor.Pg
set_option linter.unusedVariables false
set_option linter.unusedSimpArgs false
open Go.RowKit Wl

def iv (l : List Int) : List Value := l.map fun x => .int .i64 x
theorem iv_len (l : List Int) : (iv l).length = l.length := by simp [iv]
theorem iv_one (l : List Int) : ∀ u ∈ iv l, u.oneCell' = true := by
  intro u hu; simp only [iv, List.mem_map] at hu; obtain ⟨_, _, rfl⟩ := hu; rfl
/-- A page in memory. -/
structure PV where
  A : Option Addr
  c : Nat
  d : List UInt8
def PV.v (x : PV) : Value := .slice x.A x.d.length x.c
def pv (l : List PV) : List Value := l.map PV.v
theorem pv_len (l : List PV) : (pv l).length = l.length := by simp [pv]
theorem pv_one (l : List PV) : ∀ u ∈ pv l, u.oneCell' = true := by
  intro u hu; simp only [pv, List.mem_map] at hu; obtain ⟨_, _, rfl⟩ := hu; rfl
structure Pr (w : World) (A : Option Addr) (n c : Nat) (l : List PV) : Prop where
  row : Rd w 1 A n c (pv l)
  dat : ∀ x ∈ l, Rd w 1 x.A x.d.length x.c (bv x.d)
theorem Pr.below {w w' : World} {A : Option Addr} {n c : Nat} {l : List PV} (h : Pr w A n c l) (hb : Below w.heap.size w w') : Pr w' A n c l := ⟨h.row.below hb, fun x hx => (h.dat x hx).below hb⟩
theorem Pr.len {w : World} {A : Option Addr} {n c : Nat} {l : List PV} (h : Pr w A n c l) : n = l.length := by
  have := h.row.len; rw [pv_len] at this; omega
/-- A file in memory. -/
structure FV where
  PA : Option Addr
  pc : Nat
  ps : List PV
  root : Int
  FA : Option Addr
  fc : Nat
  free : List Int
structure Fi where
  pg : List (List UInt8)
  root : Int
  free : List Int
def FV.f (f : FV) : Fi := ⟨f.ps.map PV.d, f.root, f.free⟩
def FV.cs (f : FV) : List Value := [.slice f.PA f.ps.length f.pc, .int .i64 f.root, .slice f.FA f.free.length f.fc]
def FV.val (f : FV) : Value := .agg #[.slice f.PA f.ps.length f.pc, .int .i64 f.root, .slice f.FA f.free.length f.fc]
structure Fl (w : World) (f : FV) : Prop where
  pg : Pr w f.PA f.ps.length f.pc f.ps
  fr : Rd w 1 f.FA f.free.length f.fc (iv f.free)
theorem Fl.below {w w' : World} {f : FV} (h : Fl w f) (hb : Below w.heap.size w w') : Fl w' f := ⟨h.pg.below hb, h.fr.below hb⟩
/-- The numbers of free pages are as described. -/
def FrOk (n : Nat) (root : Int) (l : List Int) : Prop := ∀ (i : Nat) (x : Int), l[i]? = some x → 0 ≤ x ∧ x < n ∧ (∀ y, 0 < i → l[i - 1]? = some y → y < x) ∧ x ≠ root
structure Shp (F : Fi) : Prop where
  n4 : F.pg.length ≤ 4096
  r1 : -1 ≤ F.root
  r2 : F.root < F.pg.length
  p256 : ∀ p ∈ F.pg, p.length = 256
  fr : FrOk F.pg.length F.root F.free

section
variable {w : World} {A : Option Addr} {n c j : Nat}
theorem Rd.at1 {α : Type} {val : α → Value} {l : List α} (h : Rd w 1 A n c (l.map val)) (hj : j < n) : ∃ g o x, A = some ⟨g, o, none⟩ ∧ g < w.heap.size ∧ l[j]? = some x ∧ w.cell? ⟨g, o + j, none⟩ = some (val x) := by
  obtain ⟨g, o, e, hb, hc⟩ := h.at_ (by omega)
  have hl := h.len
  rw [List.length_map] at hl
  have hx : l[j]? = some (l[j]'(by omega)) := List.getElem?_eq_getElem (by omega)
  exact ⟨g, o, _, e, hb, hx, by rw [hc j (by omega), List.getElem?_map, hx]; rfl⟩
end
/-- The index of the first one, or -1. -/
def Ix (w : World) (b : Bool) (e : Ending) (w' : World) : Prop := ∃ i : Int, e = .returned (.int .i64 i) ∧ (b = true → 0 ≤ i) ∧ (b = false → i = -1) ∧ Below w.heap.size w w'
theorem Ix.t {w w' : World} {b : Bool} {i : Int} {e : Ending} (hb : b = true) (he : e = .returned (.int .i64 i)) (h : 0 ≤ i) (hw : Below w.heap.size w w') : Ix w b e w' := ⟨i, he, fun _ => h, (fun h => by rw [hb] at h; cases h), hw⟩
theorem Ix.f {w w' : World} {b : Bool} {e : Ending} (hb : b = false) (he : e = .returned (.int .i64 (-1))) (hw : Below w.heap.size w w') : Ix w b e w' := ⟨-1, he, (fun h => by rw [hb] at h; cases h), fun _ => rfl, hw⟩
theorem shapes_any_ix {α : Type} (val : α → Value) (p : α → Bool) {A : Option Addr} {n c : Nat} {l : List α}  (w : World) (h : Hid (Rd w 1 A n c (l.map val)))
    (hf : Hid (∀ U, Below w.heap.size w U → ∀ x ∈ l, Calls Tryd.prog 66 #[val x] U fun e w' => e = .returned (.bool (p x)) ∧ Below U.heap.size U w')) :
    Calls Tryd.prog 44 #[.slice A n c, .func (.func 66) #[] #[]] w (Ix w (l.any p)) := by
  have hnc := h.out.nc
  have hc63 := h.out.c63
  go_enter Tryd.func44, Tryd.ntmps44
  go_wp2_with fail
  go_loopw [8] (fun i wr => ∃ j : Nat, j ≤ n ∧ i = .int .i64 j ∧ Below w.heap.size w wr ∧ Hid ((l.take j).any p = false)) (fun i _ => (n - intOf i).toNat)
  case atStart => exact ⟨0, by omega, rfl, Below.refl _ _, Lib.hid rfl⟩
  case round =>
    obtain ⟨j, hj, rfl, bw, hpre⟩ := hrel
    by_cases hlt : j < n
    · obtain ⟨g, o, x, rfl, hg, hx, hc⟩ := Rd.at1 (Rd.below h.out bw) hlt
      have HX := Lib.hid hx
      have HM := Lib.hid (List.mem_of_getElem? hx)
      clear hx
      go_wp2_with fail
      go_at_call 66
      refine (hf.out _ bw x HM.out).mono ?_
      rintro e w1 ⟨rfl, hb1⟩
      have bw1 : Below w.heap.size w w1 := bel_step bw hb1 (Nat.le_refl _)
      clear hb1
      rcases hs : p x with _ | _
      · have hp2 : Hid ((l.take (j + 1)).any p = false) := Lib.hid (by
          rw [List.take_add_one, List.any_append, hpre.out, HX.out, Bool.false_or]; simpa using hs)
        clear hs
        go_wp2_with fail
        go_roundw
        case rel => exact ⟨j + 1, by omega, by go_num, bw1, hp2⟩
        case measure => simp [intOf]; omega
      · have R : Hid (l.any p = true) := Lib.hid (List.any_eq_true.2 ⟨x, HM.out, hs⟩)
        clear hs
        go_wp2_with fail
        go_ret
        exact Ix.t R.out rfl (by omega) bw1
    · obtain rfl : j = n := by omega
      have R : Hid (l.any p = false) := Lib.hid (by
        have h1 := hpre.out
        rwa [List.take_of_length_le (by have := h.out.len; rw [List.length_map] at this; omega)] at h1)
      go_wp2_with fail
      go_ret
      exact Ix.f R.out rfl bw
theorem shapes_any {α : Type} (val : α → Value) (p : α → Bool) {A : Option Addr} {n c : Nat} {l : List α}  (w : World) (h : Hid (Rd w 1 A n c (l.map val)))
    (hf : Hid (∀ U, Below w.heap.size w U → ∀ x ∈ l, Calls Tryd.prog 66 #[val x] U fun e w' => e = .returned (.bool (p x)) ∧ Below U.heap.size U w')) :
    Calls Tryd.prog 14 #[.slice A n c, .func (.func 66) #[] #[]] w fun e w' => e = .returned (.bool (l.any p)) ∧ Below w.heap.size w w' := by
  go_enter Tryd.func14, Tryd.ntmps14
  go_wp2_with fail
  go_at_call 44
  refine (shapes_any_ix val p _ h hf).mono ?_
  rintro e w1 ⟨i, rfl, i1, i2, hb1⟩
  rcases hs : l.any p with _ | _
  · have hi : i = -1 := i2 hs
    subst hi
    have HS := Lib.hid hs
    clear hs i1 i2
    go_wp2_with fail
    go_ret
    exact ⟨ret_bool (by rw [HS.out]), hb1⟩
  · have hi : 0 ≤ i := i1 hs
    have HS := Lib.hid hs
    clear hs i1 i2
    go_wp2_with fail
    go_ret
    exact ⟨ret_bool (by rw [HS.out]), hb1⟩
end Go.Proofs.YtphiblmkgbkdmaaDoor.Pg
