/- Walks: lists of records compared; great. -/
import Derived.Test.YtfkeedeiafegiaaWalW10
import Derived.Test.YtfkeedeiafegiaaWalMem2
namespace Go.Proofs.Ytfkeedeiafegiaa.Wl
set_option linter.unusedVariables false
set_option linter.unusedSimpArgs false
open Go.RowKit

theorem Rr.rec_ {w : World} {A : Option Addr} {n c i : Nat} {l : List RV} (h : Rr w A n c l) (hi : i < n) : ∃ g o x, A = some ⟨g, o, none⟩ ∧ g < w.heap.size ∧ l[i]? = some x ∧ x ∈ l ∧
    w.cell? ⟨g, o + i * 3, none⟩ = some (.int .i64 x.k) ∧ w.cell? ⟨g, o + i * 3 + 1, none⟩ = some (.int .i64 x.t) ∧ w.cell? ⟨g, o + i * 3 + 2, none⟩ = some (.slice x.A x.d.length x.c) := by
  obtain ⟨g, o, e, hb, hc⟩ := h.row.at_ (by omega)
  have hl := h.len
  have hx : l[i]? = some (l[i]'(by omega)) := List.getElem?_eq_getElem (by omega)
  obtain ⟨c0, c1, c2⟩ := cells_get l i _ hx
  refine ⟨g, o, _, e, hb, hx, List.getElem_mem _, ?_, ?_, ?_⟩
  · rw [hc _ (by omega)]; exact c0
  · rw [Nat.add_assoc, hc _ (by omega)]; exact c1
  · rw [Nat.add_assoc, hc _ (by omega)]; exact c2
def eqR : List Rec → List Rec → Bool
  | [], [] => true
  | x :: a, y :: b => sameB x y && eqR a b
  | _, _ => false
theorem eqR_iff : ∀ {a b : List Rec}, eqR a b = true ↔ a = b
  | [], [] => by simp [eqR]
  | [], _ :: _ => by simp [eqR]
  | _ :: _, [] => by simp [eqR]
  | x :: a, y :: b => by rw [eqR, Bool.and_eq_true, sameB_iff, eqR_iff]; simp
theorem eqR_f {a b : List Rec} (h : a ≠ b) : eqR a b = false := by
  rcases h' : eqR a b with _ | _
  · rfl
  · exact absurd (eqR_iff.1 h') h
theorem eqR_self (a : List Rec) : eqR a a = true := eqR_iff.2 rfl
theorem map_at {l : List RV} {i : Nat} {x : RV} (h : l[i]? = some x) : (l.map RV.r)[i]? = some x.r := by rw [List.getElem?_map, h]; rfl
set_option maxHeartbeats 800000 in
theorem EqualFunc_any {A B : Option Addr} {n c m d : Nat} {a b : List RV} (w : World) (h : Hid (Rr w A n c a)) (k : Hid (Rr w B m d b)) :
    Calls Try.prog 51 #[.slice A n c, .slice B m d, .func (.func 52) #[] #[]] w fun e w' => e = .returned (.bool (eqR (a.map RV.r) (b.map RV.r))) ∧ Below w.heap.size w w' := by
  have hnc := h.out.row.nc
  have hc63 := h.out.row.c63
  have hmd := k.out.row.nc
  have hd63 := k.out.row.c63
  by_cases hnm : n = m
  · subst hnm
    go_enter Try.func51, Try.ntmps51
    go_wp2_with fail
    go_loopw [17] (fun i wr => ∃ j : Nat, j ≤ n ∧ i = .int .i64 j ∧ Below w.heap.size w wr ∧ Hid ((a.map RV.r).take j = (b.map RV.r).take j)) (fun i _ => (n - intOf i).toNat)
    case atStart => exact ⟨0, by omega, rfl, Below.refl _ _, Lib.hid rfl⟩
    case round =>
      obtain ⟨j, hj, rfl, bw, hpre⟩ := hrel
      have hz := bw.size
      by_cases hlt : j < n
      · obtain ⟨g, o, x, rfl, hg, hx, hxm, a0, a1, a2⟩ := (h.out.below bw).rec_ hlt
        obtain ⟨g', o', y, rfl, hg', hy, hym, b0, b1, b2⟩ := (k.out.below bw).rec_ hlt
        have hxd := Lib.hid (((h.out.dat x hxm).below bw).alloc (.cells #[.int .i64 x.k, .int .i64 x.t, .slice x.A x.d.length x.c] 24))
        have hyd := Lib.hid (((k.out.dat y hym).below bw).alloc (.cells #[.int .i64 x.k, .int .i64 x.t, .slice x.A x.d.length x.c] 24))
        have hxd := Lib.hid (hxd.out.alloc (.cells #[.int .i64 y.k, .int .i64 y.t, .slice y.A y.d.length y.c] 24))
        have hyd := Lib.hid (hyd.out.alloc (.cells #[.int .i64 y.k, .int .i64 y.t, .slice y.A y.d.length y.c] 24))
        obtain ⟨nx, hnx⟩ : ∃ nx, x.d.length = nx := ⟨_, rfl⟩
        obtain ⟨ny, hny⟩ : ∃ ny, y.d.length = ny := ⟨_, rfl⟩
        rw [hnx] at a2 hxd hyd
        rw [hny] at b2 hxd hyd
        have HNX := Lib.hid hnx.symm
        have HNY := Lib.hid hny.symm
        have HXS := Lib.hid (map_at hx)
        have HYS := Lib.hid (map_at hy)
        clear hnx hny hx hy
        go_wp2_with fail
        go_at_call 52
        refine (same_any x y _ HNX HNY hxd hyd).mono ?_
        rintro e w1 ⟨rfl, hb1⟩
        have bw1 : Below w.heap.size w w1 := bel_step (bel_alloc (bel_alloc bw (Nat.le_refl _) _) (Nat.le_refl _) _) hb1 (Nat.le_refl _)
        clear hb1
        rcases hs : sameB x.r y.r with _ | _
        · have R : Hid (false = eqR (a.map RV.r) (b.map RV.r)) := Lib.hid (by
            symm; apply eqR_f; intro e
            have h1 := HXS.out
            rw [e, HYS.out] at h1
            injection h1 with h1
            rw [← h1, sameB_self] at hs; cases hs)
          clear hs
          go_wp2_with fail
          go_ret
          exact ⟨ret_bool R.out, bw1⟩
        · have hp2 : Hid ((a.map RV.r).take (j + 1) = (b.map RV.r).take (j + 1)) := Lib.hid (by
            rw [List.take_add_one, List.take_add_one, hpre.out, HXS.out, HYS.out, sameB_iff.1 hs])
          clear hs
          go_wp2_with fail
          go_roundw
          case rel => exact ⟨j + 1, by omega, by go_num, bw1, hp2⟩
          case measure => simp [intOf]; omega
      · obtain rfl : j = n := by omega
        have R : Hid (true = eqR (a.map RV.r) (b.map RV.r)) := Lib.hid (by
          symm; apply eqR_iff.2
          have h1 := hpre.out
          rwa [List.take_of_length_le (by rw [List.length_map, ← h.out.len]; omega), List.take_of_length_le (by rw [List.length_map, ← k.out.len]; omega)] at h1)
        go_wp2_with fail
        go_ret
        exact ⟨ret_bool R.out, bw⟩
  · have R : Hid (false = eqR (a.map RV.r) (b.map RV.r)) := Lib.hid (by
      symm; apply eqR_f; intro e
      have := congrArg List.length e
      rw [List.length_map, List.length_map, ← h.out.len, ← k.out.len] at this
      omega)
    have hne : ((n : Int) != (m : Int)) = true := by simp; omega
    go_enter Try.func51, Try.ntmps51
    go_wp2_with fail
    go_ret
    exact ⟨ret_bool R.out, Below.refl _ _⟩
theorem equal_any {A B : Option Addr} {n c m d : Nat} {a b : List RV} (w : World) (h : Hid (Rr w A n c a)) (k : Hid (Rr w B m d b)) :
    Calls Try.prog 21 #[.slice A n c, .slice B m d] w fun e w' => e = .returned (.bool (eqR (a.map RV.r) (b.map RV.r))) ∧ Below w.heap.size w w' := by
  go_enter Try.func21, Try.ntmps21
  go_wp2_with fail
  go_at_call 51
  refine (EqualFunc_any _ h k).mono ?_
  rintro e w1 ⟨rfl, hb1⟩
  go_wp2_with fail
  go_ret
  exact ⟨rfl, hb1⟩
end Go.Proofs.Ytfkeedeiafegiaa.Wl
