/- Walks: slices.Grow of nothing, slices.Concat of items. -/
import Derived.Test.YtphiblmkgbkdmaaDoorPgX1
import Derived.Lib.AppendZeros
namespace Go.Proofs.YtphiblmkgbkdmaaDoor.Pg
set_option linter.unusedVariables false
set_option linter.unusedSimpArgs false
open Go.RowKit Wl

/-- A list of items in memory. -/
structure LV where
  A : Option Addr
  c : Nat
  l : List IV
def LV.v (x : LV) : Value := .slice x.A x.l.length x.c
def sumL (l : List LV) : Nat := (l.map fun x => x.l.length).sum
theorem sumL_take {l : List LV} {k : Nat} {x : LV} (h : l[k]? = some x) : sumL (l.take (k + 1)) = sumL (l.take k) + x.l.length := by
  rw [List.take_add_one, h]; simp [sumL]
theorem sumL_le (l : List LV) (k : Nat) : sumL (l.take k) ≤ sumL l := by
  have : sumL l = sumL (l.take k) + sumL (l.drop k) := by
    have e := congrArg sumL (List.take_append_drop k l)
    unfold sumL at e ⊢
    rw [← e, List.map_append, List.sum_append]
  omega
def joinL (l : List LV) : List IV := (l.map LV.l).flatten
theorem joinL_take {l : List LV} {k : Nat} {x : LV} (h : l[k]? = some x) : joinL (l.take (k + 1)) = joinL (l.take k) ++ x.l := by
  rw [List.take_add_one, h]; simp [joinL]
theorem joinL_len (l : List LV) : (joinL l).length = sumL l := by
  unfold joinL sumL
  induction l with
  | nil => rfl
  | cons x l ih => simp [ih]
set_option maxRecDepth 20000 in
theorem Grow_nil (N : Nat) (w : World) (hN : N ≤ 100000) :
    Calls Tryd.prog 87 #[.slice none 0 0, .int .i64 (N : Int)] w fun e w' => ∃ A c, e = .returned (.slice A 0 c) ∧ Hid (w'.ownsRow w.heap.size 86 3 (.slice A 0 c) 0 []) ∧ Below w.heap.size w w' := by
  obtain ⟨i0, hi, hz0, hz1, hz2⟩ := info_parts info_item
  rcases Nat.eq_zero_or_pos N with h0 | h0
  · subst h0
    go_enter Tryd.func87, Tryd.ntmps87
    go_wp2
    go_ret
    exact ⟨none, 0, rfl, Lib.hid (World.ownsRow_nil _ _ _ _), Below.refl _ _⟩
  · have happ := Lib.run_append_nil_zeros (P := Tryd.prog) w 80 3 80 86 i0 (.agg #[.slice none 0 0, .slice none 0 0, .int .i64 0]) .i64 .i64 Tryd.underlying80 Tryd.underlying3 hi hz0 N h0 (by rw [hz1]; decide) (by omega) (by rw [hz2]; omega)
    generalize hcap : grownCap w N 0 86 = cap2 at happ
    have hcapge : N ≤ cap2 := by rw [← hcap]; exact grownCap_ge w _ 0 _
    have hcaple : cap2 ≤ maxLen := by rw [← hcap]; exact grownCap_le_maxLen w _ 0 _ (by unfold maxLen; omega)
    generalize hZ : (Builtin.zeroCells (Value.agg #[.slice none 0 0, .slice none 0 0, .int .i64 0]).cells N ++ Builtin.zeroCells (Value.agg #[.slice none 0 0, .slice none 0 0, .int .i64 0]).cells (cap2 - N)) = Z at happ
    have hZs : Z.size = cap2 * 3 := by rw [← hZ]; simp [size_zeroCells, Value.cells]; omega
    have O : Hid ((w.drew.alloc (.cells Z 86)).ownsRow w.heap.size 86 3 (.slice (some ⟨w.heap.size, 0, none⟩) 0 cap2) 0 []) := Lib.hid ⟨by simp, .inr ⟨w.heap.size, cap2, Z, rfl, Nat.le_refl _, heap_alloc_new w.drew _, by omega, hcaple, hZs, by simp⟩⟩
    have hcap63 : cap2 ≤ 9223372036854775807 := by unfold maxLen at hcaple; omega
    have HZ := Lib.hid hZ
    have HCAP := Lib.hid hcap
    clear hZ hcap hZs hcaple
    go_enter Tryd.func87, Tryd.ntmps87
    go_wp2_with (at_builtin; refine Lib.wpList_append_run _ rfl _ _ _ _ rfl _ _ rfl rfl _ _ happ ?_)
    go_ret
    exact ⟨_, cap2, rfl, O, ((Below.refl _ _).drew).alloc (Nat.le_refl _) _⟩
set_option maxRecDepth 20000 in
set_option maxHeartbeats 1600000 in
theorem Concat_any {P n c : Nat} {L : List LV} (w : World) (hr : Hid (Rd w 1 (some ⟨P, 0, none⟩) n c (L.map LV.v))) (hd : Hid (∀ x ∈ L, Rd w 3 x.A x.l.length x.c (ic x.l))) (hs : sumL L ≤ 100000) :
    Calls Tryd.prog 76 #[.slice (some ⟨P, 0, none⟩) n c] w (Mv w 86 3 (sumL L) (ic (joinL L))) := by
  obtain ⟨i0, hi, hz0, hz1, hz2⟩ := info_parts info_item
  have hnc := hr.out.nc
  have hc63 := hr.out.c63
  have HN : Hid (n = L.length) := Lib.hid (by have := hr.out.len; rw [List.length_map] at this; omega)
  go_enter Tryd.func76, Tryd.ntmps76
  go_wp2_with fail
  go_loopw [3, 11] (fun sv iv wr => ∃ j : Nat, j ≤ n ∧ iv = .int .i64 j ∧ sv = .int .i64 (sumL (L.take j) : Nat) ∧ w = wr) (fun _ iv _ => (n - intOf iv).toNat)
  case atStart => exact ⟨0, by omega, rfl, rfl, rfl⟩
  case round =>
    obtain ⟨j, hj, rfl, rfl, rfl⟩ := hrel
    have hsl := sumL_le L j
    obtain ⟨s, hs'⟩ : ∃ s, sumL (L.take j) = s := ⟨_, rfl⟩
    rw [hs'] at hsl ⊢
    have HS := Lib.hid hs'
    clear hs'
    by_cases hlt : j < n
    · obtain ⟨g, o, x, e, hg, hx, hcell⟩ := Rd.at1 hr.out hlt
      injection e with e; injection e with e1 e2; subst e1 e2
      unfold LV.v at hcell
      rw [Nat.zero_add] at hcell
      obtain ⟨xn, hxn⟩ : ∃ xn, x.l.length = xn := ⟨_, rfl⟩
      rw [hxn] at hcell
      have HT : Hid (sumL (L.take (j + 1)) = s + xn) := Lib.hid (by rw [sumL_take hx, HS.out, hxn])
      have hT2 : s + xn ≤ 100000 := by have := sumL_le L (j + 1); rw [HT.out] at this; omega
      clear hx hxn
      go_wp2_with fail
      go_roundw
      case rel => exact ⟨j + 1, by omega, by go_num, by rw [HT.out]; go_num, by first | trivial | rfl⟩
      case measure => simp [intOf]; omega
    · obtain rfl : n = j := by omega
      have HSS : Hid (sumL L = s) := Lib.hid (by rw [← HS.out, List.take_of_length_le (by have := HN.out; omega)])
      go_wp2_with fail
      go_at_call 87
      refine (Grow_nil s _ (by omega)).mono ?_
      rintro e w1 ⟨A1, c1, rfl, own1, b1⟩
      have hr1 := Lib.hid (Rd.below hr.out b1)
      go_wp2_with fail
      go_loopw [6, 27] (fun ov iv wr => ∃ (k m : Nat) (A : Option Addr) (cc : Nat), k ≤ n ∧ iv = .int .i64 k ∧ ov = .slice A m cc ∧ Hid (m = sumL (L.take k)) ∧ Hid (wr.ownsRow w.heap.size 86 3 (.slice A m cc) m (ic (joinL (L.take k)))) ∧ Below w.heap.size w wr) (fun _ iv _ => (n - intOf iv).toNat)
      case atStart => exact ⟨0, 0, A1, c1, by omega, rfl, rfl, Lib.hid rfl, own1, b1⟩
      case round =>
        obtain ⟨k, m, A, cc, hk, rfl, rfl, hm, own, bw⟩ := hrel
        have hm1 : m ≤ 100000 := by have := hm.out; have := sumL_le L k; omega
        by_cases hlt : k < n
        · obtain ⟨g, o, x, e, hg, hx, hcell⟩ := Rd.at1 (Rd.below hr.out bw) hlt
          injection e with e; injection e with e1 e2; subst e1 e2
          unfold LV.v at hcell
          rw [Nat.zero_add] at hcell
          have hxd := Lib.hid (Rd.below (hd.out x (List.mem_of_getElem? hx)) bw)
          obtain ⟨xn, hxn⟩ : ∃ xn, x.l.length = xn := ⟨_, rfl⟩
          rw [hxn] at hcell hxd
          have HT : Hid (sumL (L.take (k + 1)) = m + xn) := Lib.hid (by rw [sumL_take hx, hm.out, hxn])
          have HJ := Lib.hid (joinL_take hx)
          have hT2 : m + xn ≤ 100000 := by have := sumL_le L (k + 1); rw [HT.out] at this; omega
          have hbw : w.heap.size ≤ wr.heap.size := bw.size
          clear hx hxn
          go_wp2_with (at_builtin; apply hold)
          unfold Hold
          refine wpList_app _ rfl (.tmp 31) (.tmp 32) 80 rfl w.heap.size 86 i0 (.agg #[.slice none 0 0, .slice none 0 0, .int .i64 0]) 3 56 Tryd.underlying80 hi hz0 hz1 hz2 rfl (by omega) (by rfl) own.out (by rfl) hxd.out (ic_one _) (by omega) (by omega) hbw ?_
          intro A5 c5 W5 own5 g5
          rw [← ic_app] at own5
          have own5 := Lib.hid own5
          have b5 : Below w.heap.size w W5 := g5.low bw hbw fun q e => (own_blk_le own.out e).1
          clear g5
          go_wp2_with fail
          go_roundw
          case rel => exact ⟨k + 1, m + xn, A5, c5, by omega, by go_num, rfl, Lib.hid HT.out.symm, by rw [HJ.out]; exact own5, b5⟩
          case measure => simp [intOf]; omega
        · obtain rfl : n = k := by omega
          have HM : Hid (m = sumL L) := Lib.hid (by rw [hm.out, List.take_of_length_le (by have := HN.out; omega)])
          have own : Hid (wr.ownsRow w.heap.size 86 3 (.slice A m cc) m (ic (joinL L))) := by have h := own.out; rw [List.take_of_length_le (by have := HN.out; omega)] at h; exact Lib.hid h
          go_wp2_with fail
          go_ret
          exact ⟨A, cc, by rw [← HM.out]; rfl, by rw [← HM.out]; exact own, bw⟩
end Go.Proofs.YtphiblmkgbkdmaaDoor.Pg
