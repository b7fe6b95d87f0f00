/- Walks: slices.Concat of bytes and of changes, slices.Clone of changes. -/
import Derived.Test.YtpmkohnljngbhaaDoorSrW1
import Derived.Lib.AppendZeros
namespace Go.Proofs.YtpmkohnljngbhaaDoor.Sr
set_option linter.unusedVariables false
set_option linter.unusedSimpArgs false
set_option maxRecDepth 1000000
open Go.RowKit Wl Pg

def bconc_sum (l : List PV) : Nat := (l.map fun x => x.d.length).sum
theorem bconc_sum_take {l : List PV} {k : Nat} {x : PV} (h : l[k]? = some x) : bconc_sum (l.take (k + 1)) = bconc_sum (l.take k) + x.d.length := by
  rw [List.take_add_one, h]; simp [bconc_sum]
theorem bconc_sum_le (l : List PV) (k : Nat) : bconc_sum (l.take k) ≤ bconc_sum l := by
  have : bconc_sum l = bconc_sum (l.take k) + bconc_sum (l.drop k) := by
    have e := congrArg bconc_sum (List.take_append_drop k l)
    unfold bconc_sum at e ⊢
    rw [← e, List.map_append, List.sum_append]
  omega
def bconc_join (l : List PV) : List UInt8 := (l.map PV.d).flatten
theorem bconc_join_take {l : List PV} {k : Nat} {x : PV} (h : l[k]? = some x) : bconc_join (l.take (k + 1)) = bconc_join (l.take k) ++ x.d := by
  rw [List.take_add_one, h]; simp [bconc_join]
theorem bconc_join_len (l : List PV) : (bconc_join l).length = bconc_sum l := by
  unfold bconc_join bconc_sum
  induction l with
  | nil => rfl
  | cons x l ih => simp [ih]
theorem bconc_grow (N : Nat) (w : World) (hN : N ≤ 100000) :
    Calls Tryd.prog 78 #[.slice none 0 0, .int .i64 (N : Int)] w fun e w' => ∃ A c, e = .returned (.slice A 0 c) ∧ Hid (w'.ownsRow w.heap.size 5 1 (.slice A 0 c) 0 []) ∧ Below w.heap.size w w' := by
  obtain ⟨i0, hi, hz0, hz1, hz2⟩ := info_parts info_byte
  rcases Nat.eq_zero_or_pos N with h0 | h0
  · subst h0
    go_enter Tryd.func78, Tryd.ntmps78
    go_wp2
    go_ret
    exact ⟨none, 0, rfl, Lib.hid (World.ownsRow_nil _ _ _ _), Below.refl _ _⟩
  · have happ := Lib.run_append_nil_zeros (P := Tryd.prog) w 23 3 23 5 i0 (.int .u8 0) .i64 .i64 Tryd.underlying23 Tryd.underlying3 hi hz0 N h0 (by rw [hz1]; decide) (by omega) (by rw [hz2]; omega)
    generalize hcap : grownCap w N 0 5 = cap2 at happ
    have hcapge : N ≤ cap2 := by rw [← hcap]; exact grownCap_ge w _ 0 _
    have hcaple : cap2 ≤ maxLen := by rw [← hcap]; exact grownCap_le_maxLen w _ 0 _ (by unfold maxLen; omega)
    generalize hZ : (Builtin.zeroCells (Value.cells (.int .u8 0)) N ++ Builtin.zeroCells (Value.cells (.int .u8 0)) (cap2 - N)) = Z at happ
    have hZs : Z.size = cap2 * 1 := by rw [← hZ]; simp [size_zeroCells, Value.cells]; omega
    have O : Hid ((w.drew.alloc (.cells Z 5)).ownsRow w.heap.size 5 1 (.slice (some ⟨w.heap.size, 0, none⟩) 0 cap2) 0 []) := Lib.hid ⟨by simp, .inr ⟨w.heap.size, cap2, Z, rfl, Nat.le_refl _, heap_alloc_new w.drew _, by omega, hcaple, hZs, by simp⟩⟩
    have hcap63 : cap2 ≤ 9223372036854775807 := by unfold maxLen at hcaple; omega
    have HZ := Lib.hid hZ
    have HCAP := Lib.hid hcap
    clear hZ hcap hZs hcaple
    go_enter Tryd.func78, Tryd.ntmps78
    go_wp2_with (at_builtin; refine Lib.wpList_append_run _ rfl _ _ _ _ rfl _ _ rfl rfl _ _ happ ?_)
    go_ret
    exact ⟨_, cap2, rfl, O, ((Below.refl _ _).drew).alloc (Nat.le_refl _) _⟩
set_option maxHeartbeats 1600000 in
theorem bconc {B : Option Addr} {n c : Nat} {L : List PV} (w : World) (hr : Hid (Rd w 1 B n c (L.map PV.v))) (hd : Hid (∀ x ∈ L, Rd w 1 x.A x.d.length x.c (bv x.d))) (hs : bconc_sum L ≤ 100000) :
    Calls Tryd.prog 63 #[.slice B n c] w (Mv w 5 1 (bconc_sum L) (bv (bconc_join L))) := by
  obtain ⟨i0, hi, hz0, hz1, hz2⟩ := info_parts info_byte
  have hnc := hr.out.nc
  have hc63 := hr.out.c63
  have HN : Hid (n = L.length) := Lib.hid (by have := hr.out.len; rw [List.length_map] at this; omega)
  go_enter Tryd.func63, Tryd.ntmps63
  go_wp2_with fail
  go_loopw [3, 11] (fun sv iv wr => ∃ j : Nat, j ≤ n ∧ iv = .int .i64 j ∧ sv = .int .i64 (bconc_sum (L.take j) : Nat) ∧ w = wr) (fun _ iv _ => (n - intOf iv).toNat)
  case atStart => exact ⟨0, by omega, rfl, rfl, rfl⟩
  case round =>
    obtain ⟨j, hj, rfl, rfl, rfl⟩ := hrel
    have hsl := bconc_sum_le L j
    obtain ⟨s, hs'⟩ : ∃ s, bconc_sum (L.take j) = s := ⟨_, rfl⟩
    rw [hs'] at hsl ⊢
    have HS := Lib.hid hs'
    clear hs'
    by_cases hlt : j < n
    · obtain ⟨g, o, x, rfl, hg, hx, hcell⟩ := Rd.at1 hr.out hlt
      unfold PV.v at hcell
      obtain ⟨xn, hxn⟩ : ∃ xn, x.d.length = xn := ⟨_, rfl⟩
      rw [hxn] at hcell
      have HT : Hid (bconc_sum (L.take (j + 1)) = s + xn) := Lib.hid (by rw [bconc_sum_take hx, HS.out, hxn])
      have hT2 : s + xn ≤ 100000 := by have := bconc_sum_le L (j + 1); rw [HT.out] at this; omega
      clear hx hxn
      go_wp2_with fail
      go_roundw
      case rel => exact ⟨j + 1, by omega, by go_num, by rw [HT.out]; go_num, by first | trivial | rfl⟩
      case measure => simp [intOf]; omega
    · obtain rfl : n = j := by omega
      have HSS : Hid (bconc_sum L = s) := Lib.hid (by rw [← HS.out, List.take_of_length_le (by have := HN.out; omega)])
      go_wp2_with fail
      go_at_call 78
      refine (bconc_grow s _ (by omega)).mono ?_
      rintro e w1 ⟨A1, c1, rfl, own1, b1⟩
      have hr1 := Lib.hid (Rd.below hr.out b1)
      go_wp2_with fail
      go_loopw [6, 27] (fun ov iv wr => ∃ (k m : Nat) (A : Option Addr) (cc : Nat), k ≤ n ∧ iv = .int .i64 k ∧ ov = .slice A m cc ∧ Hid (m = bconc_sum (L.take k)) ∧ Hid (wr.ownsRow w.heap.size 5 1 (.slice A m cc) m (bv (bconc_join (L.take k)))) ∧ Below w.heap.size w wr) (fun _ iv _ => (n - intOf iv).toNat)
      case atStart => exact ⟨0, 0, A1, c1, by omega, rfl, rfl, Lib.hid rfl, own1, b1⟩
      case round =>
        obtain ⟨k, m, A, cc, hk, rfl, rfl, hm, own, bw⟩ := hrel
        have hm1 : m ≤ 100000 := by have := hm.out; have := bconc_sum_le L k; omega
        by_cases hlt : k < n
        · obtain ⟨g, o, x, rfl, hg, hx, hcell⟩ := Rd.at1 (Rd.below hr.out bw) hlt
          unfold PV.v at hcell
          have hxd := Lib.hid (Rd.below (hd.out x (List.mem_of_getElem? hx)) bw)
          obtain ⟨xn, hxn⟩ : ∃ xn, x.d.length = xn := ⟨_, rfl⟩
          rw [hxn] at hcell hxd
          have HT : Hid (bconc_sum (L.take (k + 1)) = m + xn) := Lib.hid (by rw [bconc_sum_take hx, hm.out, hxn])
          have HJ := Lib.hid (bconc_join_take hx)
          have hT2 : m + xn ≤ 100000 := by have := bconc_sum_le L (k + 1); rw [HT.out] at this; omega
          have hbw : w.heap.size ≤ wr.heap.size := bw.size
          clear hx hxn
          go_wp2_with (at_builtin; apply hold)
          unfold Hold
          refine wpList_app _ rfl (.tmp 31) (.tmp 32) 23 rfl w.heap.size 5 i0 (.int .u8 0) 1 1 Tryd.underlying23 hi hz0 hz1 hz2 rfl (by omega) (by rfl) own.out (by rfl) hxd.out (bv_one _) (by omega) (by omega) hbw ?_
          intro A5 c5 W5 own5 g5
          rw [← bv_app] at own5
          have own5 := Lib.hid own5
          have b5 : Below w.heap.size w W5 := g5.low bw hbw fun q e => (own_blk_le own.out e).1
          clear g5
          go_wp2_with fail
          go_roundw
          case rel => exact ⟨k + 1, m + xn, A5, c5, by omega, by go_num, rfl, Lib.hid HT.out.symm, by rw [HJ.out]; exact own5, b5⟩
          case measure => simp [intOf]; omega
        · obtain rfl : n = k := by omega
          have HM : Hid (m = bconc_sum L) := Lib.hid (by rw [hm.out, List.take_of_length_le (by have := HN.out; omega)])
          have own : Hid (wr.ownsRow w.heap.size 5 1 (.slice A m cc) m (bv (bconc_join L))) := by have h := own.out; rw [List.take_of_length_le (by have := HN.out; omega)] at h; exact Lib.hid h
          go_wp2_with fail
          go_ret
          exact ⟨A, cc, by rw [← HM.out]; rfl, by rw [← HM.out]; exact own, bw⟩
def cconc_sum (l : List XV) : Nat := (l.map fun x => x.l.length).sum
theorem cconc_sum_take {l : List XV} {k : Nat} {x : XV} (h : l[k]? = some x) : cconc_sum (l.take (k + 1)) = cconc_sum (l.take k) + x.l.length := by
  rw [List.take_add_one, h]; simp [cconc_sum]
theorem cconc_sum_le (l : List XV) (k : Nat) : cconc_sum (l.take k) ≤ cconc_sum l := by
  have : cconc_sum l = cconc_sum (l.take k) + cconc_sum (l.drop k) := by
    have e := congrArg cconc_sum (List.take_append_drop k l)
    unfold cconc_sum at e ⊢
    rw [← e, List.map_append, List.sum_append]
  omega
def cconc_join (l : List XV) : List CV := (l.map XV.l).flatten
theorem cconc_join_take {l : List XV} {k : Nat} {x : XV} (h : l[k]? = some x) : cconc_join (l.take (k + 1)) = cconc_join (l.take k) ++ x.l := by
  rw [List.take_add_one, h]; simp [cconc_join]
theorem cconc_join_len (l : List XV) : (cconc_join l).length = cconc_sum l := by
  unfold cconc_join cconc_sum
  induction l with
  | nil => rfl
  | cons x l ih => simp [ih]
theorem cconc_grow (N : Nat) (w : World) (hN : N ≤ 100000) :
    Calls Tryd.prog 77 #[.slice none 0 0, .int .i64 (N : Int)] w fun e w' => ∃ A c, e = .returned (.slice A 0 c) ∧ Hid (w'.ownsRow w.heap.size 45 3 (.slice A 0 c) 0 []) ∧ Below w.heap.size w w' := by
  obtain ⟨i0, hi, hz0, hz1, hz2⟩ := info_parts info_change
  rcases Nat.eq_zero_or_pos N with h0 | h0
  · subst h0
    go_enter Tryd.func77, Tryd.ntmps77
    go_wp2
    go_ret
    exact ⟨none, 0, rfl, Lib.hid (World.ownsRow_nil _ _ _ _), Below.refl _ _⟩
  · have happ := Lib.run_append_nil_zeros (P := Tryd.prog) w 36 3 36 45 i0 (.agg #[.slice none 0 0, .slice none 0 0, .bool false]) .i64 .i64 Tryd.underlying36 Tryd.underlying3 hi hz0 N h0 (by rw [hz1]; decide) (by omega) (by rw [hz2]; omega)
    generalize hcap : grownCap w N 0 45 = cap2 at happ
    have hcapge : N ≤ cap2 := by rw [← hcap]; exact grownCap_ge w _ 0 _
    have hcaple : cap2 ≤ maxLen := by rw [← hcap]; exact grownCap_le_maxLen w _ 0 _ (by unfold maxLen; omega)
    generalize hZ : (Builtin.zeroCells (Value.cells (.agg #[.slice none 0 0, .slice none 0 0, .bool false])) N ++ Builtin.zeroCells (Value.cells (.agg #[.slice none 0 0, .slice none 0 0, .bool false])) (cap2 - N)) = Z at happ
    have hZs : Z.size = cap2 * 3 := by rw [← hZ]; simp [size_zeroCells, Value.cells]; omega
    have O : Hid ((w.drew.alloc (.cells Z 45)).ownsRow w.heap.size 45 3 (.slice (some ⟨w.heap.size, 0, none⟩) 0 cap2) 0 []) := Lib.hid ⟨by simp, .inr ⟨w.heap.size, cap2, Z, rfl, Nat.le_refl _, heap_alloc_new w.drew _, by omega, hcaple, hZs, by simp⟩⟩
    have hcap63 : cap2 ≤ 9223372036854775807 := by unfold maxLen at hcaple; omega
    have HZ := Lib.hid hZ
    have HCAP := Lib.hid hcap
    clear hZ hcap hZs hcaple
    go_enter Tryd.func77, Tryd.ntmps77
    go_wp2_with (at_builtin; refine Lib.wpList_append_run _ rfl _ _ _ _ rfl _ _ rfl rfl _ _ happ ?_)
    go_ret
    exact ⟨_, cap2, rfl, O, ((Below.refl _ _).drew).alloc (Nat.le_refl _) _⟩
set_option maxHeartbeats 1600000 in
theorem cconc {B : Option Addr} {n c : Nat} {L : List XV} (w : World) (hr : Hid (Rd w 1 B n c (L.map XV.v))) (hd : Hid (∀ x ∈ L, Rd w 3 x.A x.l.length x.c (cvs x.l))) (hs : cconc_sum L ≤ 100000) :
    Calls Tryd.prog 59 #[.slice B n c] w (Mv w 45 3 (cconc_sum L) (cvs (cconc_join L))) := by
  obtain ⟨i0, hi, hz0, hz1, hz2⟩ := info_parts info_change
  have hnc := hr.out.nc
  have hc63 := hr.out.c63
  have HN : Hid (n = L.length) := Lib.hid (by have := hr.out.len; rw [List.length_map] at this; omega)
  go_enter Tryd.func59, Tryd.ntmps59
  go_wp2_with fail
  go_loopw [3, 11] (fun sv iv wr => ∃ j : Nat, j ≤ n ∧ iv = .int .i64 j ∧ sv = .int .i64 (cconc_sum (L.take j) : Nat) ∧ w = wr) (fun _ iv _ => (n - intOf iv).toNat)
  case atStart => exact ⟨0, by omega, rfl, rfl, rfl⟩
  case round =>
    obtain ⟨j, hj, rfl, rfl, rfl⟩ := hrel
    have hsl := cconc_sum_le L j
    obtain ⟨s, hs'⟩ : ∃ s, cconc_sum (L.take j) = s := ⟨_, rfl⟩
    rw [hs'] at hsl ⊢
    have HS := Lib.hid hs'
    clear hs'
    by_cases hlt : j < n
    · obtain ⟨g, o, x, rfl, hg, hx, hcell⟩ := Rd.at1 hr.out hlt
      unfold XV.v at hcell
      obtain ⟨xn, hxn⟩ : ∃ xn, x.l.length = xn := ⟨_, rfl⟩
      rw [hxn] at hcell
      have HT : Hid (cconc_sum (L.take (j + 1)) = s + xn) := Lib.hid (by rw [cconc_sum_take hx, HS.out, hxn])
      have hT2 : s + xn ≤ 100000 := by have := cconc_sum_le L (j + 1); rw [HT.out] at this; omega
      clear hx hxn
      go_wp2_with fail
      go_roundw
      case rel => exact ⟨j + 1, by omega, by go_num, by rw [HT.out]; go_num, by first | trivial | rfl⟩
      case measure => simp [intOf]; omega
    · obtain rfl : n = j := by omega
      have HSS : Hid (cconc_sum L = s) := Lib.hid (by rw [← HS.out, List.take_of_length_le (by have := HN.out; omega)])
      go_wp2_with fail
      go_at_call 77
      refine (cconc_grow s _ (by omega)).mono ?_
      rintro e w1 ⟨A1, c1, rfl, own1, b1⟩
      have hr1 := Lib.hid (Rd.below hr.out b1)
      go_wp2_with fail
      go_loopw [6, 27] (fun ov iv wr => ∃ (k m : Nat) (A : Option Addr) (cc : Nat), k ≤ n ∧ iv = .int .i64 k ∧ ov = .slice A m cc ∧ Hid (m = cconc_sum (L.take k)) ∧ Hid (wr.ownsRow w.heap.size 45 3 (.slice A m cc) m (cvs (cconc_join (L.take k)))) ∧ Below w.heap.size w wr) (fun _ iv _ => (n - intOf iv).toNat)
      case atStart => exact ⟨0, 0, A1, c1, by omega, rfl, rfl, Lib.hid rfl, own1, b1⟩
      case round =>
        obtain ⟨k, m, A, cc, hk, rfl, rfl, hm, own, bw⟩ := hrel
        have hm1 : m ≤ 100000 := by have := hm.out; have := cconc_sum_le L k; omega
        by_cases hlt : k < n
        · obtain ⟨g, o, x, rfl, hg, hx, hcell⟩ := Rd.at1 (Rd.below hr.out bw) hlt
          unfold XV.v at hcell
          have hxd := Lib.hid (Rd.below (hd.out x (List.mem_of_getElem? hx)) bw)
          obtain ⟨xn, hxn⟩ : ∃ xn, x.l.length = xn := ⟨_, rfl⟩
          rw [hxn] at hcell hxd
          have HT : Hid (cconc_sum (L.take (k + 1)) = m + xn) := Lib.hid (by rw [cconc_sum_take hx, hm.out, hxn])
          have HJ := Lib.hid (cconc_join_take hx)
          have hT2 : m + xn ≤ 100000 := by have := cconc_sum_le L (k + 1); rw [HT.out] at this; omega
          have hbw : w.heap.size ≤ wr.heap.size := bw.size
          clear hx hxn
          go_wp2_with (at_builtin; apply hold)
          unfold Hold
          refine wpList_app _ rfl (.tmp 31) (.tmp 32) 36 rfl w.heap.size 45 i0 (.agg #[.slice none 0 0, .slice none 0 0, .bool false]) 3 56 Tryd.underlying36 hi hz0 hz1 hz2 rfl (by omega) (by rfl) own.out (by rfl) hxd.out (cvs_one _) (by omega) (by omega) hbw ?_
          intro A5 c5 W5 own5 g5
          rw [← cvs_app] at own5
          have own5 := Lib.hid own5
          have b5 : Below w.heap.size w W5 := g5.low bw hbw fun q e => (own_blk_le own.out e).1
          clear g5
          go_wp2_with fail
          go_roundw
          case rel => exact ⟨k + 1, m + xn, A5, c5, by omega, by go_num, rfl, Lib.hid HT.out.symm, by rw [HJ.out]; exact own5, b5⟩
          case measure => simp [intOf]; omega
        · obtain rfl : n = k := by omega
          have HM : Hid (m = cconc_sum L) := Lib.hid (by rw [hm.out, List.take_of_length_le (by have := HN.out; omega)])
          have own : Hid (wr.ownsRow w.heap.size 45 3 (.slice A m cc) m (cvs (cconc_join L))) := by have h := own.out; rw [List.take_of_length_le (by have := HN.out; omega)] at h; exact Lib.hid h
          go_wp2_with fail
          go_ret
          exact ⟨A, cc, by rw [← HM.out]; rfl, by rw [← HM.out]; exact own, bw⟩
theorem cclone_any {B : Option Addr} {m d : Nat} {xs : List Value} (w : World) (hd : Hid (Rd w 3 B m d xs)) (h1 : ∀ u ∈ xs, u.oneCell' = true) (hm : m ≤ 1073741824) :
    Calls Tryd.prog 60 #[.slice B m d] w (Mv w 45 3 m xs) := by
  obtain ⟨i0, hi, hz0, hz1, hz2⟩ := info_parts info_change
  rcases B with _ | a
  · obtain rfl : d = 0 := hd.out.nil rfl
    obtain rfl : m = 0 := by have := hd.out.nc; omega
    have q22 := fun w : World => Lib.run_eql_slice_nil (P := Tryd.prog) w 36 45 none 0 0 0 0 Tryd.underlying36
    have hl : Hid (xs = []) := Lib.hid (List.eq_nil_of_length_eq_zero (by have := hd.out.len; omega))
    go_enter Tryd.func60, Tryd.ntmps60
    go_wp2
    go_ret
    exact ⟨none, 0, rfl, Lib.hid (by rw [hl.out]; exact World.ownsRow_nil _ _ _ _), Below.refl _ _⟩
  · have q22 := fun w : World => Lib.run_eql_slice_nil (P := Tryd.prog) w 36 45 (some a) m d 0 0 Tryd.underlying36
    go_enter Tryd.func60, Tryd.ntmps60
    go_wp2_with (at_builtin; refine wpList_app _ rfl (.tmp 5) (.tmp 6) 36 rfl w.heap.size 45 i0 (.agg #[.slice none 0 0, .slice none 0 0, .bool false]) 3 56 Tryd.underlying36 hi hz0 hz1 hz2 rfl (by omega) (by rfl) (own_lit w _ 3 #[] 0 (Nat.le_refl _) (by unfold maxLen; omega) rfl) (by rfl) (hd.out.alloc _) h1 (by omega) (by omega) (by simp) ?_; intro A1 c1 w1 own1 g1)
    go_ret
    rw [Nat.zero_add] at own1
    exact ⟨A1, c1, rfl, Lib.hid own1, g1.low ((Below.refl _ _).alloc (Nat.le_refl _) _) (by simp) (fun g e => by simp [blk] at e; omega)⟩
end Go.Proofs.YtpmkohnljngbhaaDoor.Sr
