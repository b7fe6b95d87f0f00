/- Walks: isKey, isValue, valid; the reference's Key, Value, Valid. -/
import Derived.Test.YtpmkohnljngbhaaDoorSrMem
import Derived.Lib.AppendZeros
import Derived.Deep.RegionHeld3
import Derived.BigRegion
import Derived.Deep.RegionWith
set_option linter.all false
namespace Go.Proofs.YtpmkohnljngbhaaDoor.Sr
set_option linter.unusedVariables false
set_option linter.unusedSimpArgs false
set_option maxRecDepth 1000000
open Go.RowKit Wl Pg

def keyN (n : Nat) : Bool := decide (1 ≤ n ∧ n ≤ 40)
def valN (n : Nat) : Bool := decide (n ≤ 120)
theorem okN_eq (kn vn : Nat) (del : Bool) : okN kn vn del = (keyN kn && valN vn && (!del || decide (vn = 0))) := rfl
theorem isKey_any {A : Option Addr} {n c : Nat} (w : World) : Calls Tryd.prog 39 #[.slice A n c] w fun e w' => e = .returned (.bool (keyN n)) ∧ w = w' := by
  by_cases h1 : 1 ≤ n
  · have d1 : decide ((1 : Int) ≤ (n : Int)) = true := decide_eq_true (by omega)
    have d1' : decide ((n : Int) ≥ 1) = true := decide_eq_true (by omega)
    by_cases h2 : n ≤ 40
    · have d2 : decide ((n : Int) ≤ 40) = true := decide_eq_true (by omega)
      have R : Hid (keyN n = true) := Lib.hid (decide_eq_true ⟨h1, h2⟩)
      go_enter Tryd.func39, Tryd.ntmps39
      go_wp2
      go_ret
      exact ⟨ret_bool R.out.symm, rfl⟩
    · have d2 : decide ((n : Int) ≤ 40) = false := decide_eq_false (by omega)
      have R : Hid (keyN n = false) := Lib.hid (decide_eq_false (by omega))
      go_enter Tryd.func39, Tryd.ntmps39
      go_wp2
      go_ret
      exact ⟨ret_bool R.out.symm, rfl⟩
  · obtain rfl : n = 0 := by omega
    go_enter Tryd.func39, Tryd.ntmps39
    go_wp2
    go_ret
    exact ⟨rfl, rfl⟩
theorem isValue_any {A : Option Addr} {n c : Nat} (w : World) : Calls Tryd.prog 45 #[.slice A n c] w fun e w' => e = .returned (.bool (valN n)) ∧ w = w' := by
  by_cases h2 : n ≤ 120
  · have d2 : decide ((n : Int) ≤ 120) = true := decide_eq_true (by omega)
    have R : Hid (valN n = true) := Lib.hid (decide_eq_true h2)
    go_enter Tryd.func45, Tryd.ntmps45
    go_wp2
    go_ret
    exact ⟨ret_bool R.out.symm, rfl⟩
  · have d2 : decide ((n : Int) ≤ 120) = false := decide_eq_false (by omega)
    have R : Hid (valN n = false) := Lib.hid (decide_eq_false (by omega))
    go_enter Tryd.func45, Tryd.ntmps45
    go_wp2
    go_ret
    exact ⟨ret_bool R.out.symm, rfl⟩
theorem rKey_any {A : Option Addr} {n c : Nat} (w : World) : Calls Tryd.prog 15 #[.slice A n c] w fun e w' => e = .returned (.bool (keyN n)) ∧ w = w' := by
  by_cases h1 : 1 ≤ n
  · have d1 : decide ((1 : Int) ≤ (n : Int)) = true := decide_eq_true (by omega)
    have d1' : decide ((n : Int) ≥ 1) = true := decide_eq_true (by omega)
    by_cases h2 : n ≤ 40
    · have d2 : decide ((n : Int) ≤ 40) = true := decide_eq_true (by omega)
      have R : Hid (keyN n = true) := Lib.hid (decide_eq_true ⟨h1, h2⟩)
      go_enter Tryd.func15, Tryd.ntmps15
      go_wp2
      go_ret
      exact ⟨ret_bool R.out.symm, rfl⟩
    · have d2 : decide ((n : Int) ≤ 40) = false := decide_eq_false (by omega)
      have R : Hid (keyN n = false) := Lib.hid (decide_eq_false (by omega))
      go_enter Tryd.func15, Tryd.ntmps15
      go_wp2
      go_ret
      exact ⟨ret_bool R.out.symm, rfl⟩
  · obtain rfl : n = 0 := by omega
    go_enter Tryd.func15, Tryd.ntmps15
    go_wp2
    go_ret
    exact ⟨rfl, rfl⟩
theorem rValue_any {A : Option Addr} {n c : Nat} (w : World) : Calls Tryd.prog 24 #[.slice A n c] w fun e w' => e = .returned (.bool (valN n)) ∧ w = w' := by
  by_cases h2 : n ≤ 120
  · have d2 : decide ((n : Int) ≤ 120) = true := decide_eq_true (by omega)
    have R : Hid (valN n = true) := Lib.hid (decide_eq_true h2)
    go_enter Tryd.func24, Tryd.ntmps24
    go_wp2
    go_ret
    exact ⟨ret_bool R.out.symm, rfl⟩
  · have d2 : decide ((n : Int) ≤ 120) = false := decide_eq_false (by omega)
    have R : Hid (valN n = false) := Lib.hid (decide_eq_false (by omega))
    go_enter Tryd.func24, Tryd.ntmps24
    go_wp2
    go_ret
    exact ⟨ret_bool R.out.symm, rfl⟩
set_option maxHeartbeats 800000 in
theorem valid_any {A B : Option Addr} {n c m d : Nat} {del : Bool} (w : World) : Calls Tryd.prog 62 #[.agg #[.slice A n c, .slice B m d, .bool del]] w fun e w' => e = .returned (.bool (okN n m del)) ∧ Below w.heap.size w w' := by
  rw [okN_eq]
  obtain ⟨p, hp⟩ : ∃ p, w.heap.size = p := ⟨_, rfl⟩
  obtain ⟨W1, hW1⟩ : ∃ W1, w.alloc (.cells #[.slice A n c, .slice B m d, .bool del] 45) = W1 := ⟨_, rfl⟩
  have v1 : Below w.heap.size w W1 := hW1 ▸ bal _ _
  have X : Hid (Bx W1 p [.slice A n c, .slice B m d, .bool del]) := hW1 ▸ Lib.hid (Bx.put _ hp #[.slice A n c, .slice B m d, .bool del] 45)
  have TX : Hid (Ty W1 p 45) := hW1 ▸ hp ▸ Lib.hid (Ty.new _ _ _)
  have HW1 := Lib.hid hW1
  clear hW1
  have z0 := X.out.at_ 0 (by simp)
  have z1 := X.out.at_ 1 (by simp)
  have z2 := X.out.at_ 2 (by simp)
  simp only [List.getElem?_cons_succ, List.getElem?_cons_zero] at z0 z1 z2
  have K := Lib.hid (isKey_any (A := A) (n := n) (c := c) W1)
  have V := Lib.hid (isValue_any (A := B) (n := m) (c := d) W1)
  cases hk : keyN n with
  | false =>
    rw [hk] at K
    go_enter Tryd.func62, Tryd.ntmps62
    go_upto_region 1 with fail
    rw [HW1.out]
    go_wp2_with fail
    go_at_call 39
    refine K.out.mono ?_
    rintro e w' ⟨rfl, rfl⟩
    go_wp2_with fail
    go_ret
    exact ⟨rfl, v1⟩
  | true =>
    rw [hk] at K
    cases hv : valN m with
    | false =>
      rw [hv] at V
      go_enter Tryd.func62, Tryd.ntmps62
      go_upto_region 1 with fail
      rw [HW1.out]
      go_wp2_with fail
      go_at_call 39
      refine K.out.mono ?_
      rintro e w' ⟨rfl, rfl⟩
      go_wp2_with fail
      go_at_call 45
      refine V.out.mono ?_
      rintro e w' ⟨rfl, rfl⟩
      go_wp2_with fail
      go_ret
      exact ⟨rfl, v1⟩
    | true =>
      rw [hv] at V
      cases del with
      | false =>
        go_enter Tryd.func62, Tryd.ntmps62
        go_upto_region 1 with fail
        rw [HW1.out]
        go_wp2_with fail
        go_at_call 39
        refine K.out.mono ?_
        rintro e w' ⟨rfl, rfl⟩
        go_wp2_with fail
        go_at_call 45
        refine V.out.mono ?_
        rintro e w' ⟨rfl, rfl⟩
        go_wp2_with fail
        go_ret
        exact ⟨rfl, v1⟩
      | true =>
        have d0 : decide ((m : Int) = 0) = decide (m = 0) := decide_eq_decide.2 (by omega)
        go_enter Tryd.func62, Tryd.ntmps62
        go_upto_region 1 with fail
        rw [HW1.out]
        go_wp2_with fail
        go_at_call 39
        refine K.out.mono ?_
        rintro e w' ⟨rfl, rfl⟩
        go_wp2_with fail
        go_at_call 45
        refine V.out.mono ?_
        rintro e w' ⟨rfl, rfl⟩
        go_wp2_with fail
        go_ret
        exact ⟨ret_bool (by first | done | rfl | simpa using d0 | (simp; omega)), v1⟩
set_option maxHeartbeats 800000 in
theorem rValC_any {A B : Option Addr} {n c m d : Nat} {del : Bool} (w : World) : Calls Tryd.prog 34 #[.agg #[.slice A n c, .slice B m d, .bool del]] w fun e w' => e = .returned (.bool (okN n m del)) ∧ Below w.heap.size w w' := by
  rw [okN_eq]
  obtain ⟨p, hp⟩ : ∃ p, w.heap.size = p := ⟨_, rfl⟩
  obtain ⟨W1, hW1⟩ : ∃ W1, w.alloc (.cells #[.slice A n c, .slice B m d, .bool del] 45) = W1 := ⟨_, rfl⟩
  have v1 : Below w.heap.size w W1 := hW1 ▸ bal _ _
  have X : Hid (Bx W1 p [.slice A n c, .slice B m d, .bool del]) := hW1 ▸ Lib.hid (Bx.put _ hp #[.slice A n c, .slice B m d, .bool del] 45)
  have TX : Hid (Ty W1 p 45) := hW1 ▸ hp ▸ Lib.hid (Ty.new _ _ _)
  have HW1 := Lib.hid hW1
  clear hW1
  have z0 := X.out.at_ 0 (by simp)
  have z1 := X.out.at_ 1 (by simp)
  have z2 := X.out.at_ 2 (by simp)
  simp only [List.getElem?_cons_succ, List.getElem?_cons_zero] at z0 z1 z2
  have K := Lib.hid (rKey_any (A := A) (n := n) (c := c) W1)
  have V := Lib.hid (rValue_any (A := B) (n := m) (c := d) W1)
  cases hk : keyN n with
  | false =>
    rw [hk] at K
    go_enter Tryd.func34, Tryd.ntmps34
    go_upto_region 1 with fail
    rw [HW1.out]
    go_wp2_with fail
    go_at_call 15
    refine K.out.mono ?_
    rintro e w' ⟨rfl, rfl⟩
    go_wp2_with fail
    go_ret
    exact ⟨rfl, v1⟩
  | true =>
    rw [hk] at K
    cases hv : valN m with
    | false =>
      rw [hv] at V
      go_enter Tryd.func34, Tryd.ntmps34
      go_upto_region 1 with fail
      rw [HW1.out]
      go_wp2_with fail
      go_at_call 15
      refine K.out.mono ?_
      rintro e w' ⟨rfl, rfl⟩
      go_wp2_with fail
      go_at_call 24
      refine V.out.mono ?_
      rintro e w' ⟨rfl, rfl⟩
      go_wp2_with fail
      go_ret
      exact ⟨rfl, v1⟩
    | true =>
      rw [hv] at V
      cases del with
      | false =>
        go_enter Tryd.func34, Tryd.ntmps34
        go_upto_region 1 with fail
        rw [HW1.out]
        go_wp2_with fail
        go_at_call 15
        refine K.out.mono ?_
        rintro e w' ⟨rfl, rfl⟩
        go_wp2_with fail
        go_at_call 24
        refine V.out.mono ?_
        rintro e w' ⟨rfl, rfl⟩
        go_wp2_with fail
        go_ret
        exact ⟨rfl, v1⟩
      | true =>
        have d0 : decide ((m : Int) = 0) = decide (m = 0) := decide_eq_decide.2 (by omega)
        go_enter Tryd.func34, Tryd.ntmps34
        go_upto_region 1 with fail
        rw [HW1.out]
        go_wp2_with fail
        go_at_call 15
        refine K.out.mono ?_
        rintro e w' ⟨rfl, rfl⟩
        go_wp2_with fail
        go_at_call 24
        refine V.out.mono ?_
        rintro e w' ⟨rfl, rfl⟩
        go_wp2_with fail
        go_ret
        exact ⟨ret_bool (by first | done | rfl | simpa using d0 | (simp; omega)), v1⟩
end Go.Proofs.YtpmkohnljngbhaaDoor.Sr
/- Walks: slices.Concat of bytes and of changes, slices.Clone of changes. -/
namespace Go.Proofs.YtpmkohnljngbhaaDoor.Sr
set_option maxRecDepth 1000000
open Go.RowKit Wl Pg

def bconc_sum (l : List PV) : Nat := (l.map fun x => x.d.length).sum
theorem bconc_sum_take {l : List PV} {k : Nat} {x : PV} (h : l[k]? = some x) : bconc_sum (l.take (k + 1)) = bconc_sum (l.take k) + x.d.length := by
  rw [List.take_add_one, h]; simp [bconc_sum]
theorem bconc_sum_le (l : List PV) (k : Nat) : bconc_sum (l.take k) ≤ bconc_sum l := by
  have : bconc_sum l = bconc_sum (l.take k) + bconc_sum (l.drop k) := by
    have e := congrArg bconc_sum (List.take_append_drop k l)
    unfold bconc_sum at e ⊢
    rw [← e, List.map_append, List.sum_append]
  omega
def bconc_join (l : List PV) : List UInt8 := (l.map PV.d).flatten
theorem bconc_join_take {l : List PV} {k : Nat} {x : PV} (h : l[k]? = some x) : bconc_join (l.take (k + 1)) = bconc_join (l.take k) ++ x.d := by
  rw [List.take_add_one, h]; simp [bconc_join]
theorem bconc_join_len (l : List PV) : (bconc_join l).length = bconc_sum l := by
  unfold bconc_join bconc_sum
  induction l with
  | nil => rfl
  | cons x l ih => simp [ih]
theorem bconc_grow (N : Nat) (w : World) (hN : N ≤ 100000) :
    Calls Tryd.prog 78 #[.slice none 0 0, .int .i64 (N : Int)] w fun e w' => ∃ A c, e = .returned (.slice A 0 c) ∧ Hid (w'.ownsRow w.heap.size 5 1 (.slice A 0 c) 0 []) ∧ Below w.heap.size w w' := by
  obtain ⟨i0, hi, hz0, hz1, hz2⟩ := info_parts info_byte
  rcases Nat.eq_zero_or_pos N with h0 | h0
  · subst h0
    go_enter Tryd.func78, Tryd.ntmps78
    go_wp2
    go_ret
    exact ⟨none, 0, rfl, Lib.hid (World.ownsRow_nil _ _ _ _), Below.refl _ _⟩
  · have happ := Lib.run_append_nil_zeros (P := Tryd.prog) w 23 3 23 5 i0 (.int .u8 0) .i64 .i64 Tryd.underlying23 Tryd.underlying3 hi hz0 N h0 (by rw [hz1]; decide) (by omega) (by rw [hz2]; omega)
    generalize hcap : grownCap w N 0 5 = cap2 at happ
    have hcapge : N ≤ cap2 := by rw [← hcap]; exact grownCap_ge w _ 0 _
    have hcaple : cap2 ≤ maxLen := by rw [← hcap]; exact grownCap_le_maxLen w _ 0 _ (by unfold maxLen; omega)
    generalize hZ : (Builtin.zeroCells (Value.cells (.int .u8 0)) N ++ Builtin.zeroCells (Value.cells (.int .u8 0)) (cap2 - N)) = Z at happ
    have hZs : Z.size = cap2 * 1 := by rw [← hZ]; simp [size_zeroCells, Value.cells]; omega
    have O : Hid ((w.drew.alloc (.cells Z 5)).ownsRow w.heap.size 5 1 (.slice (some ⟨w.heap.size, 0, none⟩) 0 cap2) 0 []) := Lib.hid ⟨by simp, .inr ⟨w.heap.size, cap2, Z, rfl, Nat.le_refl _, heap_alloc_new w.drew _, by omega, hcaple, hZs, by simp⟩⟩
    have hcap63 : cap2 ≤ 9223372036854775807 := by unfold maxLen at hcaple; omega
    have HZ := Lib.hid hZ
    have HCAP := Lib.hid hcap
    clear hZ hcap hZs hcaple
    go_enter Tryd.func78, Tryd.ntmps78
    go_wp2_with (at_builtin; refine Lib.wpList_append_run _ rfl _ _ _ _ rfl _ _ rfl rfl _ _ happ ?_)
    go_ret
    exact ⟨_, cap2, rfl, O, ((Below.refl _ _).drew).alloc (Nat.le_refl _) _⟩
set_option maxHeartbeats 1600000 in
theorem bconc {B : Option Addr} {n c : Nat} {L : List PV} (w : World) (hr : Hid (Rd w 1 B n c (L.map PV.v))) (hd : Hid (∀ x ∈ L, Rd w 1 x.A x.d.length x.c (bv x.d))) (hs : bconc_sum L ≤ 100000) :
    Calls Tryd.prog 63 #[.slice B n c] w (Mv w 5 1 (bconc_sum L) (bv (bconc_join L))) := by
  obtain ⟨i0, hi, hz0, hz1, hz2⟩ := info_parts info_byte
  have hnc := hr.out.nc
  have hc63 := hr.out.c63
  have HN : Hid (n = L.length) := Lib.hid (by have := hr.out.len; rw [List.length_map] at this; omega)
  go_enter Tryd.func63, Tryd.ntmps63
  go_wp2_with fail
  go_loopw [3, 11] (fun sv iv wr => ∃ j : Nat, j ≤ n ∧ iv = .int .i64 j ∧ sv = .int .i64 (bconc_sum (L.take j) : Nat) ∧ w = wr) (fun _ iv _ => (n - intOf iv).toNat)
  case atStart => exact ⟨0, by omega, rfl, rfl, rfl⟩
  case round =>
    obtain ⟨j, hj, rfl, rfl, rfl⟩ := hrel
    have hsl := bconc_sum_le L j
    obtain ⟨s, hs'⟩ : ∃ s, bconc_sum (L.take j) = s := ⟨_, rfl⟩
    rw [hs'] at hsl ⊢
    have HS := Lib.hid hs'
    clear hs'
    by_cases hlt : j < n
    · obtain ⟨g, o, x, rfl, hg, hx, hcell⟩ := Rd.at1 hr.out hlt
      unfold PV.v at hcell
      obtain ⟨xn, hxn⟩ : ∃ xn, x.d.length = xn := ⟨_, rfl⟩
      rw [hxn] at hcell
      have HT : Hid (bconc_sum (L.take (j + 1)) = s + xn) := Lib.hid (by rw [bconc_sum_take hx, HS.out, hxn])
      have hT2 : s + xn ≤ 100000 := by have := bconc_sum_le L (j + 1); rw [HT.out] at this; omega
      clear hx hxn
      go_wp2_with fail
      go_roundw
      case rel => exact ⟨j + 1, by omega, by go_num, by rw [HT.out]; go_num, by first | trivial | rfl⟩
      case measure => simp [intOf]; omega
    · obtain rfl : n = j := by omega
      have HSS : Hid (bconc_sum L = s) := Lib.hid (by rw [← HS.out, List.take_of_length_le (by have := HN.out; omega)])
      go_wp2_with fail
      go_at_call 78
      refine (bconc_grow s _ (by omega)).mono ?_
      rintro e w1 ⟨A1, c1, rfl, own1, b1⟩
      have hr1 := Lib.hid (Rd.below hr.out b1)
      go_wp2_with fail
      go_loopw [6, 27] (fun ov iv wr => ∃ (k m : Nat) (A : Option Addr) (cc : Nat), k ≤ n ∧ iv = .int .i64 k ∧ ov = .slice A m cc ∧ Hid (m = bconc_sum (L.take k)) ∧ Hid (wr.ownsRow w.heap.size 5 1 (.slice A m cc) m (bv (bconc_join (L.take k)))) ∧ Below w.heap.size w wr) (fun _ iv _ => (n - intOf iv).toNat)
      case atStart => exact ⟨0, 0, A1, c1, by omega, rfl, rfl, Lib.hid rfl, own1, b1⟩
      case round =>
        obtain ⟨k, m, A, cc, hk, rfl, rfl, hm, own, bw⟩ := hrel
        have hm1 : m ≤ 100000 := by have := hm.out; have := bconc_sum_le L k; omega
        by_cases hlt : k < n
        · obtain ⟨g, o, x, rfl, hg, hx, hcell⟩ := Rd.at1 (Rd.below hr.out bw) hlt
          unfold PV.v at hcell
          have hxd := Lib.hid (Rd.below (hd.out x (List.mem_of_getElem? hx)) bw)
          obtain ⟨xn, hxn⟩ : ∃ xn, x.d.length = xn := ⟨_, rfl⟩
          rw [hxn] at hcell hxd
          have HT : Hid (bconc_sum (L.take (k + 1)) = m + xn) := Lib.hid (by rw [bconc_sum_take hx, hm.out, hxn])
          have HJ := Lib.hid (bconc_join_take hx)
          have hT2 : m + xn ≤ 100000 := by have := bconc_sum_le L (k + 1); rw [HT.out] at this; omega
          have hbw : w.heap.size ≤ wr.heap.size := bw.size
          clear hx hxn
          go_wp2_with (at_builtin; apply hold)
          unfold Hold
          refine wpList_app _ rfl (.tmp 31) (.tmp 32) 23 rfl w.heap.size 5 i0 (.int .u8 0) 1 1 Tryd.underlying23 hi hz0 hz1 hz2 rfl (by omega) (by rfl) own.out (by rfl) hxd.out (bv_one _) (by omega) (by omega) hbw ?_
          intro A5 c5 W5 own5 g5
          rw [← bv_app] at own5
          have own5 := Lib.hid own5
          have b5 : Below w.heap.size w W5 := g5.low bw hbw fun q e => (own_blk_le own.out e).1
          clear g5
          go_wp2_with fail
          go_roundw
          case rel => exact ⟨k + 1, m + xn, A5, c5, by omega, by go_num, rfl, Lib.hid HT.out.symm, by rw [HJ.out]; exact own5, b5⟩
          case measure => simp [intOf]; omega
        · obtain rfl : n = k := by omega
          have HM : Hid (m = bconc_sum L) := Lib.hid (by rw [hm.out, List.take_of_length_le (by have := HN.out; omega)])
          have own : Hid (wr.ownsRow w.heap.size 5 1 (.slice A m cc) m (bv (bconc_join L))) := by have h := own.out; rw [List.take_of_length_le (by have := HN.out; omega)] at h; exact Lib.hid h
          go_wp2_with fail
          go_ret
          exact ⟨A, cc, by rw [← HM.out]; rfl, by rw [← HM.out]; exact own, bw⟩
def cconc_sum (l : List XV) : Nat := (l.map fun x => x.l.length).sum
theorem cconc_sum_take {l : List XV} {k : Nat} {x : XV} (h : l[k]? = some x) : cconc_sum (l.take (k + 1)) = cconc_sum (l.take k) + x.l.length := by
  rw [List.take_add_one, h]; simp [cconc_sum]
theorem cconc_sum_le (l : List XV) (k : Nat) : cconc_sum (l.take k) ≤ cconc_sum l := by
  have : cconc_sum l = cconc_sum (l.take k) + cconc_sum (l.drop k) := by
    have e := congrArg cconc_sum (List.take_append_drop k l)
    unfold cconc_sum at e ⊢
    rw [← e, List.map_append, List.sum_append]
  omega
def cconc_join (l : List XV) : List CV := (l.map XV.l).flatten
theorem cconc_join_take {l : List XV} {k : Nat} {x : XV} (h : l[k]? = some x) : cconc_join (l.take (k + 1)) = cconc_join (l.take k) ++ x.l := by
  rw [List.take_add_one, h]; simp [cconc_join]
theorem cconc_join_len (l : List XV) : (cconc_join l).length = cconc_sum l := by
  unfold cconc_join cconc_sum
  induction l with
  | nil => rfl
  | cons x l ih => simp [ih]
theorem cconc_grow (N : Nat) (w : World) (hN : N ≤ 100000) :
    Calls Tryd.prog 77 #[.slice none 0 0, .int .i64 (N : Int)] w fun e w' => ∃ A c, e = .returned (.slice A 0 c) ∧ Hid (w'.ownsRow w.heap.size 45 3 (.slice A 0 c) 0 []) ∧ Below w.heap.size w w' := by
  obtain ⟨i0, hi, hz0, hz1, hz2⟩ := info_parts info_change
  rcases Nat.eq_zero_or_pos N with h0 | h0
  · subst h0
    go_enter Tryd.func77, Tryd.ntmps77
    go_wp2
    go_ret
    exact ⟨none, 0, rfl, Lib.hid (World.ownsRow_nil _ _ _ _), Below.refl _ _⟩
  · have happ := Lib.run_append_nil_zeros (P := Tryd.prog) w 36 3 36 45 i0 (.agg #[.slice none 0 0, .slice none 0 0, .bool false]) .i64 .i64 Tryd.underlying36 Tryd.underlying3 hi hz0 N h0 (by rw [hz1]; decide) (by omega) (by rw [hz2]; omega)
    generalize hcap : grownCap w N 0 45 = cap2 at happ
    have hcapge : N ≤ cap2 := by rw [← hcap]; exact grownCap_ge w _ 0 _
    have hcaple : cap2 ≤ maxLen := by rw [← hcap]; exact grownCap_le_maxLen w _ 0 _ (by unfold maxLen; omega)
    generalize hZ : (Builtin.zeroCells (Value.cells (.agg #[.slice none 0 0, .slice none 0 0, .bool false])) N ++ Builtin.zeroCells (Value.cells (.agg #[.slice none 0 0, .slice none 0 0, .bool false])) (cap2 - N)) = Z at happ
    have hZs : Z.size = cap2 * 3 := by rw [← hZ]; simp [size_zeroCells, Value.cells]; omega
    have O : Hid ((w.drew.alloc (.cells Z 45)).ownsRow w.heap.size 45 3 (.slice (some ⟨w.heap.size, 0, none⟩) 0 cap2) 0 []) := Lib.hid ⟨by simp, .inr ⟨w.heap.size, cap2, Z, rfl, Nat.le_refl _, heap_alloc_new w.drew _, by omega, hcaple, hZs, by simp⟩⟩
    have hcap63 : cap2 ≤ 9223372036854775807 := by unfold maxLen at hcaple; omega
    have HZ := Lib.hid hZ
    have HCAP := Lib.hid hcap
    clear hZ hcap hZs hcaple
    go_enter Tryd.func77, Tryd.ntmps77
    go_wp2_with (at_builtin; refine Lib.wpList_append_run _ rfl _ _ _ _ rfl _ _ rfl rfl _ _ happ ?_)
    go_ret
    exact ⟨_, cap2, rfl, O, ((Below.refl _ _).drew).alloc (Nat.le_refl _) _⟩
set_option maxHeartbeats 1600000 in
theorem cconc {B : Option Addr} {n c : Nat} {L : List XV} (w : World) (hr : Hid (Rd w 1 B n c (L.map XV.v))) (hd : Hid (∀ x ∈ L, Rd w 3 x.A x.l.length x.c (cvs x.l))) (hs : cconc_sum L ≤ 100000) :
    Calls Tryd.prog 59 #[.slice B n c] w (Mv w 45 3 (cconc_sum L) (cvs (cconc_join L))) := by
  obtain ⟨i0, hi, hz0, hz1, hz2⟩ := info_parts info_change
  have hnc := hr.out.nc
  have hc63 := hr.out.c63
  have HN : Hid (n = L.length) := Lib.hid (by have := hr.out.len; rw [List.length_map] at this; omega)
  go_enter Tryd.func59, Tryd.ntmps59
  go_wp2_with fail
  go_loopw [3, 11] (fun sv iv wr => ∃ j : Nat, j ≤ n ∧ iv = .int .i64 j ∧ sv = .int .i64 (cconc_sum (L.take j) : Nat) ∧ w = wr) (fun _ iv _ => (n - intOf iv).toNat)
  case atStart => exact ⟨0, by omega, rfl, rfl, rfl⟩
  case round =>
    obtain ⟨j, hj, rfl, rfl, rfl⟩ := hrel
    have hsl := cconc_sum_le L j
    obtain ⟨s, hs'⟩ : ∃ s, cconc_sum (L.take j) = s := ⟨_, rfl⟩
    rw [hs'] at hsl ⊢
    have HS := Lib.hid hs'
    clear hs'
    by_cases hlt : j < n
    · obtain ⟨g, o, x, rfl, hg, hx, hcell⟩ := Rd.at1 hr.out hlt
      unfold XV.v at hcell
      obtain ⟨xn, hxn⟩ : ∃ xn, x.l.length = xn := ⟨_, rfl⟩
      rw [hxn] at hcell
      have HT : Hid (cconc_sum (L.take (j + 1)) = s + xn) := Lib.hid (by rw [cconc_sum_take hx, HS.out, hxn])
      have hT2 : s + xn ≤ 100000 := by have := cconc_sum_le L (j + 1); rw [HT.out] at this; omega
      clear hx hxn
      go_wp2_with fail
      go_roundw
      case rel => exact ⟨j + 1, by omega, by go_num, by rw [HT.out]; go_num, by first | trivial | rfl⟩
      case measure => simp [intOf]; omega
    · obtain rfl : n = j := by omega
      have HSS : Hid (cconc_sum L = s) := Lib.hid (by rw [← HS.out, List.take_of_length_le (by have := HN.out; omega)])
      go_wp2_with fail
      go_at_call 77
      refine (cconc_grow s _ (by omega)).mono ?_
      rintro e w1 ⟨A1, c1, rfl, own1, b1⟩
      have hr1 := Lib.hid (Rd.below hr.out b1)
      go_wp2_with fail
      go_loopw [6, 27] (fun ov iv wr => ∃ (k m : Nat) (A : Option Addr) (cc : Nat), k ≤ n ∧ iv = .int .i64 k ∧ ov = .slice A m cc ∧ Hid (m = cconc_sum (L.take k)) ∧ Hid (wr.ownsRow w.heap.size 45 3 (.slice A m cc) m (cvs (cconc_join (L.take k)))) ∧ Below w.heap.size w wr) (fun _ iv _ => (n - intOf iv).toNat)
      case atStart => exact ⟨0, 0, A1, c1, by omega, rfl, rfl, Lib.hid rfl, own1, b1⟩
      case round =>
        obtain ⟨k, m, A, cc, hk, rfl, rfl, hm, own, bw⟩ := hrel
        have hm1 : m ≤ 100000 := by have := hm.out; have := cconc_sum_le L k; omega
        by_cases hlt : k < n
        · obtain ⟨g, o, x, rfl, hg, hx, hcell⟩ := Rd.at1 (Rd.below hr.out bw) hlt
          unfold XV.v at hcell
          have hxd := Lib.hid (Rd.below (hd.out x (List.mem_of_getElem? hx)) bw)
          obtain ⟨xn, hxn⟩ : ∃ xn, x.l.length = xn := ⟨_, rfl⟩
          rw [hxn] at hcell hxd
          have HT : Hid (cconc_sum (L.take (k + 1)) = m + xn) := Lib.hid (by rw [cconc_sum_take hx, hm.out, hxn])
          have HJ := Lib.hid (cconc_join_take hx)
          have hT2 : m + xn ≤ 100000 := by have := cconc_sum_le L (k + 1); rw [HT.out] at this; omega
          have hbw : w.heap.size ≤ wr.heap.size := bw.size
          clear hx hxn
          go_wp2_with (at_builtin; apply hold)
          unfold Hold
          refine wpList_app _ rfl (.tmp 31) (.tmp 32) 36 rfl w.heap.size 45 i0 (.agg #[.slice none 0 0, .slice none 0 0, .bool false]) 3 56 Tryd.underlying36 hi hz0 hz1 hz2 rfl (by omega) (by rfl) own.out (by rfl) hxd.out (cvs_one _) (by omega) (by omega) hbw ?_
          intro A5 c5 W5 own5 g5
          rw [← cvs_app] at own5
          have own5 := Lib.hid own5
          have b5 : Below w.heap.size w W5 := g5.low bw hbw fun q e => (own_blk_le own.out e).1
          clear g5
          go_wp2_with fail
          go_roundw
          case rel => exact ⟨k + 1, m + xn, A5, c5, by omega, by go_num, rfl, Lib.hid HT.out.symm, by rw [HJ.out]; exact own5, b5⟩
          case measure => simp [intOf]; omega
        · obtain rfl : n = k := by omega
          have HM : Hid (m = cconc_sum L) := Lib.hid (by rw [hm.out, List.take_of_length_le (by have := HN.out; omega)])
          have own : Hid (wr.ownsRow w.heap.size 45 3 (.slice A m cc) m (cvs (cconc_join L))) := by have h := own.out; rw [List.take_of_length_le (by have := HN.out; omega)] at h; exact Lib.hid h
          go_wp2_with fail
          go_ret
          exact ⟨A, cc, by rw [← HM.out]; rfl, by rw [← HM.out]; exact own, bw⟩
theorem cclone_any {B : Option Addr} {m d : Nat} {xs : List Value} (w : World) (hd : Hid (Rd w 3 B m d xs)) (h1 : ∀ u ∈ xs, u.oneCell' = true) (hm : m ≤ 1073741824) :
    Calls Tryd.prog 60 #[.slice B m d] w (Mv w 45 3 m xs) := by
  obtain ⟨i0, hi, hz0, hz1, hz2⟩ := info_parts info_change
  rcases B with _ | a
  · obtain rfl : d = 0 := hd.out.nil rfl
    obtain rfl : m = 0 := by have := hd.out.nc; omega
    have q22 := fun w : World => Lib.run_eql_slice_nil (P := Tryd.prog) w 36 45 none 0 0 0 0 Tryd.underlying36
    have hl : Hid (xs = []) := Lib.hid (List.eq_nil_of_length_eq_zero (by have := hd.out.len; omega))
    go_enter Tryd.func60, Tryd.ntmps60
    go_wp2
    go_ret
    exact ⟨none, 0, rfl, Lib.hid (by rw [hl.out]; exact World.ownsRow_nil _ _ _ _), Below.refl _ _⟩
  · have q22 := fun w : World => Lib.run_eql_slice_nil (P := Tryd.prog) w 36 45 (some a) m d 0 0 Tryd.underlying36
    go_enter Tryd.func60, Tryd.ntmps60
    go_wp2_with (at_builtin; refine wpList_app _ rfl (.tmp 5) (.tmp 6) 36 rfl w.heap.size 45 i0 (.agg #[.slice none 0 0, .slice none 0 0, .bool false]) 3 56 Tryd.underlying36 hi hz0 hz1 hz2 rfl (by omega) (by rfl) (own_lit w _ 3 #[] 0 (Nat.le_refl _) (by unfold maxLen; omega) rfl) (by rfl) (hd.out.alloc _) h1 (by omega) (by omega) (by simp) ?_; intro A1 c1 w1 own1 g1)
    go_ret
    rw [Nat.zero_add] at own1
    exact ⟨A1, c1, rfl, Lib.hid own1, g1.low ((Below.refl _ _).alloc (Nat.le_refl _) _) (by simp) (fun g e => by simp [blk] at e; omega)⟩
end Go.Proofs.YtpmkohnljngbhaaDoor.Sr
/- Walks: record, change. -/
namespace Go.Proofs.YtpmkohnljngbhaaDoor.Sr
set_option maxRecDepth 1000000
open Go.RowKit Wl Pg

theorem res3_below {w W : World} {R : Nat} {a b c : Value} (h : Below w.heap.size w W) (hR : w.heap.size ≤ R) : Below w.heap.size w (((W.setCell ⟨R, 0, none⟩ a).setCell ⟨R, 1, none⟩ b).setCell ⟨R, 2, none⟩ c) :=
  ((h.setCell (p := ⟨R, 0, none⟩) hR a).setCell (p := ⟨R, 1, none⟩) hR b).setCell (p := ⟨R, 2, none⟩) hR c
theorem res3_cells {W : World} {R : Nat} {x y z : Value} (h : Bx W R [x, y, z]) : (∀ a, (W.setCell ⟨R, 0, none⟩ a).cell? ⟨R, 0, none⟩ = some a) ∧ (∀ a b, ((W.setCell ⟨R, 0, none⟩ a).setCell ⟨R, 1, none⟩ b).cell? ⟨R, 1, none⟩ = some b) ∧
    (∀ a b c, (((W.setCell ⟨R, 0, none⟩ a).setCell ⟨R, 1, none⟩ b).setCell ⟨R, 2, none⟩ c).cell? ⟨R, 2, none⟩ = some c) :=
  ⟨fun a => World.cell?_setCell_same W ⟨R, 0, none⟩ a (h.at_ 0 (by simp)), fun a b => World.cell?_setCell_same (W.setCell ⟨R, 0, none⟩ a) ⟨R, 1, none⟩ b ((World.cell?_setCell_other _ _ _ _ (by simp)).trans (h.at_ 1 (by simp))),
    fun a b c => World.cell?_setCell_same ((W.setCell ⟨R, 0, none⟩ a).setCell ⟨R, 1, none⟩ b) ⟨R, 2, none⟩ c ((World.cell?_setCell_other _ _ _ _ (by simp)).trans ((World.cell?_setCell_other _ _ _ _ (by simp)).trans (h.at_ 2 (by simp))))⟩
def RcPost (w : World) (r : Rec) (e : Ending) (w' : World) : Prop :=
  ∃ D c, e = .returned (.agg #[.int .i64 r.k, .int .i64 r.t, .slice D r.d.length c]) ∧ Hid (Rd w' 1 D r.d.length c (bv r.d)) ∧ Below w.heap.size w w'
set_option maxHeartbeats 1600000 in
theorem record_any {A B : Option Addr} {n c m d : Nat} {k v : List UInt8} {del : Bool} (tx : Int) (w : World) (hk : Hid (Rd w 1 A n c (bv k))) (hv : Hid (Rd w 1 B m d (bv v))) (hn : n ≤ 255) (hm : m ≤ 1000) :
    Calls Tryd.prog 47 #[.agg #[.slice A n c, .slice B m d, .bool del], .int .i64 tx] w (RcPost w (recC tx ⟨k, v, del⟩)) := by
  have KN : Hid (n = k.length) := Lib.hid (by have := hk.out.len; rw [bv_len] at this; omega)
  have VN : Hid (m = v.length) := Lib.hid (by have := hv.out.len; rw [bv_len] at this; omega)
  obtain ⟨p, hp⟩ : ∃ p, w.heap.size = p := ⟨_, rfl⟩
  obtain ⟨W1, hW1⟩ : ∃ W1, w.alloc (.cells #[.slice A n c, .slice B m d, .bool del] 45) = W1 := ⟨_, rfl⟩
  have v1 : Below w.heap.size w W1 := hW1 ▸ bal _ _
  have X : Hid (Bx W1 p [.slice A n c, .slice B m d, .bool del]) := hW1 ▸ Lib.hid (Bx.put _ hp #[.slice A n c, .slice B m d, .bool del] 45)
  have TX : Hid (Ty W1 p 45) := hW1 ▸ hp ▸ Lib.hid (Ty.new _ _ _)
  have HW1 := Lib.hid hW1
  clear hW1
  obtain ⟨R, hR⟩ : ∃ R, W1.heap.size = R := ⟨_, rfl⟩
  obtain ⟨W2, hW2⟩ : ∃ W2, W1.alloc (.cells #[.int .i64 0, .int .i64 0, .slice none 0 0] 66) = W2 := ⟨_, rfl⟩
  have v2 : Below W1.heap.size W1 W2 := hW2 ▸ bal _ _
  have Y : Hid (Bx W2 R [.int .i64 0, .int .i64 0, .slice none 0 0]) := hW2 ▸ Lib.hid (Bx.put _ hR #[.int .i64 0, .int .i64 0, .slice none 0 0] 66)
  have TY : Hid (Ty W2 R 66) := hW2 ▸ hR ▸ Lib.hid (Ty.new _ _ _)
  have HW2 := Lib.hid hW2
  clear hW2
  have v12 := v1.trans (v2.mono v1.size)
  have hR : w.heap.size ≤ R := by rw [← hR]; exact v1.size
  have X := Lib.hid (X.out.nx v2)
  have z0 := X.out.at_ 0 (by simp)
  have z1 := X.out.at_ 1 (by simp)
  have z2 := X.out.at_ 2 (by simp)
  simp only [List.getElem?_cons_succ, List.getElem?_cons_zero] at z0 z1 z2
  have y0 := Y.out.at_ 0 (by simp)
  have y1 := Y.out.at_ 1 (by simp)
  have y2 := Y.out.at_ 2 (by simp)
  simp only [List.getElem?_cons_succ, List.getElem?_cons_zero] at y0 y1 y2
  have f0 := Y.out.fz 0 (by simp)
  have f1 := Y.out.fz 1 (by simp)
  have f2 := Y.out.fz 2 (by simp)
  obtain ⟨C0, C1, C2⟩ := res3_cells Y.out
  have C0 := Lib.hid C0
  have C1 := Lib.hid C1
  have C2 := Lib.hid C2
  have e12 : R = p + 1 := by rw [← ‹W1.heap.size = R›, ← HW1.out, ← hp]; simp
  subst e12
  have hk0 := Lib.hid (KN.out ▸ hk.out)
  cases del with
  | true =>
    have KD := Lib.hid (hk0.out.nx (res3_below (R := p + 1) (a := .int .i64 2) (b := .int .i64 tx) (c := .slice A n c) v12 hR))
    go_enter Tryd.func47, Tryd.ntmps47
    go_upto_region 1 with fail
    rw [HW1.out, HW2.out]
    go_wp2_with fail
    refine bodyPost_ret (v := .agg #[.int .i64 2, .int .i64 tx, .slice A n c]) (by simp [results, Tryd.results47, go_sem, C0.out, C1.out, C2.out]) rfl ?_
    exact ⟨A, c, by rw [KN.out]; rfl, KD, res3_below v12 hR⟩
  | false =>
    have xl := X.out.lt
    have yl := Y.out.lt
    have b3 : Below W2.heap.size W2 (W2.alloc (.cells #[.int .u8 (n : Int)] 5)) := bal _ _
    have b4 : Below (W2.alloc (.cells #[.int .u8 (n : Int)] 5)).heap.size (W2.alloc (.cells #[.int .u8 (n : Int)] 5)) ((W2.alloc (.cells #[.int .u8 (n : Int)] 5)).alloc (.cells #[.slice (some ⟨W2.heap.size, 0, none⟩) 1 1, .slice A n c, .slice B m d] 23)) := bal _ _
    have hs3 : (W2.alloc (.cells #[.int .u8 (n : Int)] 5)).heap.size = W2.heap.size + 1 := by simp
    have b34 := b3.trans (b4.mono b3.size)
    have CC : Hid (Calls Tryd.prog 63 #[.slice (some ⟨W2.heap.size + 1, 0, none⟩) 3 3] ((W2.alloc (.cells #[.int .u8 (n : Int)] 5)).alloc (.cells #[.slice (some ⟨W2.heap.size, 0, none⟩) 1 1, .slice A n c, .slice B m d] 23)) fun e w' => ∃ D c', e = .returned (.slice D (recC tx ⟨k, v, false⟩).d.length c') ∧ Hid (w'.ownsRow (W2.heap.size + 2) 5 1 (.slice D (recC tx ⟨k, v, false⟩).d.length c') (recC tx ⟨k, v, false⟩).d.length (bv (recC tx ⟨k, v, false⟩).d)) ∧ Below W2.heap.size W2 w') := by
      refine Lib.hid ?_
      have H := bconc (L := [⟨some ⟨W2.heap.size, 0, none⟩, 1, [UInt8.ofNat n]⟩, ⟨A, c, k⟩, ⟨B, d, v⟩]) (B := some ⟨W2.heap.size + 1, 0, none⟩) (n := 3) (c := 3) ((W2.alloc (.cells #[.int .u8 (n : Int)] 5)).alloc (.cells #[.slice (some ⟨W2.heap.size, 0, none⟩) 1 1, .slice A n c, .slice B m d] 23)) (Lib.hid (by
          have h := rd_lit (W2.alloc (.cells #[.int .u8 (n : Int)] 5)) hs3 23 1 #[.slice (some ⟨W2.heap.size, 0, none⟩) 1 1, .slice A n c, .slice B m d] 3 (by omega) rfl
          rw [KN.out, VN.out] at h ⊢
          exact h)) (Lib.hid (by
          intro x hx
          simp only [List.mem_cons, List.not_mem_nil, or_false] at hx
          rcases hx with rfl | rfl | rfl
          · have h := rd_lit W2 rfl 5 1 #[.int .u8 (n : Int)] 1 (by omega) rfl
            have e : bv [UInt8.ofNat n] = [.int .u8 (n : Int)] := by simp [bv]; omega
            show Rd _ 1 _ 1 1 (bv [UInt8.ofNat n])
            rw [e]
            exact Rd.below h b4
          · exact (hk0.out.nx v12).nx b34
          · have hv0 := VN.out ▸ hv.out
            exact (hv0.nx v12).nx b34)) (by simp [bconc_sum]; have := KN.out; have := VN.out; omega)
      have e1 : bconc_join [⟨some ⟨W2.heap.size, 0, none⟩, 1, [UInt8.ofNat n]⟩, ⟨A, c, k⟩, ⟨B, d, v⟩] = (recC tx ⟨k, v, false⟩).d := by
        simp [bconc_join, recC, KN.out]
      rw [e1, ← bconc_join_len, e1] at H
      refine H.mono ?_
      rintro e w' ⟨D, c', he, own, b⟩
      exact ⟨D, c', he, Lib.hid (own_base own.out (by simp)), b34.trans (b.mono b34.size)⟩
    go_enter Tryd.func47, Tryd.ntmps47
    go_upto_region 1 with fail
    rw [HW1.out, HW2.out]
    clear b3 b4 hs3 b34
    go_wp2_with fail
    go_at_call 63
    refine CC.out.mono ?_
    rintro e w5 ⟨D, c', rfl, own, b5⟩
    obtain ⟨dn, hdn⟩ : ∃ dn, (recC tx ⟨k, v, false⟩).d.length = dn := ⟨_, rfl⟩
    rw [hdn] at own
    rw [hdn]
    have HDN := Lib.hid hdn
    have v15 := v12.trans (b5.mono v12.size)
    have Y5 := Lib.hid (Y.out.nx b5)
    clear hdn C0 C1 C2 y0 y1 y2 f0 f1 f2
    have y0 := Y5.out.at_ 0 (by simp)
    have y1 := Y5.out.at_ 1 (by simp)
    have y2 := Y5.out.at_ 2 (by simp)
    simp only [List.getElem?_cons_succ, List.getElem?_cons_zero] at y0 y1 y2
    have f0 := Y5.out.fz 0 (by simp)
    have f1 := Y5.out.fz 1 (by simp)
    have f2 := Y5.out.fz 2 (by simp)
    obtain ⟨C0, C1, C2⟩ := res3_cells Y5.out
    have C0 := Lib.hid C0
    have C1 := Lib.hid C1
    have C2 := Lib.hid C2
    have ne : ∀ g, blk D = some g → g ≠ p + 1 := fun g e => by have := (own_blk_le own.out e).1; omega
    have OW := Lib.hid (own_set (own_set (own_set own.out ⟨p + 1, 0, none⟩ (.int .i64 1) (fun e => ne _ e rfl)) ⟨p + 1, 1, none⟩ (.int .i64 tx) (fun e => ne _ e rfl)) ⟨p + 1, 2, none⟩ (.slice D dn c') (fun e => ne _ e rfl))
    go_wp2_with fail
    refine bodyPost_ret (v := .agg #[.int .i64 1, .int .i64 tx, .slice D dn c']) (by simp [results, Tryd.results47, go_sem, C0.out, C1.out, C2.out]) rfl ?_
    exact ⟨D, c', by rw [HDN.out]; rfl, by rw [HDN.out]; exact Lib.hid (Rd.of_own OW.out), res3_below v15 hR⟩
end Go.Proofs.YtpmkohnljngbhaaDoor.Sr
/- Walk: change. -/
namespace Go.Proofs.YtpmkohnljngbhaaDoor.Sr
set_option maxRecDepth 1000000
open Go.RowKit Wl Pg

/-- What change answers. -/
def ChPost (w0 w : World) (r : Rec) (e : Ending) (w' : World) : Prop :=
  ∃ (A B : Option Addr) (n c m d : Nat) (k v : List UInt8) (del b : Bool), e = .returned (.tuple #[.agg #[.slice A n c, .slice B m d, .bool del], .bool b]) ∧
    ((b = false ∧ chR r = none) ∨ (b = true ∧ chR r = some ⟨k, v, del⟩ ∧ Hid (n = k.length ∧ m = v.length) ∧ Hid (Dt w0 ⟨A, c, k, B, d, v, del⟩))) ∧ Below w.heap.size w w'
set_option maxHeartbeats 3200000 in
theorem change_any {D : Option Addr} {n c : Nat} {r : Rec} (w0 w : World) (h0 : Hid (Rd w0 1 D n c (bv r.d))) (hd : Hid (Rd w 1 D n c (bv r.d))) (hk : Hid (1 ≤ r.k ∧ r.k ≤ 3)) (hn : n ≤ 1073741824) :
    Calls Tryd.prog 56 #[.agg #[.int .i64 r.k, .int .i64 r.t, .slice D n c]] w (ChPost w0 w r) := by
  have NL : Hid (n = r.d.length) := Lib.hid (by have := hd.out.len; rw [bv_len] at this; omega)
  obtain ⟨k, t, dat⟩ := r
  dsimp only at h0 hd hk NL ⊢
  obtain ⟨p, hp⟩ : ∃ p, w.heap.size = p := ⟨_, rfl⟩
  obtain ⟨W1, hW1⟩ : ∃ W1, w.alloc (.cells #[.int .i64 k, .int .i64 t, .slice D n c] 66) = W1 := ⟨_, rfl⟩
  have v1 : Below w.heap.size w W1 := hW1 ▸ bal _ _
  have X : Hid (Bx W1 p [.int .i64 k, .int .i64 t, .slice D n c]) := hW1 ▸ Lib.hid (Bx.put _ hp #[.int .i64 k, .int .i64 t, .slice D n c] 66)
  have TX : Hid (Ty W1 p 66) := hW1 ▸ hp ▸ Lib.hid (Ty.new _ _ _)
  have HW1 := Lib.hid hW1
  clear hW1
  obtain ⟨R, hR⟩ : ∃ R, W1.heap.size = R := ⟨_, rfl⟩
  obtain ⟨W2, hW2⟩ : ∃ W2, W1.alloc (.cells #[.slice none 0 0, .slice none 0 0, .bool false] 45) = W2 := ⟨_, rfl⟩
  have v2 : Below W1.heap.size W1 W2 := hW2 ▸ bal _ _
  have Y : Hid (Bx W2 R [.slice none 0 0, .slice none 0 0, .bool false]) := hW2 ▸ Lib.hid (Bx.put _ hR #[.slice none 0 0, .slice none 0 0, .bool false] 45)
  have TY : Hid (Ty W2 R 45) := hW2 ▸ hR ▸ Lib.hid (Ty.new _ _ _)
  have HW2 := Lib.hid hW2
  clear hW2
  obtain ⟨q, hq⟩ : ∃ q, W2.heap.size = q := ⟨_, rfl⟩
  obtain ⟨W3, hW3⟩ : ∃ W3, W2.alloc (.cells #[.slice D n c, .slice none 0 0, .bool true] 45) = W3 := ⟨_, rfl⟩
  have v3 : Below W2.heap.size W2 W3 := hW3 ▸ bal _ _
  have Z : Hid (Bx W3 q [.slice D n c, .slice none 0 0, .bool true]) := hW3 ▸ Lib.hid (Bx.put _ hq #[.slice D n c, .slice none 0 0, .bool true] 45)
  have TZ : Hid (Ty W3 q 45) := hW3 ▸ hq ▸ Lib.hid (Ty.new _ _ _)
  have HW3 := Lib.hid hW3
  clear hW3
  have bw := (v1.trans (v2.mono v1.size)).trans (v3.mono (v1.trans (v2.mono v1.size)).size)
  have hwR : w.heap.size ≤ R := by rw [← hR]; exact v1.size
  have X := Lib.hid ((X.out.nx v2).nx v3)
  have Y := Lib.hid (Y.out.nx v3)
  have eR : R = p + 1 := by rw [← hR, ← HW1.out, ← hp]; simp
  have eq : q = p + 1 + 1 := by rw [← hq, ← HW2.out, ← HW1.out, ← hp]; simp
  subst eR eq
  have xl := X.out.lt
  have yl := Y.out.lt
  have zl := Z.out.lt
  have x0 := X.out.at_ 0 (by simp)
  have x1 := X.out.at_ 1 (by simp)
  have x2 := X.out.at_ 2 (by simp)
  simp only [List.getElem?_cons_succ, List.getElem?_cons_zero] at x0 x1 x2
  have y0 := Y.out.at_ 0 (by simp)
  have y1 := Y.out.at_ 1 (by simp)
  have y2 := Y.out.at_ 2 (by simp)
  simp only [List.getElem?_cons_succ, List.getElem?_cons_zero] at y0 y1 y2
  have f0 := Y.out.fz 0 (by simp)
  have f1 := Y.out.fz 1 (by simp)
  have f2 := Y.out.fz 2 (by simp)
  have z0 := Z.out.at_ 0 (by simp)
  have z1 := Z.out.at_ 1 (by simp)
  have z2 := Z.out.at_ 2 (by simp)
  simp only [List.getElem?_cons_succ, List.getElem?_cons_zero] at z0 z1 z2
  have g0 := Z.out.fz 0 (by simp)
  have g1 := Z.out.fz 1 (by simp)
  have g2 := Z.out.fz 2 (by simp)
  go_enter Tryd.func56, Tryd.ntmps56
  go_upto_region 2 with fail
  rw [HW1.out, HW2.out, HW3.out]
  by_cases hk1 : k = 1
  · subst hk1
    by_cases hz : n = 0
    · subst hz
      have NN : Hid (chR ⟨1, t, dat⟩ = none) := Lib.hid (by
        have : dat = [] := List.eq_nil_of_length_eq_zero NL.out.symm
        subst this; rfl)
      go_wp2_with fail
      go_quiet (fail)
      obtain ⟨W4, hdrw⟩ : ∃ u, W3.drewN nq = u := ⟨_, rfl⟩
      rw [hdrw]
      have b4 : Below W3.heap.size W3 W4 := hdrw ▸ bdrewN (Below.refl _ _)
      clear hdrw
      replace bw := bw.trans (b4.mono bw.size)
      replace X := Lib.hid (X.out.nx b4)
      replace Y := Lib.hid (Y.out.nx b4)
      replace Z := Lib.hid (Z.out.nx b4)
      clear x0 x1 x2 y0 y1 y2 f0 f1 f2 z0 z1 z2 g0 g1 g2
      have y0 := Y.out.at_ 0 (by simp)
      have y1 := Y.out.at_ 1 (by simp)
      have y2 := Y.out.at_ 2 (by simp)
      simp only [List.getElem?_cons_succ, List.getElem?_cons_zero] at y0 y1 y2
      have f0 := Y.out.fz 0 (by simp)
      have f1 := Y.out.fz 1 (by simp)
      have f2 := Y.out.fz 2 (by simp)
      have RB := Lib.hid (res3_below (R := p + 1) (a := .slice none 0 0) (b := .slice none 0 0) (c := .bool false) bw hwR)
      obtain ⟨C0, C1, C2⟩ := res3_cells Y.out
      have C0 := Lib.hid C0
      have C1 := Lib.hid C1
      have C2 := Lib.hid C2
      go_wp2_with fail
      refine bodyPost_ret (v := .tuple #[.agg #[.slice none 0 0, .slice none 0 0, .bool false], .bool false]) (by simp [results, Tryd.results56, go_sem, C0.out, C1.out, C2.out]) rfl ?_
      exact ⟨none, none, 0, 0, 0, 0, [], [], false, false, rfl, .inl ⟨rfl, NN.out⟩, RB.out⟩
    · obtain ⟨g, o, x, rfl, hg, hx, hc⟩ := Rd.byte hd.out (k := 0) (by omega)
      obtain ⟨kn, hkn⟩ : ∃ kn, x.toNat = kn := ⟨_, rfl⟩
      rw [hkn] at hc
      have hc3 : W3.cell? ⟨g, o + 0, none⟩ = some (.int .u8 (kn : Int)) := by rw [bw.cell (p := ⟨g, o + 0, none⟩) hg]; exact hc
      rw [Nat.add_zero] at hc3
      have hkx : kn < 256 := by have := x.toNat_lt; omega
      have e0 : ((n : Int) == 0) = false := by simpa using hz
      have HX : Hid ((dat.getD 0 0).toNat = kn) := Lib.hid (by rw [List.getD_eq_getElem?_getD, hx]; exact hkn)
      have HC := Lib.hid hc
      clear hc hx hkn
      have hn0 : 0 < n := by omega
      by_cases h1 : n ≤ kn
      · have e1 : decide ((n : Int) ≤ (kn : Int)) = true := decide_eq_true (by omega)
        have NN : Hid (chR ⟨1, t, dat⟩ = none) := Lib.hid (if_pos ⟨rfl, by show dat.length ≤ (dat.getD 0 0).toNat; rw [HX.out, ← NL.out]; exact h1⟩)
        go_wp2_with fail
        go_quiet (fail)
        obtain ⟨W4, hdrw⟩ : ∃ u, W3.drewN nq = u := ⟨_, rfl⟩
        rw [hdrw]
        have b4 : Below W3.heap.size W3 W4 := hdrw ▸ bdrewN (Below.refl _ _)
        clear hdrw
        replace bw := bw.trans (b4.mono bw.size)
        replace X := Lib.hid (X.out.nx b4)
        replace Y := Lib.hid (Y.out.nx b4)
        replace Z := Lib.hid (Z.out.nx b4)
        clear x0 x1 x2 y0 y1 y2 f0 f1 f2 z0 z1 z2 g0 g1 g2
        have y0 := Y.out.at_ 0 (by simp)
        have y1 := Y.out.at_ 1 (by simp)
        have y2 := Y.out.at_ 2 (by simp)
        simp only [List.getElem?_cons_succ, List.getElem?_cons_zero] at y0 y1 y2
        have f0 := Y.out.fz 0 (by simp)
        have f1 := Y.out.fz 1 (by simp)
        have f2 := Y.out.fz 2 (by simp)
        have RB := Lib.hid (res3_below (R := p + 1) (a := .slice none 0 0) (b := .slice none 0 0) (c := .bool false) bw hwR)
        obtain ⟨C0, C1, C2⟩ := res3_cells Y.out
        have C0 := Lib.hid C0
        have C1 := Lib.hid C1
        have C2 := Lib.hid C2
        go_wp2_with fail
        refine bodyPost_ret (v := .tuple #[.agg #[.slice none 0 0, .slice none 0 0, .bool false], .bool false]) (by simp [results, Tryd.results56, go_sem, C0.out, C1.out, C2.out]) rfl ?_
        exact ⟨none, none, 0, 0, 0, 0, [], [], false, false, rfl, .inl ⟨rfl, NN.out⟩, RB.out⟩
      · have e1 : decide ((n : Int) ≤ (kn : Int)) = false := decide_eq_false (by omega)
        have hcn := hd.out.nc
        have hc63 := hd.out.c63
        go_wp2_with fail
        go_quiet (fail)
        obtain ⟨W4, hdrw⟩ : ∃ u, W3.drewN nq = u := ⟨_, rfl⟩
        rw [hdrw]
        have b4 : Below W3.heap.size W3 W4 := hdrw ▸ bdrewN (Below.refl _ _)
        clear hdrw
        replace bw := bw.trans (b4.mono bw.size)
        replace X := Lib.hid (X.out.nx b4)
        replace Y := Lib.hid (Y.out.nx b4)
        replace Z := Lib.hid (Z.out.nx b4)
        have hc4 := (bw.cell (p := ⟨g, o + 0, none⟩) hg).trans HC.out
        rw [Nat.add_zero] at hc4
        clear hc3 x0 x1 x2 y0 y1 y2 f0 f1 f2 z0 z1 z2 g0 g1 g2 xl yl zl
        have xl := X.out.lt
        have yl := Y.out.lt
        have zl := Z.out.lt
        have x0 := X.out.at_ 0 (by simp)
        have x1 := X.out.at_ 1 (by simp)
        have x2 := X.out.at_ 2 (by simp)
        simp only [List.getElem?_cons_succ, List.getElem?_cons_zero] at x0 x1 x2
        have y0 := Y.out.at_ 0 (by simp)
        have y1 := Y.out.at_ 1 (by simp)
        have y2 := Y.out.at_ 2 (by simp)
        simp only [List.getElem?_cons_succ, List.getElem?_cons_zero] at y0 y1 y2
        have f0 := Y.out.fz 0 (by simp)
        have f1 := Y.out.fz 1 (by simp)
        have f2 := Y.out.fz 2 (by simp)
        have z0 := Z.out.at_ 0 (by simp)
        have z1 := Z.out.at_ 1 (by simp)
        have z2 := Z.out.at_ 2 (by simp)
        simp only [List.getElem?_cons_succ, List.getElem?_cons_zero] at z0 z1 z2
        have g0 := Z.out.fz 0 (by simp)
        have g1 := Z.out.fz 1 (by simp)
        have g2 := Z.out.fz 2 (by simp)
        have LN : Hid (kn = ((dat.drop 1).take kn).length ∧ n - (kn + 1) = ((dat.drop 1).drop kn).length) := Lib.hid (by have := NL.out; simp; omega)
        have CH : Hid ((okN kn (n - (kn + 1)) false = false ∧ chR ⟨1, t, dat⟩ = none) ∨ (okN kn (n - (kn + 1)) false = true ∧ chR ⟨1, t, dat⟩ = some ⟨(dat.drop 1).take kn, (dat.drop 1).drop kn, false⟩)) := Lib.hid (by
          have e0 : chR0 ⟨1, t, dat⟩ = ⟨(dat.drop 1).take kn, (dat.drop 1).drop kn, false⟩ := by unfold chR0; rw [if_pos rfl]; show (⟨(dat.drop 1).take (dat.getD 0 0).toNat, (dat.drop 1).drop (dat.getD 0 0).toNat, false⟩ : Ch) = _; rw [HX.out]
          have e : chR ⟨1, t, dat⟩ = if okN kn (n - (kn + 1)) false = true then some ⟨(dat.drop 1).take kn, (dat.drop 1).drop kn, false⟩ else none := by
            unfold chR
            rw [if_neg (by show ¬ (_ ∧ dat.length ≤ (dat.getD 0 0).toNat); rw [HX.out, ← NL.out]; omega), e0]
            have e2 : Ch.ok ⟨(dat.drop 1).take kn, (dat.drop 1).drop kn, false⟩ = okN kn (n - (kn + 1)) false := by
              unfold Ch.ok; rw [← LN.out.1, ← LN.out.2]
            rw [e2]
            by_cases h : okN kn (n - (kn + 1)) false = true
            · rw [if_pos h]; exact if_pos ⟨by simp, h⟩
            · rw [if_neg h]; exact if_neg fun x => h x.2
          rw [e]
          cases okN kn (n - (kn + 1)) false <;> simp)
        have KD : Hid (∀ U, Rd U 1 (some ⟨g, o, none⟩) n c (bv dat) → Rd U 1 (some ⟨g, o + 1, none⟩) kn (c - 1) (bv ((dat.drop 1).take kn)) ∧ Rd U 1 (some ⟨g, o + (kn + 1), none⟩) (n - (kn + 1)) (c - (kn + 1)) (bv ((dat.drop 1).drop kn))) := Lib.hid fun U hU => by
          have h1 := hU.cut1 (lo := 1) (hi := kn + 1) (by omega) (by omega)
          have h2 := hU.tail (lo := kn + 1) (by omega)
          rw [bv_drop, bv_take, Nat.add_sub_cancel] at h1
          rw [List.drop_drop, Nat.add_comm 1 kn]
          exact ⟨h1, h2⟩
        by_cases hcc : c = kn + 1
        · have hmn : n = kn + 1 := by omega
          have hz0 : n - (kn + 1) = 0 := by omega
          rw [hz0] at LN CH
          have KD2 : Hid (∀ U, Rd U 1 (some ⟨g, o, none⟩) n c (bv dat) → Rd U 1 (some ⟨g, o, none⟩) 0 0 (bv ((dat.drop 1).drop kn))) := Lib.hid fun U hU => by
            have e : (dat.drop 1).drop kn = [] := List.eq_nil_of_length_eq_zero (by have := LN.out.2; omega)
            rw [e]
            exact ⟨rfl, by omega, fun e => (by cases e), by omega, fun h => by omega⟩
          have KD1 : Hid (∀ U, Rd U 1 (some ⟨g, o, none⟩) n c (bv dat) → Rd U 1 (some ⟨g, o + 1, none⟩) kn kn (bv ((dat.drop 1).take kn))) := Lib.hid fun U hU => by
            have := (KD.out U hU).1; rwa [hcc, Nat.add_sub_cancel] at this
          by_cases hk0 : kn = 0
          · subst hk0
            have hn1 : n = 1 := by omega
            have hc1 : c = 1 := by omega
            clear hmn hcc hz0
            subst hn1 hc1
            have VA : Hid (∀ U : World, Calls Tryd.prog 62 #[.agg #[.slice (some ⟨g, o, none⟩) 0 (0), .slice (some ⟨g, o, none⟩) (0) (0), .bool false]] U fun e w' => e = .returned (.bool (okN 0 (0) false)) ∧ Below U.heap.size U w') := Lib.hid fun U => valid_any U
            go_wp2_with fail
            go_region
            obtain ⟨W5, hW5⟩ : ∃ u, (((W4.setCell ⟨p + 1 + 1, 0, none⟩ (.slice (some ⟨g, o, none⟩) 0 (0))).setCell ⟨p + 1 + 1, 1, none⟩ (.slice (some ⟨g, o, none⟩) (0) (0))).setCell ⟨p + 1 + 1, 2, none⟩ (.bool false)).drew = u := ⟨_, rfl⟩
            rw [hW5]
            have Z5 : Hid (Bx W5 (p + 1 + 1) [.slice (some ⟨g, o, none⟩) 0 (0), .slice (some ⟨g, o, none⟩) (0) (0), .bool false]) := hW5 ▸ Lib.hid (((((Z.out.set (j := 0) (by simp) _).set (j := 1) (by simp) _).set (j := 2) (by simp) _)).step ((Below.refl _ _).drew))
            have X5 : Hid (Bx W5 p _) := hW5 ▸ Lib.hid ((((X.out.other (q := p + 1 + 1) (by omega) 0 _).other (q := p + 1 + 1) (by omega) 1 _).other (q := p + 1 + 1) (by omega) 2 _).step ((Below.refl _ _).drew))
            have Y5 : Hid (Bx W5 (p + 1) _) := hW5 ▸ Lib.hid ((((Y.out.other (q := p + 1 + 1) (by omega) 0 _).other (q := p + 1 + 1) (by omega) 1 _).other (q := p + 1 + 1) (by omega) 2 _).step ((Below.refl _ _).drew))
            have bw5 : Below w.heap.size w W5 := hW5 ▸ (res3_below bw (by omega)).drew
            clear hW5 x0 x1 x2 y0 y1 y2 f0 f1 f2 z0 z1 z2 g0 g1 g2 xl yl zl bw
            clear X Y Z
            have X := X5
            have Y := Y5
            have Z := Z5
            have bw := bw5
            clear X5 Y5 Z5 bw5
            have xl := X.out.lt
            have yl := Y.out.lt
            have zl := Z.out.lt
            go_wp2_with fail
            have hb : okN 0 0 false = false := rfl
            rw [hb] at VA CH
            clear hb
            -- region 7: from world W5 with X Y Z, bw
            have vd : Below W5.heap.size W5 W5.drew := (Below.refl _ _).drew
            have KQ : Hid (∀ U, Below W5.heap.size W5 U → (U.cell? ⟨p, 0, none⟩ = some (.int .i64 1) ∧ U.cell? ⟨p + 1 + 1, 0, none⟩ = some (.slice (some ⟨g, o, none⟩) (0) (0)) ∧ U.cell? ⟨p + 1 + 1, 1, none⟩ = some (.slice (some ⟨g, o, none⟩) (0) (0)) ∧ U.cell? ⟨p + 1 + 1, 2, none⟩ = some (.bool false)) ∧
                (U.cell? ⟨p + 1, 0, none⟩ = some (.slice none 0 0) ∧ U.cell? ⟨p + 1, 1, none⟩ = some (.slice none 0 0) ∧ U.cell? ⟨p + 1, 2, none⟩ = some (.bool false)) ∧ U.frozen? ⟨p + 1, 0, none⟩ = false ∧ U.frozen? ⟨p + 1, 1, none⟩ = false ∧ U.frozen? ⟨p + 1, 2, none⟩ = false) := Lib.hid fun U hU => by
              have X := Lib.hid (X.out.nx hU)
              have Y := Lib.hid (Y.out.nx hU)
              have Z := Lib.hid (Z.out.nx hU)
              have x0 := X.out.at_ 0 (by simp)
              have x1 := X.out.at_ 1 (by simp)
              have x2 := X.out.at_ 2 (by simp)
              simp only [List.getElem?_cons_succ, List.getElem?_cons_zero] at x0 x1 x2
              have y0 := Y.out.at_ 0 (by simp)
              have y1 := Y.out.at_ 1 (by simp)
              have y2 := Y.out.at_ 2 (by simp)
              simp only [List.getElem?_cons_succ, List.getElem?_cons_zero] at y0 y1 y2
              have f0 := Y.out.fz 0 (by simp)
              have f1 := Y.out.fz 1 (by simp)
              have f2 := Y.out.fz 2 (by simp)
              have z0 := Z.out.at_ 0 (by simp)
              have z1 := Z.out.at_ 1 (by simp)
              have z2 := Z.out.at_ 2 (by simp)
              simp only [List.getElem?_cons_succ, List.getElem?_cons_zero] at z0 z1 z2
              exact ⟨⟨x0, z0, z1, z2⟩, ⟨y0, y1, y2⟩, f0, f1, f2⟩
            have kd := KQ.out _ vd
            obtain ⟨⟨x0, z0, z1, z2⟩, ⟨y0, y1, y2⟩, f0, f1, f2⟩ := kd
            go_cut [3] from 44 (fun bv wx => bv = .bool false ∧ Hid (Bx wx (p + 1) [.slice (some ⟨g, o, none⟩) (0) (0), .slice (some ⟨g, o, none⟩) (0) (0), .bool false]) ∧ Below w.heap.size w wx)
            case first =>
              go_region_with
                (first
                  | (go_at_call 62; refine (VA.out _).mono ?_; rintro e wv ⟨rfl, bv⟩; have v6 := vd.trans (bv.mono vd.size); have k6 := KQ.out _ v6; have x0 := k6.1.1; have z0 := k6.1.2.1; have z1 := k6.1.2.2.1; have z2 := k6.1.2.2.2; have y0 := k6.2.1.1; have y1 := k6.2.1.2.1; have y2 := k6.2.1.2.2; have f0 := k6.2.2.1; have f1 := k6.2.2.2.1; have f2 := k6.2.2.2.2))
              all_goals (go_wp2_with fail; go_meet; exact ⟨rfl, Lib.hid ((((Y.out.nx v6).set (j := 0) (by simp) _).set (j := 1) (by simp) _).set (j := 2) (by simp) _), res3_below (bw.trans ((v6).mono bw.size)) hwR⟩)
            case rest =>
            obtain ⟨rfl, YY, bF⟩ := hcut
            clear x0 z0 z1 z2 y0 y1 y2 f0 f1 f2 vd KQ
            have y0 := YY.out.at_ 0 (by simp)
            have y1 := YY.out.at_ 1 (by simp)
            have y2 := YY.out.at_ 2 (by simp)
            simp only [List.getElem?_cons_succ, List.getElem?_cons_zero] at y0 y1 y2
            go_wp2_with fail
            refine bodyPost_ret (v := .tuple #[.agg #[.slice (some ⟨g, o, none⟩) (0) (0), .slice (some ⟨g, o, none⟩) (0) (0), .bool false], .bool false]) (by simp [results, Tryd.results56, go_sem, y0, y1, y2]) rfl ?_
            rcases CH.out with h | h
            · exact ⟨_, _, 0, _, 0, _, [], [], false, _, rfl, .inl ⟨rfl, h.2⟩, bF⟩
            · simp at h
          · have hc1 : ¬ c = 1 := by omega
            have q1 : c - 1 = kn := by omega
            have q2 : c - (kn + 1) = 0 := by omega
            have q3 : kn + 1 ≤ c := by omega
            have q4 : kn + 1 ≤ n := by omega
            have HCC := Lib.hid hcc
            have HMN := Lib.hid hmn
            clear hcc hmn
            have VA : Hid (∀ U : World, Calls Tryd.prog 62 #[.agg #[.slice (some ⟨g, o + 1, none⟩) kn (kn), .slice (some ⟨g, o, none⟩) (0) (0), .bool false]] U fun e w' => e = .returned (.bool (okN kn (0) false)) ∧ Below U.heap.size U w') := Lib.hid fun U => valid_any U
            go_wp2_with fail
            go_region
            obtain ⟨W5, hW5⟩ : ∃ u, (((W4.setCell ⟨p + 1 + 1, 0, none⟩ (.slice (some ⟨g, o + 1, none⟩) kn (kn))).setCell ⟨p + 1 + 1, 1, none⟩ (.slice (some ⟨g, o, none⟩) (0) (0))).setCell ⟨p + 1 + 1, 2, none⟩ (.bool false)).drew = u := ⟨_, rfl⟩
            rw [hW5]
            have Z5 : Hid (Bx W5 (p + 1 + 1) [.slice (some ⟨g, o + 1, none⟩) kn (kn), .slice (some ⟨g, o, none⟩) (0) (0), .bool false]) := hW5 ▸ Lib.hid (((((Z.out.set (j := 0) (by simp) _).set (j := 1) (by simp) _).set (j := 2) (by simp) _)).step ((Below.refl _ _).drew))
            have X5 : Hid (Bx W5 p _) := hW5 ▸ Lib.hid ((((X.out.other (q := p + 1 + 1) (by omega) 0 _).other (q := p + 1 + 1) (by omega) 1 _).other (q := p + 1 + 1) (by omega) 2 _).step ((Below.refl _ _).drew))
            have Y5 : Hid (Bx W5 (p + 1) _) := hW5 ▸ Lib.hid ((((Y.out.other (q := p + 1 + 1) (by omega) 0 _).other (q := p + 1 + 1) (by omega) 1 _).other (q := p + 1 + 1) (by omega) 2 _).step ((Below.refl _ _).drew))
            have bw5 : Below w.heap.size w W5 := hW5 ▸ (res3_below bw (by omega)).drew
            clear hW5 x0 x1 x2 y0 y1 y2 f0 f1 f2 z0 z1 z2 g0 g1 g2 xl yl zl bw
            clear X Y Z
            have X := X5
            have Y := Y5
            have Z := Z5
            have bw := bw5
            clear X5 Y5 Z5 bw5
            have xl := X.out.lt
            have yl := Y.out.lt
            have zl := Z.out.lt
            go_wp2_with fail
            cases hb : okN kn (0) false with
            | false =>
              rw [hb] at VA CH
              clear hb
              -- region 7: from world W5 with X Y Z, bw
              have vd : Below W5.heap.size W5 W5.drew := (Below.refl _ _).drew
              have KQ : Hid (∀ U, Below W5.heap.size W5 U → (U.cell? ⟨p, 0, none⟩ = some (.int .i64 1) ∧ U.cell? ⟨p + 1 + 1, 0, none⟩ = some (.slice (some ⟨g, o + 1, none⟩) (kn) (kn)) ∧ U.cell? ⟨p + 1 + 1, 1, none⟩ = some (.slice (some ⟨g, o, none⟩) (0) (0)) ∧ U.cell? ⟨p + 1 + 1, 2, none⟩ = some (.bool false)) ∧
                  (U.cell? ⟨p + 1, 0, none⟩ = some (.slice none 0 0) ∧ U.cell? ⟨p + 1, 1, none⟩ = some (.slice none 0 0) ∧ U.cell? ⟨p + 1, 2, none⟩ = some (.bool false)) ∧ U.frozen? ⟨p + 1, 0, none⟩ = false ∧ U.frozen? ⟨p + 1, 1, none⟩ = false ∧ U.frozen? ⟨p + 1, 2, none⟩ = false) := Lib.hid fun U hU => by
                have X := Lib.hid (X.out.nx hU)
                have Y := Lib.hid (Y.out.nx hU)
                have Z := Lib.hid (Z.out.nx hU)
                have x0 := X.out.at_ 0 (by simp)
                have x1 := X.out.at_ 1 (by simp)
                have x2 := X.out.at_ 2 (by simp)
                simp only [List.getElem?_cons_succ, List.getElem?_cons_zero] at x0 x1 x2
                have y0 := Y.out.at_ 0 (by simp)
                have y1 := Y.out.at_ 1 (by simp)
                have y2 := Y.out.at_ 2 (by simp)
                simp only [List.getElem?_cons_succ, List.getElem?_cons_zero] at y0 y1 y2
                have f0 := Y.out.fz 0 (by simp)
                have f1 := Y.out.fz 1 (by simp)
                have f2 := Y.out.fz 2 (by simp)
                have z0 := Z.out.at_ 0 (by simp)
                have z1 := Z.out.at_ 1 (by simp)
                have z2 := Z.out.at_ 2 (by simp)
                simp only [List.getElem?_cons_succ, List.getElem?_cons_zero] at z0 z1 z2
                exact ⟨⟨x0, z0, z1, z2⟩, ⟨y0, y1, y2⟩, f0, f1, f2⟩
              have kd := KQ.out _ vd
              obtain ⟨⟨x0, z0, z1, z2⟩, ⟨y0, y1, y2⟩, f0, f1, f2⟩ := kd
              go_cut [3] from 44 (fun bv wx => bv = .bool false ∧ Hid (Bx wx (p + 1) [.slice (some ⟨g, o + 1, none⟩) (kn) (kn), .slice (some ⟨g, o, none⟩) (0) (0), .bool false]) ∧ Below w.heap.size w wx)
              case first =>
                go_region_with
                  (first
                    | (go_at_call 62; refine (VA.out _).mono ?_; rintro e wv ⟨rfl, bv⟩; have v6 := vd.trans (bv.mono vd.size); have k6 := KQ.out _ v6; have x0 := k6.1.1; have z0 := k6.1.2.1; have z1 := k6.1.2.2.1; have z2 := k6.1.2.2.2; have y0 := k6.2.1.1; have y1 := k6.2.1.2.1; have y2 := k6.2.1.2.2; have f0 := k6.2.2.1; have f1 := k6.2.2.2.1; have f2 := k6.2.2.2.2))
                all_goals (go_wp2_with fail; go_meet; exact ⟨rfl, Lib.hid ((((Y.out.nx v6).set (j := 0) (by simp) _).set (j := 1) (by simp) _).set (j := 2) (by simp) _), res3_below (bw.trans ((v6).mono bw.size)) hwR⟩)
              case rest =>
              obtain ⟨rfl, YY, bF⟩ := hcut
              clear x0 z0 z1 z2 y0 y1 y2 f0 f1 f2 vd KQ
              have y0 := YY.out.at_ 0 (by simp)
              have y1 := YY.out.at_ 1 (by simp)
              have y2 := YY.out.at_ 2 (by simp)
              simp only [List.getElem?_cons_succ, List.getElem?_cons_zero] at y0 y1 y2
              go_wp2_with fail
              refine bodyPost_ret (v := .tuple #[.agg #[.slice (some ⟨g, o + 1, none⟩) (kn) (kn), .slice (some ⟨g, o, none⟩) (0) (0), .bool false], .bool false]) (by simp [results, Tryd.results56, go_sem, y0, y1, y2]) rfl ?_
              rcases CH.out with h | h
              · exact ⟨_, _, kn, _, 0, _, [], [], false, _, rfl, .inl ⟨rfl, h.2⟩, bF⟩
              · simp at h
            | true =>
              rw [hb] at VA CH
              clear hb
              -- region 7: from world W5 with X Y Z, bw
              have vd : Below W5.heap.size W5 W5.drew := (Below.refl _ _).drew
              have KQ : Hid (∀ U, Below W5.heap.size W5 U → (U.cell? ⟨p, 0, none⟩ = some (.int .i64 1) ∧ U.cell? ⟨p + 1 + 1, 0, none⟩ = some (.slice (some ⟨g, o + 1, none⟩) (kn) (kn)) ∧ U.cell? ⟨p + 1 + 1, 1, none⟩ = some (.slice (some ⟨g, o, none⟩) (0) (0)) ∧ U.cell? ⟨p + 1 + 1, 2, none⟩ = some (.bool false)) ∧
                  (U.cell? ⟨p + 1, 0, none⟩ = some (.slice none 0 0) ∧ U.cell? ⟨p + 1, 1, none⟩ = some (.slice none 0 0) ∧ U.cell? ⟨p + 1, 2, none⟩ = some (.bool false)) ∧ U.frozen? ⟨p + 1, 0, none⟩ = false ∧ U.frozen? ⟨p + 1, 1, none⟩ = false ∧ U.frozen? ⟨p + 1, 2, none⟩ = false) := Lib.hid fun U hU => by
                have X := Lib.hid (X.out.nx hU)
                have Y := Lib.hid (Y.out.nx hU)
                have Z := Lib.hid (Z.out.nx hU)
                have x0 := X.out.at_ 0 (by simp)
                have x1 := X.out.at_ 1 (by simp)
                have x2 := X.out.at_ 2 (by simp)
                simp only [List.getElem?_cons_succ, List.getElem?_cons_zero] at x0 x1 x2
                have y0 := Y.out.at_ 0 (by simp)
                have y1 := Y.out.at_ 1 (by simp)
                have y2 := Y.out.at_ 2 (by simp)
                simp only [List.getElem?_cons_succ, List.getElem?_cons_zero] at y0 y1 y2
                have f0 := Y.out.fz 0 (by simp)
                have f1 := Y.out.fz 1 (by simp)
                have f2 := Y.out.fz 2 (by simp)
                have z0 := Z.out.at_ 0 (by simp)
                have z1 := Z.out.at_ 1 (by simp)
                have z2 := Z.out.at_ 2 (by simp)
                simp only [List.getElem?_cons_succ, List.getElem?_cons_zero] at z0 z1 z2
                exact ⟨⟨x0, z0, z1, z2⟩, ⟨y0, y1, y2⟩, f0, f1, f2⟩
              have kd := KQ.out _ vd
              obtain ⟨⟨x0, z0, z1, z2⟩, ⟨y0, y1, y2⟩, f0, f1, f2⟩ := kd
              go_cut [3] from 44 (fun bv wx => bv = .bool true ∧ Hid (Bx wx (p + 1) [.slice (some ⟨g, o + 1, none⟩) (kn) (kn), .slice (some ⟨g, o, none⟩) (0) (0), .bool false]) ∧ Below w.heap.size w wx)
              case first =>
                go_region_with
                  (first
                    | (go_at_call 62; refine (VA.out _).mono ?_; rintro e wv ⟨rfl, bv⟩; have v6 := vd.trans (bv.mono vd.size); have k6 := KQ.out _ v6; have x0 := k6.1.1; have z0 := k6.1.2.1; have z1 := k6.1.2.2.1; have z2 := k6.1.2.2.2; have y0 := k6.2.1.1; have y1 := k6.2.1.2.1; have y2 := k6.2.1.2.2; have f0 := k6.2.2.1; have f1 := k6.2.2.2.1; have f2 := k6.2.2.2.2))
                all_goals (go_wp2_with fail; go_meet; exact ⟨rfl, Lib.hid ((((Y.out.nx v6).set (j := 0) (by simp) _).set (j := 1) (by simp) _).set (j := 2) (by simp) _), res3_below (bw.trans ((v6).mono bw.size)) hwR⟩)
              case rest =>
              obtain ⟨rfl, YY, bF⟩ := hcut
              clear x0 z0 z1 z2 y0 y1 y2 f0 f1 f2 vd KQ
              have y0 := YY.out.at_ 0 (by simp)
              have y1 := YY.out.at_ 1 (by simp)
              have y2 := YY.out.at_ 2 (by simp)
              simp only [List.getElem?_cons_succ, List.getElem?_cons_zero] at y0 y1 y2
              go_wp2_with fail
              refine bodyPost_ret (v := .tuple #[.agg #[.slice (some ⟨g, o + 1, none⟩) (kn) (kn), .slice (some ⟨g, o, none⟩) (0) (0), .bool false], .bool true]) (by simp [results, Tryd.results56, go_sem, y0, y1, y2]) rfl ?_
              rcases CH.out with h | h
              · simp at h
              · exact ⟨_, _, kn, _, 0, _, (dat.drop 1).take kn, (dat.drop 1).drop kn, false, _, rfl, .inr ⟨rfl, h.2, LN, Lib.hid ⟨by rw [← LN.out.1]; exact (KD1.out _ h0.out), by rw [← LN.out.2]; exact (KD2.out _ h0.out)⟩⟩, bF⟩
        · have hc1 : ¬ c = 1 := by omega
          have VA : Hid (∀ U : World, Calls Tryd.prog 62 #[.agg #[.slice (some ⟨g, o + 1, none⟩) kn (c - 1), .slice (some ⟨g, o + (kn + 1), none⟩) (n - (kn + 1)) (c - (kn + 1)), .bool false]] U fun e w' => e = .returned (.bool (okN kn (n - (kn + 1)) false)) ∧ Below U.heap.size U w') := Lib.hid fun U => valid_any U
          go_wp2_with fail
          go_region
          obtain ⟨W5, hW5⟩ : ∃ u, (((W4.setCell ⟨p + 1 + 1, 0, none⟩ (.slice (some ⟨g, o + 1, none⟩) kn (c - 1))).setCell ⟨p + 1 + 1, 1, none⟩ (.slice (some ⟨g, o + (kn + 1), none⟩) (n - (kn + 1)) (c - (kn + 1)))).setCell ⟨p + 1 + 1, 2, none⟩ (.bool false)).drew = u := ⟨_, rfl⟩
          rw [hW5]
          have Z5 : Hid (Bx W5 (p + 1 + 1) [.slice (some ⟨g, o + 1, none⟩) kn (c - 1), .slice (some ⟨g, o + (kn + 1), none⟩) (n - (kn + 1)) (c - (kn + 1)), .bool false]) := hW5 ▸ Lib.hid (((((Z.out.set (j := 0) (by simp) _).set (j := 1) (by simp) _).set (j := 2) (by simp) _)).step ((Below.refl _ _).drew))
          have X5 : Hid (Bx W5 p _) := hW5 ▸ Lib.hid ((((X.out.other (q := p + 1 + 1) (by omega) 0 _).other (q := p + 1 + 1) (by omega) 1 _).other (q := p + 1 + 1) (by omega) 2 _).step ((Below.refl _ _).drew))
          have Y5 : Hid (Bx W5 (p + 1) _) := hW5 ▸ Lib.hid ((((Y.out.other (q := p + 1 + 1) (by omega) 0 _).other (q := p + 1 + 1) (by omega) 1 _).other (q := p + 1 + 1) (by omega) 2 _).step ((Below.refl _ _).drew))
          have bw5 : Below w.heap.size w W5 := hW5 ▸ (res3_below bw (by omega)).drew
          clear hW5 x0 x1 x2 y0 y1 y2 f0 f1 f2 z0 z1 z2 g0 g1 g2 xl yl zl bw
          clear X Y Z
          have X := X5
          have Y := Y5
          have Z := Z5
          have bw := bw5
          clear X5 Y5 Z5 bw5
          have xl := X.out.lt
          have yl := Y.out.lt
          have zl := Z.out.lt
          go_wp2_with fail
          cases hb : okN kn (n - (kn + 1)) false with
          | false =>
            rw [hb] at VA CH
            clear hb
            -- region 7: from world W5 with X Y Z, bw
            have vd : Below W5.heap.size W5 W5.drew := (Below.refl _ _).drew
            have KQ : Hid (∀ U, Below W5.heap.size W5 U → (U.cell? ⟨p, 0, none⟩ = some (.int .i64 1) ∧ U.cell? ⟨p + 1 + 1, 0, none⟩ = some (.slice (some ⟨g, o + 1, none⟩) (kn) (c - 1)) ∧ U.cell? ⟨p + 1 + 1, 1, none⟩ = some (.slice (some ⟨g, o + (kn + 1), none⟩) (n - (kn + 1)) (c - (kn + 1))) ∧ U.cell? ⟨p + 1 + 1, 2, none⟩ = some (.bool false)) ∧
                (U.cell? ⟨p + 1, 0, none⟩ = some (.slice none 0 0) ∧ U.cell? ⟨p + 1, 1, none⟩ = some (.slice none 0 0) ∧ U.cell? ⟨p + 1, 2, none⟩ = some (.bool false)) ∧ U.frozen? ⟨p + 1, 0, none⟩ = false ∧ U.frozen? ⟨p + 1, 1, none⟩ = false ∧ U.frozen? ⟨p + 1, 2, none⟩ = false) := Lib.hid fun U hU => by
              have X := Lib.hid (X.out.nx hU)
              have Y := Lib.hid (Y.out.nx hU)
              have Z := Lib.hid (Z.out.nx hU)
              have x0 := X.out.at_ 0 (by simp)
              have x1 := X.out.at_ 1 (by simp)
              have x2 := X.out.at_ 2 (by simp)
              simp only [List.getElem?_cons_succ, List.getElem?_cons_zero] at x0 x1 x2
              have y0 := Y.out.at_ 0 (by simp)
              have y1 := Y.out.at_ 1 (by simp)
              have y2 := Y.out.at_ 2 (by simp)
              simp only [List.getElem?_cons_succ, List.getElem?_cons_zero] at y0 y1 y2
              have f0 := Y.out.fz 0 (by simp)
              have f1 := Y.out.fz 1 (by simp)
              have f2 := Y.out.fz 2 (by simp)
              have z0 := Z.out.at_ 0 (by simp)
              have z1 := Z.out.at_ 1 (by simp)
              have z2 := Z.out.at_ 2 (by simp)
              simp only [List.getElem?_cons_succ, List.getElem?_cons_zero] at z0 z1 z2
              exact ⟨⟨x0, z0, z1, z2⟩, ⟨y0, y1, y2⟩, f0, f1, f2⟩
            have kd := KQ.out _ vd
            obtain ⟨⟨x0, z0, z1, z2⟩, ⟨y0, y1, y2⟩, f0, f1, f2⟩ := kd
            go_cut [3] from 44 (fun bv wx => bv = .bool false ∧ Hid (Bx wx (p + 1) [.slice (some ⟨g, o + 1, none⟩) (kn) (c - 1), .slice (some ⟨g, o + (kn + 1), none⟩) (n - (kn + 1)) (c - (kn + 1)), .bool false]) ∧ Below w.heap.size w wx)
            case first =>
              go_region_with
                (first
                  | (go_at_call 62; refine (VA.out _).mono ?_; rintro e wv ⟨rfl, bv⟩; have v6 := vd.trans (bv.mono vd.size); have k6 := KQ.out _ v6; have x0 := k6.1.1; have z0 := k6.1.2.1; have z1 := k6.1.2.2.1; have z2 := k6.1.2.2.2; have y0 := k6.2.1.1; have y1 := k6.2.1.2.1; have y2 := k6.2.1.2.2; have f0 := k6.2.2.1; have f1 := k6.2.2.2.1; have f2 := k6.2.2.2.2))
              all_goals (go_wp2_with fail; go_meet; exact ⟨rfl, Lib.hid ((((Y.out.nx v6).set (j := 0) (by simp) _).set (j := 1) (by simp) _).set (j := 2) (by simp) _), res3_below (bw.trans ((v6).mono bw.size)) hwR⟩)
            case rest =>
            obtain ⟨rfl, YY, bF⟩ := hcut
            clear x0 z0 z1 z2 y0 y1 y2 f0 f1 f2 vd KQ
            have y0 := YY.out.at_ 0 (by simp)
            have y1 := YY.out.at_ 1 (by simp)
            have y2 := YY.out.at_ 2 (by simp)
            simp only [List.getElem?_cons_succ, List.getElem?_cons_zero] at y0 y1 y2
            go_wp2_with fail
            refine bodyPost_ret (v := .tuple #[.agg #[.slice (some ⟨g, o + 1, none⟩) (kn) (c - 1), .slice (some ⟨g, o + (kn + 1), none⟩) (n - (kn + 1)) (c - (kn + 1)), .bool false], .bool false]) (by simp [results, Tryd.results56, go_sem, y0, y1, y2]) rfl ?_
            rcases CH.out with h | h
            · exact ⟨_, _, kn, _, n - (kn + 1), _, [], [], false, _, rfl, .inl ⟨rfl, h.2⟩, bF⟩
            · simp at h
          | true =>
            rw [hb] at VA CH
            clear hb
            -- region 7: from world W5 with X Y Z, bw
            have vd : Below W5.heap.size W5 W5.drew := (Below.refl _ _).drew
            have KQ : Hid (∀ U, Below W5.heap.size W5 U → (U.cell? ⟨p, 0, none⟩ = some (.int .i64 1) ∧ U.cell? ⟨p + 1 + 1, 0, none⟩ = some (.slice (some ⟨g, o + 1, none⟩) (kn) (c - 1)) ∧ U.cell? ⟨p + 1 + 1, 1, none⟩ = some (.slice (some ⟨g, o + (kn + 1), none⟩) (n - (kn + 1)) (c - (kn + 1))) ∧ U.cell? ⟨p + 1 + 1, 2, none⟩ = some (.bool false)) ∧
                (U.cell? ⟨p + 1, 0, none⟩ = some (.slice none 0 0) ∧ U.cell? ⟨p + 1, 1, none⟩ = some (.slice none 0 0) ∧ U.cell? ⟨p + 1, 2, none⟩ = some (.bool false)) ∧ U.frozen? ⟨p + 1, 0, none⟩ = false ∧ U.frozen? ⟨p + 1, 1, none⟩ = false ∧ U.frozen? ⟨p + 1, 2, none⟩ = false) := Lib.hid fun U hU => by
              have X := Lib.hid (X.out.nx hU)
              have Y := Lib.hid (Y.out.nx hU)
              have Z := Lib.hid (Z.out.nx hU)
              have x0 := X.out.at_ 0 (by simp)
              have x1 := X.out.at_ 1 (by simp)
              have x2 := X.out.at_ 2 (by simp)
              simp only [List.getElem?_cons_succ, List.getElem?_cons_zero] at x0 x1 x2
              have y0 := Y.out.at_ 0 (by simp)
              have y1 := Y.out.at_ 1 (by simp)
              have y2 := Y.out.at_ 2 (by simp)
              simp only [List.getElem?_cons_succ, List.getElem?_cons_zero] at y0 y1 y2
              have f0 := Y.out.fz 0 (by simp)
              have f1 := Y.out.fz 1 (by simp)
              have f2 := Y.out.fz 2 (by simp)
              have z0 := Z.out.at_ 0 (by simp)
              have z1 := Z.out.at_ 1 (by simp)
              have z2 := Z.out.at_ 2 (by simp)
              simp only [List.getElem?_cons_succ, List.getElem?_cons_zero] at z0 z1 z2
              exact ⟨⟨x0, z0, z1, z2⟩, ⟨y0, y1, y2⟩, f0, f1, f2⟩
            have kd := KQ.out _ vd
            obtain ⟨⟨x0, z0, z1, z2⟩, ⟨y0, y1, y2⟩, f0, f1, f2⟩ := kd
            go_cut [3] from 44 (fun bv wx => bv = .bool true ∧ Hid (Bx wx (p + 1) [.slice (some ⟨g, o + 1, none⟩) (kn) (c - 1), .slice (some ⟨g, o + (kn + 1), none⟩) (n - (kn + 1)) (c - (kn + 1)), .bool false]) ∧ Below w.heap.size w wx)
            case first =>
              go_region_with
                (first
                  | (go_at_call 62; refine (VA.out _).mono ?_; rintro e wv ⟨rfl, bv⟩; have v6 := vd.trans (bv.mono vd.size); have k6 := KQ.out _ v6; have x0 := k6.1.1; have z0 := k6.1.2.1; have z1 := k6.1.2.2.1; have z2 := k6.1.2.2.2; have y0 := k6.2.1.1; have y1 := k6.2.1.2.1; have y2 := k6.2.1.2.2; have f0 := k6.2.2.1; have f1 := k6.2.2.2.1; have f2 := k6.2.2.2.2))
              all_goals (go_wp2_with fail; go_meet; exact ⟨rfl, Lib.hid ((((Y.out.nx v6).set (j := 0) (by simp) _).set (j := 1) (by simp) _).set (j := 2) (by simp) _), res3_below (bw.trans ((v6).mono bw.size)) hwR⟩)
            case rest =>
            obtain ⟨rfl, YY, bF⟩ := hcut
            clear x0 z0 z1 z2 y0 y1 y2 f0 f1 f2 vd KQ
            have y0 := YY.out.at_ 0 (by simp)
            have y1 := YY.out.at_ 1 (by simp)
            have y2 := YY.out.at_ 2 (by simp)
            simp only [List.getElem?_cons_succ, List.getElem?_cons_zero] at y0 y1 y2
            go_wp2_with fail
            refine bodyPost_ret (v := .tuple #[.agg #[.slice (some ⟨g, o + 1, none⟩) (kn) (c - 1), .slice (some ⟨g, o + (kn + 1), none⟩) (n - (kn + 1)) (c - (kn + 1)), .bool false], .bool true]) (by simp [results, Tryd.results56, go_sem, y0, y1, y2]) rfl ?_
            rcases CH.out with h | h
            · simp at h
            · exact ⟨_, _, kn, _, n - (kn + 1), _, (dat.drop 1).take kn, (dat.drop 1).drop kn, false, _, rfl, .inr ⟨rfl, h.2, LN, Lib.hid ⟨by rw [← LN.out.1]; exact (KD.out _ h0.out).1, by rw [← LN.out.2]; exact (KD.out _ h0.out).2⟩⟩, bF⟩
  · have e1 : decide (k = 1) = false := decide_eq_false hk1
    by_cases hk3 : k = 3
    · subst hk3
      have NN : Hid (chR ⟨3, t, dat⟩ = none) := Lib.hid (by unfold chR; rw [if_neg (by simp), if_neg (by simp)])
      go_wp2_with fail
      clear x0 x1 x2 y0 y1 y2 f0 f1 f2 z0 z1 z2 g0 g1 g2
      have e3 : ((3 : Int) != 3) = false := rfl
      -- region 7: from world W3 with X Y Z, bw
      have vd : Below W3.heap.size W3 W3.drew := (Below.refl _ _).drew
      have KQ : Hid (∀ U, Below W3.heap.size W3 U → (U.cell? ⟨p, 0, none⟩ = some (.int .i64 3) ∧ U.cell? ⟨p + 1 + 1, 0, none⟩ = some (.slice (D) (n) (c)) ∧ U.cell? ⟨p + 1 + 1, 1, none⟩ = some (.slice (none) (0) (0)) ∧ U.cell? ⟨p + 1 + 1, 2, none⟩ = some (.bool true)) ∧
          (U.cell? ⟨p + 1, 0, none⟩ = some (.slice none 0 0) ∧ U.cell? ⟨p + 1, 1, none⟩ = some (.slice none 0 0) ∧ U.cell? ⟨p + 1, 2, none⟩ = some (.bool false)) ∧ U.frozen? ⟨p + 1, 0, none⟩ = false ∧ U.frozen? ⟨p + 1, 1, none⟩ = false ∧ U.frozen? ⟨p + 1, 2, none⟩ = false) := Lib.hid fun U hU => by
        have X := Lib.hid (X.out.nx hU)
        have Y := Lib.hid (Y.out.nx hU)
        have Z := Lib.hid (Z.out.nx hU)
        have x0 := X.out.at_ 0 (by simp)
        have x1 := X.out.at_ 1 (by simp)
        have x2 := X.out.at_ 2 (by simp)
        simp only [List.getElem?_cons_succ, List.getElem?_cons_zero] at x0 x1 x2
        have y0 := Y.out.at_ 0 (by simp)
        have y1 := Y.out.at_ 1 (by simp)
        have y2 := Y.out.at_ 2 (by simp)
        simp only [List.getElem?_cons_succ, List.getElem?_cons_zero] at y0 y1 y2
        have f0 := Y.out.fz 0 (by simp)
        have f1 := Y.out.fz 1 (by simp)
        have f2 := Y.out.fz 2 (by simp)
        have z0 := Z.out.at_ 0 (by simp)
        have z1 := Z.out.at_ 1 (by simp)
        have z2 := Z.out.at_ 2 (by simp)
        simp only [List.getElem?_cons_succ, List.getElem?_cons_zero] at z0 z1 z2
        exact ⟨⟨x0, z0, z1, z2⟩, ⟨y0, y1, y2⟩, f0, f1, f2⟩
      have kd := KQ.out _ (Below.refl _ _)
      obtain ⟨⟨x0, z0, z1, z2⟩, ⟨y0, y1, y2⟩, f0, f1, f2⟩ := kd
      go_cut [3] from 44 (fun bv wx => bv = .bool false ∧ Hid (Bx wx (p + 1) [.slice (D) (n) (c), .slice (none) (0) (0), .bool true]) ∧ Below w.heap.size w wx)
      case first =>
        go_region_with (fail)
        all_goals (go_wp2_with fail; go_meet; exact ⟨rfl, Lib.hid ((((Y.out.nx vd).set (j := 0) (by simp) _).set (j := 1) (by simp) _).set (j := 2) (by simp) _), res3_below (bw.trans ((vd).mono bw.size)) hwR⟩)
      case rest =>
      obtain ⟨rfl, YY, bF⟩ := hcut
      clear x0 z0 z1 z2 y0 y1 y2 f0 f1 f2 vd KQ
      have y0 := YY.out.at_ 0 (by simp)
      have y1 := YY.out.at_ 1 (by simp)
      have y2 := YY.out.at_ 2 (by simp)
      simp only [List.getElem?_cons_succ, List.getElem?_cons_zero] at y0 y1 y2
      go_wp2_with fail
      refine bodyPost_ret (v := .tuple #[.agg #[.slice (D) (n) (c), .slice (none) (0) (0), .bool true], .bool false]) (by simp [results, Tryd.results56, go_sem, y0, y1, y2]) rfl ?_
      exact ⟨D, none, n, c, 0, 0, [], [], true, false, rfl, .inl ⟨rfl, NN.out⟩, bF⟩
    · have hk2 : k = 2 := by have := hk.out; omega
      subst hk2
      have H0 := Lib.hid (hd.out.nx bw)
      have CH : Hid ((okN n 0 true = false ∧ chR ⟨2, t, dat⟩ = none) ∨ (okN n 0 true = true ∧ chR ⟨2, t, dat⟩ = some ⟨dat, [], true⟩)) := Lib.hid (by
        have e : chR ⟨2, t, dat⟩ = if (Ch.ok ⟨dat, [], true⟩) = true then some ⟨dat, [], true⟩ else none := by
          unfold chR
          rw [if_neg (by simp)]
          by_cases h : Ch.ok ⟨dat, [], true⟩ = true
          · rw [if_pos h]; exact if_pos ⟨by simp, h⟩
          · rw [if_neg h]; exact if_neg fun x => h x.2
        have e2 : Ch.ok ⟨dat, [], true⟩ = okN n 0 true := by unfold Ch.ok; rw [NL.out]; rfl
        rw [e, e2]
        cases okN n 0 true <;> simp)
      have VA : Hid (∀ U : World, Calls Tryd.prog 62 #[.agg #[.slice D n c, .slice none 0 0, .bool true]] U fun e w' => e = .returned (.bool (okN n 0 true)) ∧ Below U.heap.size U w') := Lib.hid fun U => valid_any U
      go_wp2_with fail
      clear x0 x1 x2 y0 y1 y2 f0 f1 f2 z0 z1 z2 g0 g1 g2
      cases hb : okN n 0 true with
      | false =>
        rw [hb] at VA CH
        clear hb
        -- region 7: from world W3 with X Y Z, bw
        have vd : Below W3.heap.size W3 W3.drew := (Below.refl _ _).drew
        have KQ : Hid (∀ U, Below W3.heap.size W3 U → (U.cell? ⟨p, 0, none⟩ = some (.int .i64 2) ∧ U.cell? ⟨p + 1 + 1, 0, none⟩ = some (.slice (D) (n) (c)) ∧ U.cell? ⟨p + 1 + 1, 1, none⟩ = some (.slice (none) (0) (0)) ∧ U.cell? ⟨p + 1 + 1, 2, none⟩ = some (.bool true)) ∧
            (U.cell? ⟨p + 1, 0, none⟩ = some (.slice none 0 0) ∧ U.cell? ⟨p + 1, 1, none⟩ = some (.slice none 0 0) ∧ U.cell? ⟨p + 1, 2, none⟩ = some (.bool false)) ∧ U.frozen? ⟨p + 1, 0, none⟩ = false ∧ U.frozen? ⟨p + 1, 1, none⟩ = false ∧ U.frozen? ⟨p + 1, 2, none⟩ = false) := Lib.hid fun U hU => by
          have X := Lib.hid (X.out.nx hU)
          have Y := Lib.hid (Y.out.nx hU)
          have Z := Lib.hid (Z.out.nx hU)
          have x0 := X.out.at_ 0 (by simp)
          have x1 := X.out.at_ 1 (by simp)
          have x2 := X.out.at_ 2 (by simp)
          simp only [List.getElem?_cons_succ, List.getElem?_cons_zero] at x0 x1 x2
          have y0 := Y.out.at_ 0 (by simp)
          have y1 := Y.out.at_ 1 (by simp)
          have y2 := Y.out.at_ 2 (by simp)
          simp only [List.getElem?_cons_succ, List.getElem?_cons_zero] at y0 y1 y2
          have f0 := Y.out.fz 0 (by simp)
          have f1 := Y.out.fz 1 (by simp)
          have f2 := Y.out.fz 2 (by simp)
          have z0 := Z.out.at_ 0 (by simp)
          have z1 := Z.out.at_ 1 (by simp)
          have z2 := Z.out.at_ 2 (by simp)
          simp only [List.getElem?_cons_succ, List.getElem?_cons_zero] at z0 z1 z2
          exact ⟨⟨x0, z0, z1, z2⟩, ⟨y0, y1, y2⟩, f0, f1, f2⟩
        have kd := KQ.out _ vd
        obtain ⟨⟨x0, z0, z1, z2⟩, ⟨y0, y1, y2⟩, f0, f1, f2⟩ := kd
        go_cut [3] from 44 (fun bv wx => bv = .bool false ∧ Hid (Bx wx (p + 1) [.slice (D) (n) (c), .slice (none) (0) (0), .bool true]) ∧ Below w.heap.size w wx)
        case first =>
          go_region_with
            (first
              | (go_at_call 62; refine (VA.out _).mono ?_; rintro e wv ⟨rfl, bv⟩; have v6 := vd.trans (bv.mono vd.size); have k6 := KQ.out _ v6; have x0 := k6.1.1; have z0 := k6.1.2.1; have z1 := k6.1.2.2.1; have z2 := k6.1.2.2.2; have y0 := k6.2.1.1; have y1 := k6.2.1.2.1; have y2 := k6.2.1.2.2; have f0 := k6.2.2.1; have f1 := k6.2.2.2.1; have f2 := k6.2.2.2.2))
          all_goals (go_wp2_with fail; go_meet; exact ⟨rfl, Lib.hid ((((Y.out.nx v6).set (j := 0) (by simp) _).set (j := 1) (by simp) _).set (j := 2) (by simp) _), res3_below (bw.trans ((v6).mono bw.size)) hwR⟩)
        case rest =>
        obtain ⟨rfl, YY, bF⟩ := hcut
        clear x0 z0 z1 z2 y0 y1 y2 f0 f1 f2 vd KQ
        have y0 := YY.out.at_ 0 (by simp)
        have y1 := YY.out.at_ 1 (by simp)
        have y2 := YY.out.at_ 2 (by simp)
        simp only [List.getElem?_cons_succ, List.getElem?_cons_zero] at y0 y1 y2
        go_wp2_with fail
        refine bodyPost_ret (v := .tuple #[.agg #[.slice (D) (n) (c), .slice (none) (0) (0), .bool true], .bool false]) (by simp [results, Tryd.results56, go_sem, y0, y1, y2]) rfl ?_
        rcases CH.out with h | h
        · exact ⟨D, none, n, c, 0, 0, [], [], true, _, rfl, .inl ⟨rfl, h.2⟩, bF⟩
        · simp at h
      | true =>
        rw [hb] at VA CH
        clear hb
        -- region 7: from world W3 with X Y Z, bw
        have vd : Below W3.heap.size W3 W3.drew := (Below.refl _ _).drew
        have KQ : Hid (∀ U, Below W3.heap.size W3 U → (U.cell? ⟨p, 0, none⟩ = some (.int .i64 2) ∧ U.cell? ⟨p + 1 + 1, 0, none⟩ = some (.slice (D) (n) (c)) ∧ U.cell? ⟨p + 1 + 1, 1, none⟩ = some (.slice (none) (0) (0)) ∧ U.cell? ⟨p + 1 + 1, 2, none⟩ = some (.bool true)) ∧
            (U.cell? ⟨p + 1, 0, none⟩ = some (.slice none 0 0) ∧ U.cell? ⟨p + 1, 1, none⟩ = some (.slice none 0 0) ∧ U.cell? ⟨p + 1, 2, none⟩ = some (.bool false)) ∧ U.frozen? ⟨p + 1, 0, none⟩ = false ∧ U.frozen? ⟨p + 1, 1, none⟩ = false ∧ U.frozen? ⟨p + 1, 2, none⟩ = false) := Lib.hid fun U hU => by
          have X := Lib.hid (X.out.nx hU)
          have Y := Lib.hid (Y.out.nx hU)
          have Z := Lib.hid (Z.out.nx hU)
          have x0 := X.out.at_ 0 (by simp)
          have x1 := X.out.at_ 1 (by simp)
          have x2 := X.out.at_ 2 (by simp)
          simp only [List.getElem?_cons_succ, List.getElem?_cons_zero] at x0 x1 x2
          have y0 := Y.out.at_ 0 (by simp)
          have y1 := Y.out.at_ 1 (by simp)
          have y2 := Y.out.at_ 2 (by simp)
          simp only [List.getElem?_cons_succ, List.getElem?_cons_zero] at y0 y1 y2
          have f0 := Y.out.fz 0 (by simp)
          have f1 := Y.out.fz 1 (by simp)
          have f2 := Y.out.fz 2 (by simp)
          have z0 := Z.out.at_ 0 (by simp)
          have z1 := Z.out.at_ 1 (by simp)
          have z2 := Z.out.at_ 2 (by simp)
          simp only [List.getElem?_cons_succ, List.getElem?_cons_zero] at z0 z1 z2
          exact ⟨⟨x0, z0, z1, z2⟩, ⟨y0, y1, y2⟩, f0, f1, f2⟩
        have kd := KQ.out _ vd
        obtain ⟨⟨x0, z0, z1, z2⟩, ⟨y0, y1, y2⟩, f0, f1, f2⟩ := kd
        go_cut [3] from 44 (fun bv wx => bv = .bool true ∧ Hid (Bx wx (p + 1) [.slice (D) (n) (c), .slice (none) (0) (0), .bool true]) ∧ Below w.heap.size w wx)
        case first =>
          go_region_with
            (first
              | (go_at_call 62; refine (VA.out _).mono ?_; rintro e wv ⟨rfl, bv⟩; have v6 := vd.trans (bv.mono vd.size); have k6 := KQ.out _ v6; have x0 := k6.1.1; have z0 := k6.1.2.1; have z1 := k6.1.2.2.1; have z2 := k6.1.2.2.2; have y0 := k6.2.1.1; have y1 := k6.2.1.2.1; have y2 := k6.2.1.2.2; have f0 := k6.2.2.1; have f1 := k6.2.2.2.1; have f2 := k6.2.2.2.2))
          all_goals (go_wp2_with fail; go_meet; exact ⟨rfl, Lib.hid ((((Y.out.nx v6).set (j := 0) (by simp) _).set (j := 1) (by simp) _).set (j := 2) (by simp) _), res3_below (bw.trans ((v6).mono bw.size)) hwR⟩)
        case rest =>
        obtain ⟨rfl, YY, bF⟩ := hcut
        clear x0 z0 z1 z2 y0 y1 y2 f0 f1 f2 vd KQ
        have y0 := YY.out.at_ 0 (by simp)
        have y1 := YY.out.at_ 1 (by simp)
        have y2 := YY.out.at_ 2 (by simp)
        simp only [List.getElem?_cons_succ, List.getElem?_cons_zero] at y0 y1 y2
        go_wp2_with fail
        refine bodyPost_ret (v := .tuple #[.agg #[.slice (D) (n) (c), .slice (none) (0) (0), .bool true], .bool true]) (by simp [results, Tryd.results56, go_sem, y0, y1, y2]) rfl ?_
        have HD := h0
        rcases CH.out with h | h
        · simp at h
        · exact ⟨D, none, n, c, 0, 0, dat, [], true, _, rfl, .inr ⟨rfl, h.2, Lib.hid ⟨NL.out, rfl⟩, Lib.hid ⟨by rw [← NL.out]; exact HD.out, Rd.nil_ _ _⟩⟩, bF⟩
end Go.Proofs.YtpmkohnljngbhaaDoor.Sr
