/- Walks: Equal and EqualFunc of the package slices, entries, few. -/
import Derived.Test.YtphiblmkgbkdmaaDoorPgR5
namespace Go.Proofs.YtphiblmkgbkdmaaDoor.Pg
set_option linter.unusedVariables false
set_option linter.unusedSimpArgs false
open Go.RowKit Wl

theorem eq_at {a b : List UInt8} {j : Nat} {x y : UInt8} (h : a.take j = b.take j) (hx : a[j]? = some x) (hy : b[j]? = some y) (e : x = y) : a.take (j + 1) = b.take (j + 1) := by
  rw [List.take_add_one, List.take_add_one, h, hx, hy, e]
set_option maxRecDepth 20000 in
set_option maxHeartbeats 1600000 in
theorem sEqual_any {A B : Option Addr} {n c m d : Nat} {a b : List UInt8} (w : World) (h : Hid (Rd w 1 A n c (bv a))) (k : Hid (Rd w 1 B m d (bv b))) :
    Calls Tryd.prog 29 #[.slice A n c, .slice B m d] w fun e w' => e = .returned (.bool (eqB a b)) ∧ Below w.heap.size w w' := by
  have na : Hid (n = a.length) := Lib.hid (by have := h.out.len; rw [bv_len] at this; omega)
  have mb : Hid (m = b.length) := Lib.hid (by have := k.out.len; rw [bv_len] at this; omega)
  have nc := h.out.nc
  have n63 := h.out.c63
  have mc := k.out.nc
  have m63 := k.out.c63
  go_enter Tryd.func29, Tryd.ntmps29
  by_cases hnm : n = m
  case neg =>
    have R : Hid (eqB a b = false) := Lib.hid (eqB_f fun e => hnm (by rw [na.out, mb.out, e]))
    have e1 : decide ((n : Int) = (m : Int)) = false := decide_eq_false (by omega)
    have e2 : ((n : Int) == (m : Int)) = false := by simp; omega
    go_wp2_with fail
    go_ret
    exact ⟨by rw [R.out]; first | done | rfl, Below.refl _ _⟩
  obtain rfl := hnm
  go_wp2_with fail
  go_loopw [13] (fun iv wr => ∃ i q : Nat, i ≤ n ∧ iv = .int .i64 i ∧ Hid (a.take i = b.take i) ∧ w.drewN q = wr) (fun iv _ => (n - intOf iv).toNat)
  case atStart => exact ⟨0, 0, by omega, rfl, Lib.hid rfl, rfl⟩
  case round =>
    obtain ⟨i, q, hi, rfl, HC, rfl⟩ := hrel
    by_cases h1 : i < n
    · have d1 : decide ((i : Int) < (n : Int)) = true := decide_eq_true (by omega)
      obtain ⟨ga, oa, x, rfl, hga, hx, ca⟩ := rd_byte h.out h1
      obtain ⟨gb, ob, y, rfl, hgb, hy, cb⟩ := rd_byte k.out h1
      by_cases hxy : x = y
      · have R := Lib.hid (eq_at HC.out hx hy hxy)
        subst hxy
        obtain ⟨X, hX⟩ : ∃ X : Int, (x.toNat : Int) = X := ⟨_, rfl⟩
        rw [hX] at ca cb
        clear hx hy hX
        go_wp2_with fail
        go_quiet (fail)
        go_wp2_with fail
        go_roundw
        case rel => exact ⟨i + 1, _, by omega, by first | trivial | go_num, R, by first | rfl | exact (World.drewN_drewN _ _ _).symm⟩
        case measure => simp [intOf]; omega
      · have R : Hid (eqB a b = false) := Lib.hid (eqB_f fun e => hxy (by subst e; rw [hx] at hy; injection hy))
        obtain ⟨X, hX⟩ : ∃ X : Int, (x.toNat : Int) = X := ⟨_, rfl⟩
        obtain ⟨Y, hY⟩ : ∃ Y : Int, (y.toNat : Int) = Y := ⟨_, rfl⟩
        have ne : X ≠ Y := fun e => hxy (by
          apply UInt8.toNat_inj.1; omega)
        rw [hX] at ca
        rw [hY] at cb
        have e1 : decide (X = Y) = false := decide_eq_false ne
        have e2 : (X == Y) = false := by simpa using ne
        clear hx hy hX hY hxy
        go_wp2_with fail
        go_quiet (fail)
        go_wp2_with fail
        go_ret
        exact ⟨by rw [R.out]; first | done | rfl, by first | exact bdrewN (bdrewN (Below.refl _ _)) | exact bdrewN (bdrewN (bdrewN (Below.refl _ _)))⟩
    · obtain rfl : i = n := by omega
      have d1 : decide ((i : Int) < (i : Int)) = false := decide_eq_false (by omega)
      have R : Hid (eqB a b = true) := Lib.hid (eqB_iff.2 (by have := HC.out; rwa [List.take_of_length_le (by have := na.out; omega), List.take_of_length_le (by have := mb.out; omega)] at this))
      go_wp2_with fail
      go_ret
      exact ⟨by rw [R.out]; first | done | rfl, bdrewN (Below.refl _ _)⟩
set_option maxRecDepth 20000 in
set_option maxHeartbeats 1600000 in
theorem entries1_any {x y : EV} (w : World) (x1 : Hid (Rd w 1 x.A x.k.length x.c (bv x.k))) (x2 : Hid (Rd w 1 x.B x.v.length x.d (bv x.v))) (y1 : Hid (Rd w 1 y.A y.k.length y.c (bv y.k))) (y2 : Hid (Rd w 1 y.B y.v.length y.d (bv y.v))) (hl : Hid (x.k = y.k ∧ x.v = y.v)) :
    Calls Tryd.prog 63 #[.agg #[.slice x.A x.k.length x.c, .slice x.B x.v.length x.d], .agg #[.slice y.A y.k.length y.c, .slice y.B y.v.length y.d]] w fun e w' => e = .returned (.bool true) ∧ Below w.heap.size w w' := by
  obtain ⟨XA, xc, xk, XB, xd, xv⟩ := x
  obtain ⟨YA, yc, yk, YB, yd, yv⟩ := y
  have EQ : ∀ U, Below w.heap.size w U → Calls Tryd.prog 29 #[.slice XA xk.length xc, .slice YA yk.length yc] U fun e w' => e = .returned (.bool true) ∧ Below U.heap.size U w' := fun U hU => by
    have := sEqual_any U (Lib.hid (x1.out.nx hU)) (Lib.hid (y1.out.nx hU))
    rwa [eqB_iff.2 hl.out.1] at this
  have EQ2 : ∀ U, Below w.heap.size w U → Calls Tryd.prog 29 #[.slice XB xv.length xd, .slice YB yv.length yd] U fun e w' => e = .returned (.bool true) ∧ Below U.heap.size U w' := fun U hU => by
    have := sEqual_any U (Lib.hid (x2.out.nx hU)) (Lib.hid (y2.out.nx hU))
    rwa [eqB_iff.2 hl.out.2] at this
  have EQ := Lib.hid EQ
  have EQ2 := Lib.hid EQ2
  clear x1 x2 y1 y2 hl
  dsimp only
  obtain ⟨kn, hkn⟩ : ∃ kn, xk.length = kn := ⟨_, rfl⟩
  obtain ⟨vn, hvn⟩ : ∃ vn, xv.length = vn := ⟨_, rfl⟩
  obtain ⟨km, hkm⟩ : ∃ km, yk.length = km := ⟨_, rfl⟩
  obtain ⟨vm, hvm⟩ : ∃ vm, yv.length = vm := ⟨_, rfl⟩
  rw [hkn, hkm] at EQ
  rw [hvn, hvm] at EQ2
  rw [hkn, hkm, hvn, hvm]
  clear hkn hkm hvn hvm
  obtain ⟨p1, hp1⟩ : ∃ p1, w.heap.size = p1 := ⟨_, rfl⟩
  obtain ⟨W1, hW1⟩ : ∃ W1, w.alloc (.cells #[.slice XA kn xc, .slice XB vn xd] 60) = W1 := ⟨_, rfl⟩
  have v1 : Below w.heap.size w W1 := hW1 ▸ bal _ _
  have X1 : Hid (Bx W1 p1 [.slice XA kn xc, .slice XB vn xd]) := hW1 ▸ Lib.hid (Bx.put _ hp1 #[.slice XA kn xc, .slice XB vn xd] 60)
  have TX1 : Hid (Ty W1 p1 60) := hW1 ▸ hp1 ▸ Lib.hid (Ty.new _ _ _)
  have HW1 := Lib.hid hW1
  clear hW1
  obtain ⟨p2, hp2⟩ : ∃ p2, W1.heap.size = p2 := ⟨_, rfl⟩
  obtain ⟨W2, hW2⟩ : ∃ W2, W1.alloc (.cells #[.slice YA km yc, .slice YB vm yd] 73) = W2 := ⟨_, rfl⟩
  have v2 : Below W1.heap.size W1 W2 := hW2 ▸ bal _ _
  have X2 : Hid (Bx W2 p2 [.slice YA km yc, .slice YB vm yd]) := hW2 ▸ Lib.hid (Bx.put _ hp2 #[.slice YA km yc, .slice YB vm yd] 73)
  have TX2 : Hid (Ty W2 p2 73) := hW2 ▸ hp2 ▸ Lib.hid (Ty.new _ _ _)
  have HW2 := Lib.hid hW2
  clear hW2
  have e12 : p2 = p1 + 1 := by rw [← hp2, ← HW1.out, ← hp1]; simp
  subst e12
  have v12 := v1.trans (v2.mono v1.size)
  have X1 := Lib.hid (X1.out.nx v2)
  have E1 := Lib.hid (EQ.out W2 v12)
  have x0 := X1.out.at_ 0 (by simp)
  have x1 := X1.out.at_ 1 (by simp)
  have y0 := X2.out.at_ 0 (by simp)
  have y1 := X2.out.at_ 1 (by simp)
  simp only [List.getElem?_cons_succ, List.getElem?_cons_zero] at x0 x1 y0 y1
  go_enter Tryd.func63, Tryd.ntmps63
  go_upto_region 1 with fail
  rw [HW1.out, HW2.out]
  go_wp2_with fail
  go_at_call 29
  refine E1.out.mono ?_
  rintro e w3 ⟨rfl, b3⟩
  have v13 := v12.trans (b3.mono v12.size)
  have X1 := Lib.hid (X1.out.nx b3)
  have X2 := Lib.hid (X2.out.nx b3)
  have E2 := Lib.hid (EQ2.out w3 v13)
  clear x0 x1 y0 y1
  have x0 := X1.out.at_ 0 (by simp)
  have x1 := X1.out.at_ 1 (by simp)
  have y0 := X2.out.at_ 0 (by simp)
  have y1 := X2.out.at_ 1 (by simp)
  simp only [List.getElem?_cons_succ, List.getElem?_cons_zero] at x0 x1 y0 y1
  go_wp2_with fail
  go_at_call 29
  refine E2.out.mono ?_
  rintro e w4 ⟨rfl, b4⟩
  have v14 := v13.trans (b4.mono v13.size)
  go_wp2_with fail
  go_ret
  exact ⟨rfl, v14⟩
set_option maxRecDepth 20000 in
set_option maxHeartbeats 1600000 in
theorem order3_any {x y : EV} (w : World) (x1 : Hid (Rd w 1 x.A x.k.length x.c (bv x.k))) (x2 : Hid (Rd w 1 x.B x.v.length x.d (bv x.v))) (y1 : Hid (Rd w 1 y.A y.k.length y.c (bv y.k))) (y2 : Hid (Rd w 1 y.B y.v.length y.d (bv y.v))) (hl : Hid (x.k = y.k ∧ x.v = y.v)) :
    Calls Tryd.prog 35 #[.agg #[.slice x.A x.k.length x.c, .slice x.B x.v.length x.d], .agg #[.slice y.A y.k.length y.c, .slice y.B y.v.length y.d]] w fun e w' => e = .returned (.bool true) ∧ Below w.heap.size w w' := by
  obtain ⟨XA, xc, xk, XB, xd, xv⟩ := x
  obtain ⟨YA, yc, yk, YB, yd, yv⟩ := y
  have EQ : ∀ U, Below w.heap.size w U → Calls Tryd.prog 29 #[.slice XA xk.length xc, .slice YA yk.length yc] U fun e w' => e = .returned (.bool true) ∧ Below U.heap.size U w' := fun U hU => by
    have := sEqual_any U (Lib.hid (x1.out.nx hU)) (Lib.hid (y1.out.nx hU))
    rwa [eqB_iff.2 hl.out.1] at this
  have EQ2 : ∀ U, Below w.heap.size w U → Calls Tryd.prog 29 #[.slice XB xv.length xd, .slice YB yv.length yd] U fun e w' => e = .returned (.bool true) ∧ Below U.heap.size U w' := fun U hU => by
    have := sEqual_any U (Lib.hid (x2.out.nx hU)) (Lib.hid (y2.out.nx hU))
    rwa [eqB_iff.2 hl.out.2] at this
  have EQ := Lib.hid EQ
  have EQ2 := Lib.hid EQ2
  clear x1 x2 y1 y2 hl
  dsimp only
  obtain ⟨kn, hkn⟩ : ∃ kn, xk.length = kn := ⟨_, rfl⟩
  obtain ⟨vn, hvn⟩ : ∃ vn, xv.length = vn := ⟨_, rfl⟩
  obtain ⟨km, hkm⟩ : ∃ km, yk.length = km := ⟨_, rfl⟩
  obtain ⟨vm, hvm⟩ : ∃ vm, yv.length = vm := ⟨_, rfl⟩
  rw [hkn, hkm] at EQ
  rw [hvn, hvm] at EQ2
  rw [hkn, hkm, hvn, hvm]
  clear hkn hkm hvn hvm
  obtain ⟨p1, hp1⟩ : ∃ p1, w.heap.size = p1 := ⟨_, rfl⟩
  obtain ⟨W1, hW1⟩ : ∃ W1, w.alloc (.cells #[.slice XA kn xc, .slice XB vn xd] 60) = W1 := ⟨_, rfl⟩
  have v1 : Below w.heap.size w W1 := hW1 ▸ bal _ _
  have X1 : Hid (Bx W1 p1 [.slice XA kn xc, .slice XB vn xd]) := hW1 ▸ Lib.hid (Bx.put _ hp1 #[.slice XA kn xc, .slice XB vn xd] 60)
  have TX1 : Hid (Ty W1 p1 60) := hW1 ▸ hp1 ▸ Lib.hid (Ty.new _ _ _)
  have HW1 := Lib.hid hW1
  clear hW1
  obtain ⟨p2, hp2⟩ : ∃ p2, W1.heap.size = p2 := ⟨_, rfl⟩
  obtain ⟨W2, hW2⟩ : ∃ W2, W1.alloc (.cells #[.slice YA km yc, .slice YB vm yd] 60) = W2 := ⟨_, rfl⟩
  have v2 : Below W1.heap.size W1 W2 := hW2 ▸ bal _ _
  have X2 : Hid (Bx W2 p2 [.slice YA km yc, .slice YB vm yd]) := hW2 ▸ Lib.hid (Bx.put _ hp2 #[.slice YA km yc, .slice YB vm yd] 60)
  have TX2 : Hid (Ty W2 p2 60) := hW2 ▸ hp2 ▸ Lib.hid (Ty.new _ _ _)
  have HW2 := Lib.hid hW2
  clear hW2
  have e12 : p2 = p1 + 1 := by rw [← hp2, ← HW1.out, ← hp1]; simp
  subst e12
  have v12 := v1.trans (v2.mono v1.size)
  have X1 := Lib.hid (X1.out.nx v2)
  have E1 := Lib.hid (EQ.out W2 v12)
  have x0 := X1.out.at_ 0 (by simp)
  have x1 := X1.out.at_ 1 (by simp)
  have y0 := X2.out.at_ 0 (by simp)
  have y1 := X2.out.at_ 1 (by simp)
  simp only [List.getElem?_cons_succ, List.getElem?_cons_zero] at x0 x1 y0 y1
  go_enter Tryd.func35, Tryd.ntmps35
  go_upto_region 1 with fail
  rw [HW1.out, HW2.out]
  go_wp2_with fail
  go_at_call 29
  refine E1.out.mono ?_
  rintro e w3 ⟨rfl, b3⟩
  have v13 := v12.trans (b3.mono v12.size)
  have X1 := Lib.hid (X1.out.nx b3)
  have X2 := Lib.hid (X2.out.nx b3)
  have E2 := Lib.hid (EQ2.out w3 v13)
  clear x0 x1 y0 y1
  have x0 := X1.out.at_ 0 (by simp)
  have x1 := X1.out.at_ 1 (by simp)
  have y0 := X2.out.at_ 0 (by simp)
  have y1 := X2.out.at_ 1 (by simp)
  simp only [List.getElem?_cons_succ, List.getElem?_cons_zero] at x0 x1 y0 y1
  go_wp2_with fail
  go_at_call 29
  refine E2.out.mono ?_
  rintro e w4 ⟨rfl, b4⟩
  have v14 := v13.trans (b4.mono v13.size)
  go_wp2_with fail
  go_ret
  exact ⟨rfl, v14⟩
set_option maxRecDepth 20000 in
set_option maxHeartbeats 1600000 in
theorem eqf_entries {A B : Option Addr} {n c m d : Nat} {L M : List EV} (w : World) (h : Hid (Er w A n c L)) (k : Hid (Er w B m d M)) (hl : Hid (L.map EV.kv = M.map EV.kv)) :
    Calls Tryd.prog 62 #[.slice A n c, .slice B m d, .func (.func 63) #[] #[]] w fun e w' => e = .returned (.bool true) ∧ Below w.heap.size w w' := by
  have NL := Lib.hid h.out.len
  have ML := Lib.hid k.out.len
  obtain rfl : m = n := by have := congrArg List.length hl.out; simp only [List.length_map] at this; have := NL.out; have := ML.out; omega
  have hnc := h.out.row.nc
  have h63 := h.out.row.c63
  have hmd := k.out.row.nc
  have h64 := k.out.row.c63
  go_enter Tryd.func62, Tryd.ntmps62
  go_wp2_with fail
  go_loopw [17] (fun iv wr => ∃ j : Nat, j ≤ m ∧ iv = .int .i64 j ∧ Below w.heap.size w wr) (fun iv _ => (m - intOf iv).toNat)
  case atStart => exact ⟨0, by omega, rfl, Below.refl _ _⟩
  case round =>
    obtain ⟨j, hj, rfl, bw⟩ := hrel
    by_cases hlt : j < m
    · have d1 : decide ((j : Int) < (m : Int)) = true := decide_eq_true (by omega)
      have HR := Lib.hid (h.out.nx bw)
      have KR := Lib.hid (k.out.nx bw)
      obtain ⟨g, o, x, rfl, hg, hx, a0, a1⟩ := Er.item HR.out hlt
      obtain ⟨g', o', y, rfl, hg', hy, b0, b1⟩ := Er.item KR.out hlt
      have kve : x.k = y.k ∧ x.v = y.v := by
        have := congrArg (·[j]?) hl.out
        simp only [List.getElem?_map, hx, hy, Option.map_some, Option.some.injEq, EV.kv, Prod.mk.injEq] at this
        exact this
      have XR := Lib.hid (HR.out.dat x (List.mem_of_getElem? hx))
      have YR := Lib.hid (KR.out.dat y (List.mem_of_getElem? hy))
      have KVE := Lib.hid kve
      clear hx hy kve
      obtain ⟨p1, hp1⟩ : ∃ p1, wr.heap.size = p1 := ⟨_, rfl⟩
      obtain ⟨W1, hW1⟩ : ∃ W1, wr.alloc (.cells #[.slice x.A x.k.length x.c, .slice x.B x.v.length x.d] 60) = W1 := ⟨_, rfl⟩
      have v1 : Below wr.heap.size wr W1 := hW1 ▸ bal _ _
      have X1 : Hid (Bx W1 p1 [.slice x.A x.k.length x.c, .slice x.B x.v.length x.d]) := hW1 ▸ Lib.hid (Bx.put _ hp1 #[.slice x.A x.k.length x.c, .slice x.B x.v.length x.d] 60)
      have TX1 : Hid (Ty W1 p1 60) := hW1 ▸ hp1 ▸ Lib.hid (Ty.new _ _ _)
      have HW1 := Lib.hid hW1
      clear hW1
      obtain ⟨p2, hp2⟩ : ∃ p2, W1.heap.size = p2 := ⟨_, rfl⟩
      obtain ⟨W2, hW2⟩ : ∃ W2, W1.alloc (.cells #[.slice y.A y.k.length y.c, .slice y.B y.v.length y.d] 73) = W2 := ⟨_, rfl⟩
      have v2 : Below W1.heap.size W1 W2 := hW2 ▸ bal _ _
      have X2 : Hid (Bx W2 p2 [.slice y.A y.k.length y.c, .slice y.B y.v.length y.d]) := hW2 ▸ Lib.hid (Bx.put _ hp2 #[.slice y.A y.k.length y.c, .slice y.B y.v.length y.d] 73)
      have TX2 : Hid (Ty W2 p2 73) := hW2 ▸ hp2 ▸ Lib.hid (Ty.new _ _ _)
      have HW2 := Lib.hid hW2
      clear hW2
      have v12 := v1.trans (v2.mono v1.size)
      have X1 := Lib.hid (X1.out.nx v2)
      have CC := entries1_any W2 (Lib.hid (XR.out.1.nx v12)) (Lib.hid (XR.out.2.nx v12)) (Lib.hid (YR.out.1.nx v12)) (Lib.hid (YR.out.2.nx v12)) KVE
      have CC := Lib.hid CC
      have c1 := bcell v1
      have b0' : W1.cell? ⟨g', o' + j * 2, none⟩ = some (.slice y.A y.k.length y.c) := (c1.1 _ _ hg').trans b0
      have b1' : W1.cell? ⟨g', o' + j * 2 + 1, none⟩ = some (.slice y.B y.v.length y.d) := (c1.1 _ _ hg').trans b1
      clear c1
      have x0 := X1.out.at_ 0 (by simp)
      have x1 := X1.out.at_ 1 (by simp)
      have y0 := X2.out.at_ 0 (by simp)
      have y1 := X2.out.at_ 1 (by simp)
      simp only [List.getElem?_cons_succ, List.getElem?_cons_zero] at x0 x1 y0 y1
      go_upto_region 6 with fail
      rw [HW1.out]
      go_upto_region 7 with fail
      rw [HW2.out]
      go_wp2_with fail
      go_at_call 63
      refine CC.out.mono ?_
      rintro e w3 ⟨rfl, b3⟩
      have bw3 := bw.trans ((v12.trans (b3.mono v12.size)).mono bw.size)
      go_wp2_with fail
      go_roundw
      case rel => exact ⟨j + 1, by omega, by first | trivial | go_num, bw3⟩
      case measure => simp [intOf]; omega
    · obtain rfl : j = m := by omega
      have d1 : decide ((j : Int) < (j : Int)) = false := decide_eq_false (by omega)
      go_wp2_with fail
      go_ret
      exact ⟨rfl, bw⟩
set_option maxRecDepth 20000 in
set_option maxHeartbeats 1600000 in
theorem eqf_order {A B : Option Addr} {n c m d : Nat} {L M : List EV} (w : World) (h : Hid (Er w A n c L)) (k : Hid (Er w B m d M)) (hl : Hid (L.map EV.kv = M.map EV.kv)) :
    Calls Tryd.prog 34 #[.slice A n c, .slice B m d, .func (.func 35) #[] #[]] w fun e w' => e = .returned (.bool true) ∧ Below w.heap.size w w' := by
  have NL := Lib.hid h.out.len
  have ML := Lib.hid k.out.len
  obtain rfl : m = n := by have := congrArg List.length hl.out; simp only [List.length_map] at this; have := NL.out; have := ML.out; omega
  have hnc := h.out.row.nc
  have h63 := h.out.row.c63
  have hmd := k.out.row.nc
  have h64 := k.out.row.c63
  go_enter Tryd.func34, Tryd.ntmps34
  go_wp2_with fail
  go_loopw [17] (fun iv wr => ∃ j : Nat, j ≤ m ∧ iv = .int .i64 j ∧ Below w.heap.size w wr) (fun iv _ => (m - intOf iv).toNat)
  case atStart => exact ⟨0, by omega, rfl, Below.refl _ _⟩
  case round =>
    obtain ⟨j, hj, rfl, bw⟩ := hrel
    by_cases hlt : j < m
    · have d1 : decide ((j : Int) < (m : Int)) = true := decide_eq_true (by omega)
      have HR := Lib.hid (h.out.nx bw)
      have KR := Lib.hid (k.out.nx bw)
      obtain ⟨g, o, x, rfl, hg, hx, a0, a1⟩ := Er.item HR.out hlt
      obtain ⟨g', o', y, rfl, hg', hy, b0, b1⟩ := Er.item KR.out hlt
      have kve : x.k = y.k ∧ x.v = y.v := by
        have := congrArg (·[j]?) hl.out
        simp only [List.getElem?_map, hx, hy, Option.map_some, Option.some.injEq, EV.kv, Prod.mk.injEq] at this
        exact this
      have XR := Lib.hid (HR.out.dat x (List.mem_of_getElem? hx))
      have YR := Lib.hid (KR.out.dat y (List.mem_of_getElem? hy))
      have KVE := Lib.hid kve
      clear hx hy kve
      obtain ⟨p1, hp1⟩ : ∃ p1, wr.heap.size = p1 := ⟨_, rfl⟩
      obtain ⟨W1, hW1⟩ : ∃ W1, wr.alloc (.cells #[.slice x.A x.k.length x.c, .slice x.B x.v.length x.d] 60) = W1 := ⟨_, rfl⟩
      have v1 : Below wr.heap.size wr W1 := hW1 ▸ bal _ _
      have X1 : Hid (Bx W1 p1 [.slice x.A x.k.length x.c, .slice x.B x.v.length x.d]) := hW1 ▸ Lib.hid (Bx.put _ hp1 #[.slice x.A x.k.length x.c, .slice x.B x.v.length x.d] 60)
      have TX1 : Hid (Ty W1 p1 60) := hW1 ▸ hp1 ▸ Lib.hid (Ty.new _ _ _)
      have HW1 := Lib.hid hW1
      clear hW1
      obtain ⟨p2, hp2⟩ : ∃ p2, W1.heap.size = p2 := ⟨_, rfl⟩
      obtain ⟨W2, hW2⟩ : ∃ W2, W1.alloc (.cells #[.slice y.A y.k.length y.c, .slice y.B y.v.length y.d] 60) = W2 := ⟨_, rfl⟩
      have v2 : Below W1.heap.size W1 W2 := hW2 ▸ bal _ _
      have X2 : Hid (Bx W2 p2 [.slice y.A y.k.length y.c, .slice y.B y.v.length y.d]) := hW2 ▸ Lib.hid (Bx.put _ hp2 #[.slice y.A y.k.length y.c, .slice y.B y.v.length y.d] 60)
      have TX2 : Hid (Ty W2 p2 60) := hW2 ▸ hp2 ▸ Lib.hid (Ty.new _ _ _)
      have HW2 := Lib.hid hW2
      clear hW2
      have v12 := v1.trans (v2.mono v1.size)
      have X1 := Lib.hid (X1.out.nx v2)
      have CC := order3_any W2 (Lib.hid (XR.out.1.nx v12)) (Lib.hid (XR.out.2.nx v12)) (Lib.hid (YR.out.1.nx v12)) (Lib.hid (YR.out.2.nx v12)) KVE
      have CC := Lib.hid CC
      have c1 := bcell v1
      have b0' : W1.cell? ⟨g', o' + j * 2, none⟩ = some (.slice y.A y.k.length y.c) := (c1.1 _ _ hg').trans b0
      have b1' : W1.cell? ⟨g', o' + j * 2 + 1, none⟩ = some (.slice y.B y.v.length y.d) := (c1.1 _ _ hg').trans b1
      clear c1
      have x0 := X1.out.at_ 0 (by simp)
      have x1 := X1.out.at_ 1 (by simp)
      have y0 := X2.out.at_ 0 (by simp)
      have y1 := X2.out.at_ 1 (by simp)
      simp only [List.getElem?_cons_succ, List.getElem?_cons_zero] at x0 x1 y0 y1
      go_upto_region 6 with fail
      rw [HW1.out]
      go_upto_region 7 with fail
      rw [HW2.out]
      go_wp2_with fail
      go_at_call 35
      refine CC.out.mono ?_
      rintro e w3 ⟨rfl, b3⟩
      have bw3 := bw.trans ((v12.trans (b3.mono v12.size)).mono bw.size)
      go_wp2_with fail
      go_roundw
      case rel => exact ⟨j + 1, by omega, by first | trivial | go_num, bw3⟩
      case measure => simp [intOf]; omega
    · obtain rfl : j = m := by omega
      have d1 : decide ((j : Int) < (j : Int)) = false := decide_eq_false (by omega)
      go_wp2_with fail
      go_ret
      exact ⟨rfl, bw⟩
end Go.Proofs.YtphiblmkgbkdmaaDoor.Pg
