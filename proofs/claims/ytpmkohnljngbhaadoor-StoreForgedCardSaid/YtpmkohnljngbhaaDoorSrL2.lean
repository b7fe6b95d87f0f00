/- Walks: the reference's Equal, Find, Apply. -/
import Derived.Test.YtpmkohnljngbhaaDoorSrMem
import Derived.Test.YtpmkohnljngbhaaDoorSrL1
set_option linter.all false
namespace Go.Proofs.YtpmkohnljngbhaaDoor.Sr
set_option linter.unusedVariables false
set_option linter.unusedSimpArgs false
set_option maxRecDepth 1000000
open Go.RowKit Pg
open Wl hiding eqB eqB_self eqB_iff beq_eqB

theorem eq_take {a b : List UInt8} {j : Nat} {x y : UInt8} (hx : a[j]? = some x) (hy : b[j]? = some y) : a.take j = b.take j → x = y → a.take (j + 1) = b.take (j + 1) := by
  intro h e
  rw [List.take_add_one, List.take_add_one, h, hx, hy, e]
theorem ne_at {a b : List UInt8} {j : Nat} {x y : UInt8} (hx : a[j]? = some x) (hy : b[j]? = some y) (h : x ≠ y) : eqB a b = false := by
  refine eqB_f fun e => h ?_
  rw [e, hy] at hx; injection hx with hx; exact hx.symm
theorem rEqual_any {A B : Option Addr} {n c m d : Nat} {a b : List UInt8} (w : World) (h : Hid (Rd w 1 A n c (bv a))) (k : Hid (Rd w 1 B m d (bv b))) :
    Calls Tryd.prog 42 #[.slice A n c, .slice B m d] w fun e w' => e = .returned (.bool (eqB a b)) ∧ ∃ q, w' = w.drewN q := by
  have NA : Hid (n = a.length) := Lib.hid (by have := h.out.len; rw [bv_len] at this; omega)
  have NB : Hid (m = b.length) := Lib.hid (by have := k.out.len; rw [bv_len] at this; omega)
  have hnc := h.out.nc
  have h63 := h.out.c63
  have knc := k.out.nc
  have k63 := k.out.c63
  by_cases hnm : n = m
  · subst hnm
    have q1 : ((n : Int) != (n : Int)) = false := by simp
    go_enter Tryd.func42, Tryd.ntmps42
    go_wp2_with fail
    go_loopw [5] (fun iv wr => ∃ i q : Nat, i ≤ n ∧ iv = .int .i64 i ∧ Hid (a.take i = b.take i) ∧ w.drewN q = wr) (fun iv _ => (n - intOf iv).toNat)
    case atStart => exact ⟨0, 0, by omega, rfl, Lib.hid rfl, rfl⟩
    case round =>
      obtain ⟨i, q, hi, rfl, HT, rfl⟩ := hrel
      by_cases hlt : i < n
      · have d1 : decide ((i : Int) < (n : Int)) = true := decide_eq_true (by omega)
        obtain ⟨ga, oa, x, rfl, hga, hx, ca⟩ := h.out.byte hlt
        obtain ⟨gb, ob, y, rfl, hgb, hy, cb⟩ := k.out.byte hlt
        have TT := Lib.hid (eq_take hx hy HT.out)
        have NE := Lib.hid (ne_at hx hy)
        have XY : Hid (x = y ↔ (x.toNat : Int) = (y.toNat : Int)) := Lib.hid ⟨fun e => by rw [e], fun e => UInt8.toNat_inj.1 (by omega)⟩
        obtain ⟨X, hX⟩ : ∃ X : Int, (x.toNat : Int) = X := ⟨_, rfl⟩
        obtain ⟨Y, hY⟩ : ∃ Y : Int, (y.toNat : Int) = Y := ⟨_, rfl⟩
        rw [hX] at ca XY
        rw [hY] at cb XY
        clear hx hy hX hY
        by_cases he : X = Y
        · have R := Lib.hid (TT.out (XY.out.2 he))
          have q2 : (X != Y) = false := by simpa using he
          clear he
          go_wp2_with fail
          go_quiet (fail)
          go_wp2_with fail
          go_roundw
          case rel => exact ⟨i + 1, _, by omega, by go_num, R, by first | rfl | exact (World.drewN_drewN _ _ _).symm⟩
          case measure => simp [intOf]; omega
        · have R := Lib.hid (NE.out fun e => he (XY.out.1 e))
          have q2 : (X != Y) = true := by simpa using he
          clear he
          go_wp2_with fail
          go_quiet (fail)
          go_wp2_with fail
          go_ret
          exact ⟨ret_bool R.out.symm, _, by first | rfl | exact World.drewN_drewN _ _ _⟩
      · obtain rfl : i = n := by omega
        have d1 : decide ((i : Int) < (i : Int)) = false := decide_eq_false (by omega)
        have R : Hid (eqB a b = true) := Lib.hid (eqB_iff.2 (by
          have h := HT.out
          rwa [List.take_of_length_le (by have := NA.out; omega), List.take_of_length_le (by have := NB.out; omega)] at h))
        go_wp2_with fail
        go_ret
        exact ⟨ret_bool R.out.symm, q, rfl⟩
  · have q1 : ((n : Int) != (m : Int)) = true := by simp; omega
    have R : Hid (eqB a b = false) := Lib.hid (eqB_f fun e => hnm (by rw [NA.out, NB.out, e]))
    go_enter Tryd.func42, Tryd.ntmps42
    go_wp2_with fail
    go_ret
    exact ⟨ret_bool R.out.symm, 0, rfl⟩
/-- The number of the entry of a key. -/
def fnd (M : List Ch) (key : List UInt8) : Int := match mfi M key with
  | none => -1
  | some i => i
theorem mfi_some {M : List Ch} {key : List UInt8} {j : Nat} {x : Ch} (hx : M[j]? = some x) (hk : x.k = key) (h : ∀ y ∈ M.take j, y.k ≠ key) : mfi M key = some j := by
  unfold mfi
  obtain ⟨hj, e⟩ := List.getElem?_eq_some_iff.1 hx
  rw [List.findIdx?_eq_some_iff_getElem]
  refine ⟨hj, by rw [e]; simpa using hk, fun i hi => ?_⟩
  have := h (M[i]'(by omega)) (List.mem_iff_getElem?.2 ⟨i, by rw [List.getElem?_take]; simp [hi]⟩)
  simpa using this
theorem mfi_none {M : List Ch} {key : List UInt8} (h : ∀ y ∈ M, y.k ≠ key) : mfi M key = none := by
  unfold mfi
  rw [List.findIdx?_eq_none_iff]
  intro x hx; simpa using h x hx
theorem rFind_any {A K : Option Addr} {n c kn kc : Nat} {l : List CV} {key : List UInt8} (w : World) (C : Hid (Cr w A n c l)) (hk : Hid (Rd w 1 K kn kc (bv key))) :
    Calls Tryd.prog 14 #[.slice A n c, .slice K kn kc] w fun e w' => e = .returned (.int .i64 (fnd (l.map CV.ch) key)) ∧ ∃ q, w' = w.drewN q := by
  have NL := Lib.hid C.out.len
  have hnc := C.out.row.nc
  have h63 := C.out.row.c63
  go_enter Tryd.func14, Tryd.ntmps14
  go_wp2_with fail
  go_loopw [5] (fun iv wr => ∃ i q : Nat, i ≤ n ∧ iv = .int .i64 i ∧ Hid (∀ y ∈ (l.map CV.ch).take i, y.k ≠ key) ∧ w.drewN q = wr) (fun iv _ => (n - intOf iv).toNat)
  case atStart => exact ⟨0, 0, by omega, rfl, Lib.hid (by simp), rfl⟩
  case round =>
    obtain ⟨i, q, hi, rfl, HT, rfl⟩ := hrel
    by_cases hlt : i < n
    · have d1 : decide ((i : Int) < (n : Int)) = true := decide_eq_true (by omega)
      obtain ⟨g, o, x, rfl, hg, hx, c0, c1, c2⟩ := C.out.item hlt
      have hx' : (l.map CV.ch)[i]? = some x.ch := by rw [List.getElem?_map, hx]; rfl
      have HX := Lib.hid hx'
      have EQ := rEqual_any (w.drewN q) (Lib.hid ((C.out.dat x (List.mem_of_getElem? hx)).k.drewN q)) (Lib.hid (hk.out.drewN q))
      obtain ⟨xn, hxn⟩ : ∃ xn, x.k.length = xn := ⟨_, rfl⟩
      rw [hxn] at c0 EQ
      clear hx hx' hxn c1 c2
      cases he : eqB x.k key with
      | true =>
        rw [he] at EQ
        have R : Hid (fnd (l.map CV.ch) key = i) := Lib.hid (by unfold fnd; rw [mfi_some HX.out (eqB_iff.1 he) HT.out])
        have EQ := Lib.hid EQ
        clear he
        go_wp2_with fail
        go_at_call 42
        refine EQ.out.mono ?_
        rintro e w1 ⟨rfl, q1, rfl⟩
        go_wp2_with fail
        go_ret
        exact ⟨ret_int R.out.symm, _, rfl⟩
      | false =>
        rw [he] at EQ
        have R : Hid (∀ y ∈ (l.map CV.ch).take (i + 1), y.k ≠ key) := Lib.hid fun y hy => by
          rw [List.take_add_one, HX.out] at hy
          rcases List.mem_append.1 hy with hy | hy
          · exact HT.out y hy
          · obtain rfl : y = x.ch := by simpa using hy
            intro e
            have : x.k = key := e
            rw [this, eqB_self] at he; cases he
        have EQ := Lib.hid EQ
        clear he
        go_wp2_with fail
        go_at_call 42
        refine EQ.out.mono ?_
        rintro e w1 ⟨rfl, q1, rfl⟩
        go_wp2_with fail
        go_roundw
        case rel => exact ⟨i + 1, _, by omega, by go_num, R, rfl⟩
        case measure => simp [intOf]; omega
    · obtain rfl : i = n := by omega
      have d1 : decide ((i : Int) < (i : Int)) = false := decide_eq_false (by omega)
      have R : Hid (fnd (l.map CV.ch) key = -1) := Lib.hid (by
        have h := HT.out
        rw [List.take_of_length_le (by rw [List.length_map]; have := NL.out; omega)] at h
        unfold fnd; rw [mfi_none h])
      go_wp2_with fail
      go_ret
      exact ⟨ret_int R.out.symm, q, rfl⟩
/-- What Apply answers: a row of its own, of entries whose bytes were there. -/
def ApPost (w : World) (n : Nat) (L : List CV) (x : CV) (e : Ending) (w' : World) : Prop :=
  ∃ (A : Option Addr) (n' c' : Nat) (l : List CV), e = .returned (.slice A n' c') ∧ n' ≤ n + 1 ∧ Hid (l.map CV.ch = apl (L.map CV.ch) x.ch) ∧ Hid (w'.ownsRow w.heap.size 45 3 (.slice A n' c') n' (cvs l)) ∧ Hid (∀ y ∈ l, y ∈ L ∨ y = x) ∧ Below w.heap.size w w'
theorem apl_take {M : List Ch} {x : Ch} {k : List UInt8} {j : Nat} (hx : M[j]? = some x) : (M.take (j + 1)).filter (fun y => decide (y.k ≠ k)) = (M.take j).filter (fun y => decide (y.k ≠ k)) ++ if x.k = k then [] else [x] := by
  rw [List.take_add_one, hx, List.filter_append]
  by_cases h : x.k = k <;> simp [h]
set_option maxHeartbeats 3200000 in
theorem rApply_any {A KA VA : Option Addr} {n c kn kc vn vc : Nat} {k v : List UInt8} {del : Bool} {l : List CV} (w : World) (C : Hid (Cr w A n c l)) (D : Hid (Dt w ⟨KA, kc, k, VA, vc, v, del⟩)) (KN : Hid (kn = k.length)) (VN : Hid (vn = v.length)) (hn : n ≤ 100000) :
    Calls Tryd.prog 20 #[.slice A n c, .agg #[.slice KA kn kc, .slice VA vn vc, .bool del]] w (ApPost w n l ⟨KA, kc, k, VA, vc, v, del⟩) := by
  obtain ⟨i0, hi, hz0, hz1, hz2⟩ := info_parts info_change
  have NL := Lib.hid C.out.len
  have hnc := C.out.row.nc
  have h63 := C.out.row.c63
  obtain ⟨p, hp⟩ : ∃ p, w.heap.size = p := ⟨_, rfl⟩
  obtain ⟨W1, hW1⟩ : ∃ W1, w.alloc (.cells #[.slice KA kn kc, .slice VA vn vc, .bool del] 45) = W1 := ⟨_, rfl⟩
  have v1 : Below w.heap.size w W1 := hW1 ▸ bal _ _
  have X : Hid (Bx W1 p [.slice KA kn kc, .slice VA vn vc, .bool del]) := hW1 ▸ Lib.hid (Bx.put _ hp #[.slice KA kn kc, .slice VA vn vc, .bool del] 45)
  have TX : Hid (Ty W1 p 45) := hW1 ▸ hp ▸ Lib.hid (Ty.new _ _ _)
  have HW1 := Lib.hid hW1
  clear hW1
  have x0 := X.out.at_ 0 (by simp)
  have x1 := X.out.at_ 1 (by simp)
  have x2 := X.out.at_ 2 (by simp)
  simp only [List.getElem?_cons_succ, List.getElem?_cons_zero] at x0 x1 x2
  go_enter Tryd.func20, Tryd.ntmps20
  go_upto_region 1 with fail
  rw [HW1.out]
  go_wp2_with fail
  go_loopw [5, 6] (fun ov iv wr => ∃ (j : Nat) (OA : Option Addr) (on oc : Nat) (ol : List CV), j ≤ n ∧ on ≤ j ∧ ov = .slice OA on oc ∧ iv = .int .i64 j ∧ Hid (wr.ownsRow W1.heap.size 45 3 (.slice OA on oc) on (cvs ol)) ∧ Hid (ol.map CV.ch = ((l.map CV.ch).take j).filter (fun y => decide (y.k ≠ k))) ∧ Hid (∀ y ∈ ol, y ∈ l) ∧ Below W1.heap.size W1 wr) (fun _ iv _ => (n - intOf iv).toNat)
  case atStart => exact ⟨0, none, 0, 0, [], by omega, by omega, rfl, rfl, Lib.hid (World.ownsRow_nil _ _ _ _), Lib.hid rfl, Lib.hid (by simp), Below.refl _ _⟩
  case round =>
    obtain ⟨j, OA, on, oc, ol, hj, hon, rfl, rfl, OW, OM, OD, b1⟩ := hrel
    have bw := v1.trans (b1.mono v1.size)
    have XR := Lib.hid (X.out.nx b1)
    clear x0 x1 x2
    have x0 := XR.out.at_ 0 (by simp)
    have x1 := XR.out.at_ 1 (by simp)
    have x2 := XR.out.at_ 2 (by simp)
    simp only [List.getElem?_cons_succ, List.getElem?_cons_zero] at x0 x1 x2
    by_cases hlt : j < n
    · have d1 : decide ((j : Int) < (n : Int)) = true := decide_eq_true (by omega)
      obtain ⟨g, o, x, rfl, hg, hx, c0, c1, c2⟩ := (C.out.nx bw).item hlt
      have hx' : (l.map CV.ch)[j]? = some x.ch := by rw [List.getElem?_map, hx]; rfl
      have AT := Lib.hid (apl_take (k := k) hx')
      have MX := Lib.hid (List.mem_of_getElem? hx)
      have DX := Lib.hid (C.out.dat x MX.out)
      have EQ : Hid (∀ a, Calls Tryd.prog 42 #[.slice x.A x.k.length x.c, .slice KA kn kc] (wr.drewN a) fun e w' => e = .returned (.bool (eqB x.k k)) ∧ ∃ m, w' = (wr.drewN a).drewN m) := Lib.hid fun a =>
        rEqual_any _ (Lib.hid ((DX.out.k.nx bw).drewN a)) (Lib.hid (by rw [KN.out]; exact (D.out.k.nx bw).drewN a))
      obtain ⟨xn, hxn⟩ : ∃ xn, x.k.length = xn := ⟨_, rfl⟩
      obtain ⟨yn, hyn⟩ : ∃ yn, x.v.length = yn := ⟨_, rfl⟩
      rw [hxn] at c0 EQ
      rw [hyn] at c1
      have HXN := Lib.hid hxn
      have HYN := Lib.hid hyn
      clear hx hx' hxn hyn
      cases he : eqB x.k k with
      | true =>
        rw [he] at EQ
        have R : Hid (ol.map CV.ch = ((l.map CV.ch).take (j + 1)).filter (fun y => decide (y.k ≠ k))) := Lib.hid (by rw [AT.out, if_pos (show x.ch.k = k from eqB_iff.1 he), List.append_nil]; exact OM.out)
        clear he
        go_wp2_with fail
        go_quiet ((first | (go_at_call 42; exact q0_drew (EQ.out _))))
        have b2 : Below wr.heap.size wr (wr.drewN nq) := bdrewN (Below.refl _ _)
        have OW2 := Lib.hid (own_below OW.out b2)
        have b12 := b1.trans (b2.mono b1.size)
        go_wp2_with fail
        go_roundw
        case rel => exact ⟨j + 1, OA, on, oc, ol, by omega, by omega, rfl, by go_num, OW2, R, OD, b12⟩
        case measure => simp [intOf]; omega
      | false =>
        rw [he] at EQ
        have R : Hid ((ol ++ [x]).map CV.ch = ((l.map CV.ch).take (j + 1)).filter (fun y => decide (y.k ≠ k))) := Lib.hid (by
          rw [AT.out, if_neg (show ¬ x.ch.k = k from fun e => by have : x.k = k := e; rw [this, eqB_self] at he; cases he), List.map_append, OM.out]; rfl)
        clear he
        go_wp2_with fail
        go_quiet ((first | (go_at_call 42; exact q0_drew (EQ.out _))))
        obtain ⟨W2, hW2⟩ : ∃ u, wr.drewN nq = u := ⟨_, rfl⟩
        rw [hW2]
        have b2 : Below wr.heap.size wr W2 := hW2 ▸ bdrewN (Below.refl _ _)
        have OW2 := Lib.hid (own_below OW.out b2)
        have b12 := b1.trans (b2.mono b1.size)
        have c0' : W2.cell? ⟨g, o + j * 3, none⟩ = some (.slice x.A xn x.c) := ((bcell b2).1 _ _ hg).trans c0
        have c1' : W2.cell? ⟨g, o + j * 3 + 1, none⟩ = some (.slice x.B yn x.d) := ((bcell b2).1 _ _ hg).trans c1
        have c2' : W2.cell? ⟨g, o + j * 3 + 2, none⟩ = some (.bool x.del) := ((bcell b2).1 _ _ hg).trans c2
        have hs2 := b12.size
        clear hW2 c0 c1 c2 x0 x1 x2 EQ
        go_wp2_with (at_builtin; apply hold)
        unfold Hold
        refine wpList_app _ rfl (.tmp 22) (.tmp 27) 36 rfl W1.heap.size 45 i0 (.agg #[.slice none 0 0, .slice none 0 0, .bool false]) 3 56 Tryd.underlying36 hi hz0 hz1 hz2 rfl (by omega) (by rfl) (own_below OW2.out (bal _ _)) (by rfl) (Rd.lit W2 _ 3 #[.slice x.A xn x.c, .slice x.B yn x.d, .bool x.del] 1 (by omega) rfl) (Wl.one3 _ _ _ rfl rfl rfl) (by omega) (by omega) (by simp; omega) ?_
        intro A4 c4 W4 own4 g4
        have b4 : Below W1.heap.size W1 W4 := g4.low (bel_alloc b12 (Nat.le_refl _) _) (by simp; omega) fun q e => (own_blk_le OW2.out e).1
        have O4 : Hid (W4.ownsRow W1.heap.size 45 3 (.slice A4 (on + 1) c4) (on + 1) (cvs (ol ++ [x]))) := Lib.hid (by
          rw [cvs_app, show cvs [x] = [.slice x.A xn x.c, .slice x.B yn x.d, .bool x.del] by simp [cvs, CV.cs, HXN.out, HYN.out]]
          exact own4)
        have OD4 : Hid (∀ y ∈ ol ++ [x], y ∈ l) := Lib.hid fun y hy => by
          rcases List.mem_append.1 hy with hy | hy
          · exact OD.out y hy
          · obtain rfl := List.mem_singleton.1 hy
            exact MX.out
        clear own4 g4
        go_wp2_with fail
        go_roundw
        case rel => exact ⟨j + 1, A4, on + 1, c4, ol ++ [x], by omega, by omega, by first | rfl | go_num, by go_num, O4, R, OD4, b4⟩
        case measure => simp [intOf]; omega
    · obtain rfl : j = n := by omega
      have d1 : decide ((j : Int) < (j : Int)) = false := decide_eq_false (by omega)
      have OM : Hid (ol.map CV.ch = (l.map CV.ch).filter (fun y => decide (y.k ≠ k))) := by
        have h := OM.out
        rw [List.take_of_length_le (by rw [List.length_map]; have := NL.out; omega)] at h
        exact Lib.hid h
      cases del with
      | true =>
        have OF := Lib.hid (own_base OW.out v1.size)
        go_wp2_with fail
        go_ret
        exact ⟨OA, on, oc, ol, rfl, by omega, Lib.hid (by rw [OM.out]; exact (List.append_nil _).symm), OF, Lib.hid fun y hy => .inl (OD.out y hy), bw⟩
      | false =>
        have hs2 := b1.size
        go_wp2_with (at_builtin; apply hold)
        unfold Hold
        refine wpList_app _ rfl (.tmp 32) (.tmp 34) 36 rfl W1.heap.size 45 i0 (.agg #[.slice none 0 0, .slice none 0 0, .bool false]) 3 56 Tryd.underlying36 hi hz0 hz1 hz2 rfl (by omega) (by rfl) (own_below OW.out (bal _ _)) (by rfl) (Rd.lit wr _ 3 #[.slice KA kn kc, .slice VA vn vc, .bool false] 1 (by omega) rfl) (Wl.one3 _ _ _ rfl rfl rfl) (by omega) (by omega) (by simp; omega) ?_
        intro A4 c4 W4 own4 g4
        have b4 : Below w.heap.size w W4 := g4.low (bel_alloc bw (Nat.le_refl _) _) (by have := bw.size; simp; omega) fun q e => Nat.le_trans v1.size (own_blk_le OW.out e).1
        have O4 : Hid (W4.ownsRow w.heap.size 45 3 (.slice A4 (on + 1) c4) (on + 1) (cvs (ol ++ [(⟨KA, kc, k, VA, vc, v, false⟩ : CV)]))) := Lib.hid (by
          rw [cvs_app, show cvs [(⟨KA, kc, k, VA, vc, v, false⟩ : CV)] = [.slice KA kn kc, .slice VA vn vc, .bool false] by simp [cvs, CV.cs, KN.out, VN.out]]
          exact own_base own4 v1.size)
        have OD4 : Hid (∀ y ∈ ol ++ [(⟨KA, kc, k, VA, vc, v, false⟩ : CV)], y ∈ l ∨ y = ⟨KA, kc, k, VA, vc, v, false⟩) := Lib.hid fun y hy => by
          rcases List.mem_append.1 hy with hy | hy
          · exact .inl (OD.out y hy)
          · exact .inr (List.mem_singleton.1 hy)
        clear own4 g4
        go_wp2_with fail
        go_ret
        exact ⟨A4, on + 1, c4, _, rfl, by omega, Lib.hid (by rw [List.map_append, OM.out]; rfl), O4, OD4, b4⟩
end Go.Proofs.YtpmkohnljngbhaaDoor.Sr
/- Walks: the law's model, reads. -/
namespace Go.Proofs.YtpmkohnljngbhaaDoor.Sr
set_option maxRecDepth 1000000
open Go.RowKit Pg
open Wl hiding eqB eqB_self eqB_iff beq_eqB

/-- Entries: a row of the call's own from base on, of changes that were there in world w0. -/
structure Ew (w0 W : World) (base : Nat) (A : Option Addr) (n c : Nat) (M : List CV) : Prop where
  own : W.ownsRow base 45 3 (.slice A n c) n (cvs M)
  dat : ∀ y ∈ M, Dt w0 y
theorem Ew.nx {w0 W W' : World} {base n c : Nat} {A : Option Addr} {M : List CV} (h : Ew w0 W base A n c M) (b : Below W.heap.size W W') : Ew w0 W' base A n c M := ⟨own_below h.own b, h.dat⟩
theorem Ew.cr {w0 W : World} {base n c : Nat} {A : Option Addr} {M : List CV} (h : Ew w0 W base A n c M) (b : Below w0.heap.size w0 W) : Cr W A n c M := ⟨Rd.of_own h.own, fun y hy => (h.dat y hy).nx b⟩
theorem Ew.rebase {w0 W : World} {base base' n c : Nat} {A : Option Addr} {M : List CV} (h : Ew w0 W base A n c M) (b : base' ≤ base) : Ew w0 W base' A n c M := ⟨own_base h.own b, h.dat⟩
def MlPost (w0 w : World) (M : List Ch) (e : Ending) (w' : World) : Prop :=
  ∃ (A : Option Addr) (n c : Nat) (l : List CV), e = .returned (.slice A n c) ∧ Hid (l.map CV.ch = M) ∧ Hid (Cr w' A n c l) ∧ (n ≤ 1000 ∧ Hid (Ew w0 w' w.heap.size A n c l)) ∧ Below w.heap.size w w'
theorem flat_take {X : List XV} {j : Nat} {x : XV} (h : X[j]? = some x) : ((X.take (j + 1)).map XV.t).flatten = ((X.take j).map XV.t).flatten ++ x.t := by
  rw [List.take_add_one, h]; simp
set_option maxHeartbeats 3200000 in
theorem model_own {A : Option Addr} {n c : Nat} {X : List XV} (w0 w : World) (b0 : Below w0.heap.size w0 w) (HX0 : Hid (Xr w0 A n c X)) (HX : Hid (Xr w A n c X)) (hn : n ≤ 20) (SM : Hid (∀ x ∈ X, x.l.length ≤ 12 ∧ ∀ y ∈ x.l, y.ch.ok = true)) :
    Calls Tryd.prog 12 #[.slice A n c] w (MlPost w0 w (mdl (X.map XV.t).flatten)) := by
  have NX := Lib.hid HX.out.len
  have hnc := HX.out.row.nc
  have hc63 := HX.out.row.c63
  go_enter Tryd.func12, Tryd.ntmps12
  go_wp2_with fail
  go_loopw [3, 10] (fun ov iv wr => ∃ (j : Nat) (OA : Option Addr) (on oc : Nat) (ol : List CV), j ≤ n ∧ iv = .int .i64 j ∧ ov = .slice OA on oc ∧ on ≤ 12 * j ∧ Hid (ol.map CV.ch = mdl ((X.take j).map XV.t).flatten) ∧ Hid (Ew w0 wr w.heap.size OA on oc ol) ∧ Below w.heap.size w wr) (fun _ iv _ => (n - intOf iv).toNat)
  case atStart => exact ⟨0, none, 0, 0, [], by omega, rfl, rfl, by omega, Lib.hid rfl, Lib.hid ⟨World.ownsRow_nil _ _ _ _, by simp⟩, Below.refl _ _⟩
  case round =>
    obtain ⟨j, OA, on, oc, ol, hj, rfl, rfl, hon, OM, OC, bw⟩ := hrel
    obtain ⟨wo, rfl⟩ : ∃ u, u = wr := ⟨_, rfl⟩
    by_cases hlt : j < n
    · have d1 : decide ((j : Int) < (n : Int)) = true := decide_eq_true (by omega)
      obtain ⟨g, o, x, rfl, hg, hx, c0⟩ := (HX.out.nx bw).item hlt
      have FT := Lib.hid (flat_take hx)
      have SMX := Lib.hid (SM.out x (List.mem_of_getElem? hx))
      have CX := Lib.hid ((HX.out.dat x (List.mem_of_getElem? hx)))
      have D0 := Lib.hid (HX0.out.dat x (List.mem_of_getElem? hx)).dat
      obtain ⟨xn, hxn⟩ : ∃ xn, x.l.length = xn := ⟨_, rfl⟩
      obtain ⟨XA, hXA⟩ : ∃ XA, x.A = XA := ⟨_, rfl⟩
      obtain ⟨xc, hxc⟩ : ∃ xc, x.c = xc := ⟨_, rfl⟩
      rw [hxn, hXA, hxc] at c0 CX
      have xn12 : xn ≤ 12 := by rw [← hxn]; exact SMX.out.1
      have HXN := Lib.hid hxn
      have cnc := CX.out.row.nc
      have c63 := CX.out.row.c63
      clear hx hxn hXA hxc
      go_wp2_with fail
      go_loopw [3, 16] (fun ov iv wr => ∃ (i : Nat) (OA : Option Addr) (on oc : Nat) (ol : List CV), i ≤ xn ∧ iv = .int .i64 i ∧ ov = .slice OA on oc ∧ on ≤ 12 * j + i ∧ Hid (ol.map CV.ch = mdl (((X.take j).map XV.t).flatten ++ (x.l.take i).map CV.ch)) ∧ Hid (Ew w0 wr w.heap.size OA on oc ol) ∧ Below w.heap.size w wr) (fun _ iv _ => (xn - intOf iv).toNat)
      case atStart => exact ⟨0, OA, on, oc, ol, by omega, rfl, rfl, by omega, by simpa using OM, OC, bw⟩
      case round =>
        obtain ⟨i, OA2, on2, oc2, ol2, hi, rfl, rfl, hon2, OM2, OC2, bw2⟩ := hrel
        clear OM OC
        by_cases hlt2 : i < xn
        · have d2 : decide ((i : Int) < (xn : Int)) = true := decide_eq_true (by omega)
          obtain ⟨g', o', y, rfl, hg', hy, a0, a1, a2⟩ := (CX.out.nx bw2).item hlt2
          have TK : Hid ((x.l.take (i + 1)).map CV.ch = (x.l.take i).map CV.ch ++ [y.ch]) := Lib.hid (by rw [List.take_add_one, hy]; simp)
          have DY := Lib.hid ((CX.out.dat y (List.mem_of_getElem? hy)))
          have DY0 := Lib.hid (D0.out y (List.mem_of_getElem? hy))
          obtain ⟨kn, hkn⟩ : ∃ kn, y.k.length = kn := ⟨_, rfl⟩
          obtain ⟨vn, hvn⟩ : ∃ vn, y.v.length = vn := ⟨_, rfl⟩
          rw [hkn] at a0
          rw [hvn] at a1
          have HKN := Lib.hid hkn.symm
          have HVN := Lib.hid hvn.symm
          clear hy hkn hvn
          obtain ⟨q11, hq11⟩ : ∃ q11, wr.heap.size = q11 := ⟨_, rfl⟩
          obtain ⟨W7, hW7⟩ : ∃ W7, wr.alloc (.cells #[.slice y.A kn y.c, .slice y.B vn y.d, .bool y.del] 45) = W7 := ⟨_, rfl⟩
          have v7 : Below wr.heap.size wr W7 := hW7 ▸ bal _ _
          have V : Hid (Bx W7 q11 [.slice y.A kn y.c, .slice y.B vn y.d, .bool y.del]) := hW7 ▸ Lib.hid (Bx.put _ hq11 #[.slice y.A kn y.c, .slice y.B vn y.d, .bool y.del] 45)
          have TV : Hid (Ty W7 q11 45) := hW7 ▸ hq11 ▸ Lib.hid (Ty.new _ _ _)
          have HW7 := Lib.hid hW7
          clear hW7
          have bw7 := bw2.trans (v7.mono bw2.size)
          have v0 := V.out.at_ 0 (by simp)
          have v1 := V.out.at_ 1 (by simp)
          have v2 := V.out.at_ 2 (by simp)
          simp only [List.getElem?_cons_succ, List.getElem?_cons_zero] at v0 v1 v2
          have AP := Lib.hid (rApply_any W7 (Lib.hid ((OC2.out.nx v7).cr (b0.trans (bw7.mono b0.size)))) (Lib.hid (show Dt W7 ⟨y.A, y.c, y.k, y.B, y.d, y.v, y.del⟩ from DY.out.nx bw7)) HKN HVN (by omega))
          go_upto_region 8 with fail
          rw [HW7.out]
          go_wp2_with fail
          go_at_call 20
          refine AP.out.mono ?_
          rintro e w8 ⟨A8, n8, c8, l8, rfl, hn8, M8, O8, D8, b8⟩
          have bw8 := bw7.trans (b8.mono bw7.size)
          have OM8 : Hid (l8.map CV.ch = mdl (((X.take j).map XV.t).flatten ++ (x.l.take (i + 1)).map CV.ch)) := Lib.hid (by rw [TK.out, ← List.append_assoc, mdl_snoc, ← OM2.out]; exact M8.out)
          have C8 : Hid (Ew w0 w8 w.heap.size A8 n8 c8 l8) := Lib.hid ⟨own_base O8.out bw7.size, fun z hz => by
            rcases D8.out z hz with h | rfl
            · exact OC2.out.dat z h
            · exact DY0.out⟩
          clear M8 O8 D8 AP a0 a1 a2 v0 v1 v2
          go_wp2_with fail
          go_roundw
          case rel => exact ⟨i + 1, A8, n8, c8, l8, by omega, by go_num, rfl, by omega, OM8, C8, bw8⟩
          case measure => simp [intOf]; omega
        · obtain rfl : i = xn := by omega
          have d2 : decide ((i : Int) < (i : Int)) = false := decide_eq_false (by omega)
          have OM3 : Hid (ol2.map CV.ch = mdl ((X.take (j + 1)).map XV.t).flatten) := Lib.hid (by
            have h := OM2.out
            rw [show x.l.take i = x.l from List.take_of_length_le (by have := HXN.out; omega)] at h
            rw [FT.out]; exact h)
          go_wp2_with fail
          go_roundw
          case rel => exact ⟨j + 1, OA2, on2, oc2, ol2, by omega, by go_num, rfl, by omega, OM3, OC2, bw2⟩
          case measure => simp [intOf]; omega
    · obtain rfl : j = n := by omega
      have d1 : decide ((j : Int) < (j : Int)) = false := decide_eq_false (by omega)
      have OM3 : Hid (ol.map CV.ch = mdl (X.map XV.t).flatten) := by have h := OM.out; rw [List.take_of_length_le (by have := NX.out; omega)] at h; exact Lib.hid h
      go_wp2_with fail
      go_ret
      exact ⟨OA, on, oc, ol, rfl, OM3, Lib.hid (OC.out.cr (b0.trans (bw.mono b0.size))), ⟨by omega, OC⟩, bw⟩
theorem model_any {A : Option Addr} {n c : Nat} {X : List XV} (w : World) (HX : Hid (Xr w A n c X)) (hn : n ≤ 20) (SM : Hid (∀ x ∈ X, x.l.length ≤ 12 ∧ ∀ y ∈ x.l, y.ch.ok = true)) :
    Calls Tryd.prog 12 #[.slice A n c] w (MlPost w w (mdl (X.map XV.t).flatten)) := model_own w w (Below.refl _ _) HX HX hn SM
theorem fnd_cases (M : List Ch) (key : List UInt8) : (fnd M key = -1 ∧ mfd M key = none) ∨ ∃ (i : Nat) (x : Ch), fnd M key = i ∧ M[i]? = some x ∧ mfd M key = some x.v := by
  unfold fnd
  rcases mfi_mfd (M := M) (key := key) with ⟨h1, h2⟩ | ⟨i, x, h1, h2, _, h4⟩
  · exact .inl ⟨by rw [h1], h2⟩
  · exact .inr ⟨i, x, by rw [h1], h2, h4⟩
set_option maxHeartbeats 3200000 in
theorem reads_any {f : FV} {b : Ent} {t0 : Int} {Ts : List (List Ch)} {PA FA LA A E : Option Addr} {np pc m fc ln lc n c en ec : Nat} {r0 last : Int} {X : List XV} {M : List CV} (w : World) (G : Hid (Gl w)) (H : Hid (Stt w f b t0 Ts PA np pc r0 FA m fc LA ln lc last))
    (HE : Hid (Cr w E en ec M)) (HM : Hid (∀ key, mfd (M.map CV.ch) key = app b Ts.flatten key)) (HX : Hid (Xr w A n c X)) (SM : Hid (∀ x ∈ X, x.l.length ≤ 12 ∧ ∀ y ∈ x.l, y.ch.ok = true)) :
    Calls Tryd.prog 11 #[.agg #[.slice PA np pc, .int .i64 r0, .slice FA m fc, .slice LA ln lc, .int .i64 last], .slice E en ec, .slice A n c] w fun e w' => e = .returned (.bool true) ∧ Below w.heap.size w w' := by
  have NX := Lib.hid HX.out.len
  have hnc := HX.out.row.nc
  have hc63 := HX.out.row.c63
  have NE := Lib.hid HE.out.len
  have henc := HE.out.row.nc
  have he63 := HE.out.row.c63
  obtain ⟨p, hp⟩ : ∃ p, w.heap.size = p := ⟨_, rfl⟩
  obtain ⟨W1, hW1⟩ : ∃ W1, w.alloc (.cells #[.slice PA np pc, .int .i64 r0, .slice FA m fc, .slice LA ln lc, .int .i64 last] 31) = W1 := ⟨_, rfl⟩
  have bw : Below w.heap.size w W1 := hW1 ▸ bal _ _
  have Z : Hid (Bx W1 p [.slice PA np pc, .int .i64 r0, .slice FA m fc, .slice LA ln lc, .int .i64 last]) := hW1 ▸ Lib.hid (Bx.put _ hp #[.slice PA np pc, .int .i64 r0, .slice FA m fc, .slice LA ln lc, .int .i64 last] 31)
  have TZ : Hid (Ty W1 p 31) := hW1 ▸ hp ▸ Lib.hid (Ty.new _ _ _)
  have HW1 := Lib.hid hW1
  clear hW1
  go_enter Tryd.func11, Tryd.ntmps11
  go_upto_region 1 with fail
  rw [HW1.out]
  go_wp2_with fail
  go_loopw [16] (fun iv wr => ∃ j : Nat, j ≤ n ∧ iv = .int .i64 j ∧ Below W1.heap.size W1 wr) (fun iv _ => (n - intOf iv).toNat)
  case atStart => exact ⟨0, by omega, rfl, Below.refl _ _⟩
  case round =>
    obtain ⟨j, hj, rfl, b1⟩ := hrel
    obtain ⟨wo, rfl⟩ : ∃ u, u = wr := ⟨_, rfl⟩
    have bw1 := bw.trans (b1.mono bw.size)
    by_cases hlt : j < n
    · have d1 : decide ((j : Int) < (n : Int)) = true := decide_eq_true (by omega)
      obtain ⟨g, o, x, rfl, hg, hx, c0⟩ := (HX.out.nx bw1).item hlt
      have SMX := Lib.hid (SM.out x (List.mem_of_getElem? hx))
      have CX := Lib.hid ((HX.out.dat x (List.mem_of_getElem? hx)))
      obtain ⟨xn, hxn⟩ : ∃ xn, x.l.length = xn := ⟨_, rfl⟩
      obtain ⟨XA, hXA⟩ : ∃ XA, x.A = XA := ⟨_, rfl⟩
      obtain ⟨xc, hxc⟩ : ∃ xc, x.c = xc := ⟨_, rfl⟩
      rw [hxn, hXA, hxc] at c0 CX
      have cnc := CX.out.row.nc
      have c63 := CX.out.row.c63
      clear hx hxn hXA hxc
      go_wp2_with fail
      go_loopw [22] (fun iv wr => ∃ i : Nat, i ≤ xn ∧ iv = .int .i64 i ∧ Below W1.heap.size W1 wr) (fun iv _ => (xn - intOf iv).toNat)
      case atStart => exact ⟨0, by omega, rfl, b1⟩
      case round =>
        obtain ⟨i, hi, rfl, b2⟩ := hrel
        have bw2 := bw.trans (b2.mono bw.size)
        by_cases hlt2 : i < xn
        · have d2 : decide ((i : Int) < (xn : Int)) = true := decide_eq_true (by omega)
          obtain ⟨g', o', y, rfl, hg', hy, a0, a1, a2⟩ := (CX.out.nx bw2).item hlt2
          have DY := Lib.hid ((CX.out.dat y (List.mem_of_getElem? hy)))
          have OKY := Lib.hid (ok_iff.1 (SMX.out.2 y (List.mem_of_getElem? hy)))
          have LK : Hid (lenK y.k) := Lib.hid OKY.out.1
          obtain ⟨kn, hkn⟩ : ∃ kn, y.k.length = kn := ⟨_, rfl⟩
          obtain ⟨vn, hvn⟩ : ∃ vn, y.v.length = vn := ⟨_, rfl⟩
          rw [hkn] at a0
          rw [hvn] at a1
          have HKN := Lib.hid hkn.symm
          clear hy hkn hvn
          obtain ⟨q11, hq11⟩ : ∃ q11, wr.heap.size = q11 := ⟨_, rfl⟩
          obtain ⟨W7, hW7⟩ : ∃ W7, wr.alloc (.cells #[.slice y.A kn y.c, .slice y.B vn y.d, .bool y.del] 45) = W7 := ⟨_, rfl⟩
          have v7 : Below wr.heap.size wr W7 := hW7 ▸ bal _ _
          have V : Hid (Bx W7 q11 [.slice y.A kn y.c, .slice y.B vn y.d, .bool y.del]) := hW7 ▸ Lib.hid (Bx.put _ hq11 #[.slice y.A kn y.c, .slice y.B vn y.d, .bool y.del] 45)
          have TV : Hid (Ty W7 q11 45) := hW7 ▸ hq11 ▸ Lib.hid (Ty.new _ _ _)
          have HW7 := Lib.hid hW7
          clear hW7
          have bw7 := bw2.trans (v7.mono bw2.size)
          have b17 := b2.trans (v7.mono b2.size)
          have Z7 := Lib.hid (Z.out.nx b17)
          have v0 := V.out.at_ 0 (by simp)
          have v1 := V.out.at_ 1 (by simp)
          have v2 := V.out.at_ 2 (by simp)
          simp only [List.getElem?_cons_succ, List.getElem?_cons_zero] at v0 v1 v2
          have z0 := Z7.out.at_ 0 (by simp)
          have z1 := Z7.out.at_ 1 (by simp)
          have z2 := Z7.out.at_ 2 (by simp)
          have z3 := Z7.out.at_ 3 (by simp)
          have z4 := Z7.out.at_ 4 (by simp)
          simp only [List.getElem?_cons_succ, List.getElem?_cons_zero] at z0 z1 z2 z3 z4
          have K7 : Hid (Rd W7 1 y.A kn y.c (bv y.k)) := Lib.hid (by rw [HKN.out]; exact (DY.out.nx bw7).k)
          have RD := Lib.hid (Stt.read (Lib.hid (H.out.nx bw7)) (Lib.hid (G.out.nx bw7)) K7)
          go_upto_region 7 with fail
          rw [HW7.out]
          go_wp2_with fail
          go_at_call 13
          refine RD.out.mono ?_
          rintro e w8 hpost
          rcases hpost with ⟨hno, _⟩ | ⟨_, A8, n8, c8, er, rfl, res, b8⟩
          · exact absurd LK.out hno
          have bw8 := bw7.trans (b8.mono bw7.size)
          have b18 := b17.trans (b8.mono b17.size)
          have V8 := Lib.hid (V.out.nx b8)
          have Z8 := Lib.hid (Z.out.nx b18)
          clear v0 v1 v2 z0 z1 z2 z3 z4 a0 a1 a2 RD
          have v0 := V8.out.at_ 0 (by simp)
          have v1 := V8.out.at_ 1 (by simp)
          have v2 := V8.out.at_ 2 (by simp)
          simp only [List.getElem?_cons_succ, List.getElem?_cons_zero] at v0 v1 v2
          have FD := rFind_any w8 (Lib.hid (HE.out.nx bw8)) (Lib.hid (K7.out.nx b8))
          rcases fnd_cases (M.map CV.ch) y.k with ⟨hf, hm⟩ | ⟨q, z, hf, hz, hm⟩
          · rw [hf] at FD
            have HAP : Hid (app b Ts.flatten y.k = none) := Lib.hid (by rw [← HM.out]; exact hm)
            have FD := Lib.hid FD
            clear hf hm
            rcases res with ⟨rfl, _, rfl⟩ | ⟨_, d, hd, _⟩
            · go_wp2_with fail
              go_at_call 14
              refine FD.out.mono ?_
              rintro e w9 ⟨rfl, nq, rfl⟩
              have b9 : Below W1.heap.size W1 (w8.drewN nq) := bdrewN b18
              go_wp2_with fail
              go_roundw
              case rel => exact ⟨i + 1, by omega, by go_num, b9⟩
              case measure => simp [intOf]; omega
            · rw [HAP.out] at hd; cases hd
          · rw [hf] at FD
            obtain ⟨zc, hzc, rfl⟩ : ∃ zc, M[q]? = some zc ∧ zc.ch = z := by
              rw [List.getElem?_map] at hz
              rcases hq : M[q]? with _ | zc
              · rw [hq] at hz; cases hz
              · rw [hq] at hz; injection hz with hz; exact ⟨zc, rfl, hz⟩
            have HAP : Hid (app b Ts.flatten y.k = some zc.v) := Lib.hid (by rw [← HM.out]; exact hm)
            have FD := Lib.hid FD
            have hqn : q < en := by have := (List.getElem?_eq_some_iff.1 hzc).1; have := NE.out; omega
            obtain ⟨ge, oe, zc', rfl, hge, hzc', e0, e1, e2⟩ := (HE.out.nx bw8).item hqn
            obtain rfl : zc' = zc := by rw [hzc] at hzc'; injection hzc' with h; exact h.symm
            have DZ := Lib.hid ((HE.out.dat zc' (List.mem_of_getElem? hzc)).nx bw8)
            obtain ⟨zn, hzn⟩ : ∃ zn, zc'.v.length = zn := ⟨_, rfl⟩
            have DZV : Hid (Rd w8 1 zc'.B zn zc'.d (bv zc'.v)) := Lib.hid (by rw [← hzn]; exact DZ.out.v)
            rw [hzn] at e1
            clear hf hm hz hzc hzc' hzn
            rcases res with ⟨_, hd, _⟩ | ⟨rfl, d, hd, HN8, R8⟩
            · rw [HAP.out] at hd; cases hd
            obtain rfl : zc'.v = d := by rw [HAP.out] at hd; injection hd
            clear hd
            have EQ : Hid (∀ nq, Calls Tryd.prog 16 #[.slice A8 n8 c8, .slice zc'.B zn zc'.d] (w8.drewN nq) fun e w' => e = .returned (.bool true) ∧ w8.drewN nq = w') := Lib.hid fun nq => by
              have := Pg.Equal_any (w8.drewN nq) (Lib.hid (R8.out.drewN nq)) (Lib.hid (DZV.out.drewN nq))
              rwa [Pg.eqB_self] at this
            have q0 : ¬ ((q : Int) < 0) := by omega
            have q1 : decide ((q : Int) < 0) = false := decide_eq_false (by omega)
            have q2 : decide ((q : Int) ≥ 0) = true := decide_eq_true (by omega)
            go_wp2_with fail
            go_at_call 14
            refine FD.out.mono ?_
            rintro e w9 ⟨rfl, nq, rfl⟩
            go_wp2_with fail
            go_at_call 16
            refine (EQ.out nq).mono ?_
            rintro e w' ⟨rfl, rfl⟩
            have b9 : Below W1.heap.size W1 (w8.drewN nq) := bdrewN b18
            go_wp2_with fail
            go_roundw
            case rel => exact ⟨i + 1, by omega, by go_num, b9⟩
            case measure => simp [intOf]; omega
        · obtain rfl : i = xn := by omega
          have d2 : decide ((i : Int) < (i : Int)) = false := decide_eq_false (by omega)
          go_wp2_with fail
          go_roundw
          case rel => exact ⟨j + 1, by omega, by go_num, b2⟩
          case measure => simp [intOf]; omega
    · obtain rfl : j = n := by omega
      have d1 : decide ((j : Int) < (j : Int)) = false := decide_eq_false (by omega)
      go_wp2_with fail
      go_ret
      exact ⟨rfl, bw1⟩
end Go.Proofs.YtpmkohnljngbhaaDoor.Sr
