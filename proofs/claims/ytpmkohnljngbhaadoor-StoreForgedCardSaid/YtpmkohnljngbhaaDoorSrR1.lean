/- Walks: the reference's Equal, Find, Apply. -/
import Derived.Test.YtpmkohnljngbhaaDoorSrMem
namespace Go.Proofs.YtpmkohnljngbhaaDoor.Sr
set_option linter.unusedVariables false
set_option linter.unusedSimpArgs false
set_option maxRecDepth 1000000
open Go.RowKit Wl Pg

theorem eq_take {a b : List UInt8} {j : Nat} {x y : UInt8} (hx : a[j]? = some x) (hy : b[j]? = some y) : a.take j = b.take j → x = y → a.take (j + 1) = b.take (j + 1) := by
  intro h e
  rw [List.take_add_one, List.take_add_one, h, hx, hy, e]
theorem ne_at {a b : List UInt8} {j : Nat} {x y : UInt8} (hx : a[j]? = some x) (hy : b[j]? = some y) (h : x ≠ y) : eqB a b = false := by
  refine eqB_f fun e => h ?_
  rw [e, hy] at hx; injection hx with hx; exact hx.symm
theorem rEqual_any {A B : Option Addr} {n c m d : Nat} {a b : List UInt8} (w : World) (h : Hid (Rd w 1 A n c (bv a))) (k : Hid (Rd w 1 B m d (bv b))) :
    Calls Tryd.prog 42 #[.slice A n c, .slice B m d] w fun e w' => e = .returned (.bool (eqB a b)) ∧ ∃ q, w' = w.drewN q := by
  have NA : Hid (n = a.length) := Lib.hid (by have := h.out.len; rw [bv_len] at this; omega)
  have NB : Hid (m = b.length) := Lib.hid (by have := k.out.len; rw [bv_len] at this; omega)
  have hnc := h.out.nc
  have h63 := h.out.c63
  have knc := k.out.nc
  have k63 := k.out.c63
  by_cases hnm : n = m
  · subst hnm
    have q1 : ((n : Int) != (n : Int)) = false := by simp
    go_enter Tryd.func42, Tryd.ntmps42
    go_wp2_with fail
    go_loopw [5] (fun iv wr => ∃ i q : Nat, i ≤ n ∧ iv = .int .i64 i ∧ Hid (a.take i = b.take i) ∧ w.drewN q = wr) (fun iv _ => (n - intOf iv).toNat)
    case atStart => exact ⟨0, 0, by omega, rfl, Lib.hid rfl, rfl⟩
    case round =>
      obtain ⟨i, q, hi, rfl, HT, rfl⟩ := hrel
      by_cases hlt : i < n
      · have d1 : decide ((i : Int) < (n : Int)) = true := decide_eq_true (by omega)
        obtain ⟨ga, oa, x, rfl, hga, hx, ca⟩ := h.out.byte hlt
        obtain ⟨gb, ob, y, rfl, hgb, hy, cb⟩ := k.out.byte hlt
        have TT := Lib.hid (eq_take hx hy HT.out)
        have NE := Lib.hid (ne_at hx hy)
        have XY : Hid (x = y ↔ (x.toNat : Int) = (y.toNat : Int)) := Lib.hid ⟨fun e => by rw [e], fun e => UInt8.toNat_inj.1 (by omega)⟩
        obtain ⟨X, hX⟩ : ∃ X : Int, (x.toNat : Int) = X := ⟨_, rfl⟩
        obtain ⟨Y, hY⟩ : ∃ Y : Int, (y.toNat : Int) = Y := ⟨_, rfl⟩
        rw [hX] at ca XY
        rw [hY] at cb XY
        clear hx hy hX hY
        by_cases he : X = Y
        · have R := Lib.hid (TT.out (XY.out.2 he))
          have q2 : (X != Y) = false := by simpa using he
          clear he
          go_wp2_with fail
          go_quiet (fail)
          go_wp2_with fail
          go_roundw
          case rel => exact ⟨i + 1, _, by omega, by go_num, R, by first | rfl | exact (World.drewN_drewN _ _ _).symm⟩
          case measure => simp [intOf]; omega
        · have R := Lib.hid (NE.out fun e => he (XY.out.1 e))
          have q2 : (X != Y) = true := by simpa using he
          clear he
          go_wp2_with fail
          go_quiet (fail)
          go_wp2_with fail
          go_ret
          exact ⟨ret_bool R.out.symm, _, by first | rfl | exact World.drewN_drewN _ _ _⟩
      · obtain rfl : i = n := by omega
        have d1 : decide ((i : Int) < (i : Int)) = false := decide_eq_false (by omega)
        have R : Hid (eqB a b = true) := Lib.hid (eqB_iff.2 (by
          have h := HT.out
          rwa [List.take_of_length_le (by have := NA.out; omega), List.take_of_length_le (by have := NB.out; omega)] at h))
        go_wp2_with fail
        go_ret
        exact ⟨ret_bool R.out.symm, q, rfl⟩
  · have q1 : ((n : Int) != (m : Int)) = true := by simp; omega
    have R : Hid (eqB a b = false) := Lib.hid (eqB_f fun e => hnm (by rw [NA.out, NB.out, e]))
    go_enter Tryd.func42, Tryd.ntmps42
    go_wp2_with fail
    go_ret
    exact ⟨ret_bool R.out.symm, 0, rfl⟩
/-- The number of the entry of a key. -/
def fnd (M : List Ch) (key : List UInt8) : Int := match mfi M key with
  | none => -1
  | some i => i
theorem mfi_some {M : List Ch} {key : List UInt8} {j : Nat} {x : Ch} (hx : M[j]? = some x) (hk : x.k = key) (h : ∀ y ∈ M.take j, y.k ≠ key) : mfi M key = some j := by
  unfold mfi
  obtain ⟨hj, e⟩ := List.getElem?_eq_some_iff.1 hx
  rw [List.findIdx?_eq_some_iff_getElem]
  refine ⟨hj, by rw [e]; simpa using hk, fun i hi => ?_⟩
  have := h (M[i]'(by omega)) (List.mem_iff_getElem?.2 ⟨i, by rw [List.getElem?_take]; simp [hi]⟩)
  simpa using this
theorem mfi_none {M : List Ch} {key : List UInt8} (h : ∀ y ∈ M, y.k ≠ key) : mfi M key = none := by
  unfold mfi
  rw [List.findIdx?_eq_none_iff]
  intro x hx; simpa using h x hx
theorem rFind_any {A K : Option Addr} {n c kn kc : Nat} {l : List CV} {key : List UInt8} (w : World) (C : Hid (Cr w A n c l)) (hk : Hid (Rd w 1 K kn kc (bv key))) :
    Calls Tryd.prog 14 #[.slice A n c, .slice K kn kc] w fun e w' => e = .returned (.int .i64 (fnd (l.map CV.ch) key)) ∧ ∃ q, w' = w.drewN q := by
  have NL := Lib.hid C.out.len
  have hnc := C.out.row.nc
  have h63 := C.out.row.c63
  go_enter Tryd.func14, Tryd.ntmps14
  go_wp2_with fail
  go_loopw [5] (fun iv wr => ∃ i q : Nat, i ≤ n ∧ iv = .int .i64 i ∧ Hid (∀ y ∈ (l.map CV.ch).take i, y.k ≠ key) ∧ w.drewN q = wr) (fun iv _ => (n - intOf iv).toNat)
  case atStart => exact ⟨0, 0, by omega, rfl, Lib.hid (by simp), rfl⟩
  case round =>
    obtain ⟨i, q, hi, rfl, HT, rfl⟩ := hrel
    by_cases hlt : i < n
    · have d1 : decide ((i : Int) < (n : Int)) = true := decide_eq_true (by omega)
      obtain ⟨g, o, x, rfl, hg, hx, c0, c1, c2⟩ := C.out.item hlt
      have hx' : (l.map CV.ch)[i]? = some x.ch := by rw [List.getElem?_map, hx]; rfl
      have HX := Lib.hid hx'
      have EQ := rEqual_any (w.drewN q) (Lib.hid ((C.out.dat x (List.mem_of_getElem? hx)).k.drewN q)) (Lib.hid (hk.out.drewN q))
      obtain ⟨xn, hxn⟩ : ∃ xn, x.k.length = xn := ⟨_, rfl⟩
      rw [hxn] at c0 EQ
      clear hx hx' hxn c1 c2
      cases he : eqB x.k key with
      | true =>
        rw [he] at EQ
        have R : Hid (fnd (l.map CV.ch) key = i) := Lib.hid (by unfold fnd; rw [mfi_some HX.out (eqB_iff.1 he) HT.out])
        have EQ := Lib.hid EQ
        clear he
        go_wp2_with fail
        go_at_call 42
        refine EQ.out.mono ?_
        rintro e w1 ⟨rfl, q1, rfl⟩
        go_wp2_with fail
        go_ret
        exact ⟨ret_int R.out.symm, _, rfl⟩
      | false =>
        rw [he] at EQ
        have R : Hid (∀ y ∈ (l.map CV.ch).take (i + 1), y.k ≠ key) := Lib.hid fun y hy => by
          rw [List.take_add_one, HX.out] at hy
          rcases List.mem_append.1 hy with hy | hy
          · exact HT.out y hy
          · obtain rfl : y = x.ch := by simpa using hy
            intro e
            have : x.k = key := e
            rw [this, eqB_self] at he; cases he
        have EQ := Lib.hid EQ
        clear he
        go_wp2_with fail
        go_at_call 42
        refine EQ.out.mono ?_
        rintro e w1 ⟨rfl, q1, rfl⟩
        go_wp2_with fail
        go_roundw
        case rel => exact ⟨i + 1, _, by omega, by go_num, R, rfl⟩
        case measure => simp [intOf]; omega
    · obtain rfl : i = n := by omega
      have d1 : decide ((i : Int) < (i : Int)) = false := decide_eq_false (by omega)
      have R : Hid (fnd (l.map CV.ch) key = -1) := Lib.hid (by
        have h := HT.out
        rw [List.take_of_length_le (by rw [List.length_map]; have := NL.out; omega)] at h
        unfold fnd; rw [mfi_none h])
      go_wp2_with fail
      go_ret
      exact ⟨ret_int R.out.symm, q, rfl⟩
/-- What Apply answers: a row of its own, of entries whose bytes were there. -/
def ApPost (w : World) (n : Nat) (L : List CV) (x : CV) (e : Ending) (w' : World) : Prop :=
  ∃ (A : Option Addr) (n' c' : Nat) (l : List CV), e = .returned (.slice A n' c') ∧ n' ≤ n + 1 ∧ Hid (l.map CV.ch = apl (L.map CV.ch) x.ch) ∧ Hid (w'.ownsRow w.heap.size 45 3 (.slice A n' c') n' (cvs l)) ∧ Hid (∀ y ∈ l, y ∈ L ∨ y = x) ∧ Below w.heap.size w w'
theorem apl_take {M : List Ch} {x : Ch} {k : List UInt8} {j : Nat} (hx : M[j]? = some x) : (M.take (j + 1)).filter (fun y => decide (y.k ≠ k)) = (M.take j).filter (fun y => decide (y.k ≠ k)) ++ if x.k = k then [] else [x] := by
  rw [List.take_add_one, hx, List.filter_append]
  by_cases h : x.k = k <;> simp [h]
set_option maxHeartbeats 3200000 in
theorem rApply_any {A KA VA : Option Addr} {n c kn kc vn vc : Nat} {k v : List UInt8} {del : Bool} {l : List CV} (w : World) (C : Hid (Cr w A n c l)) (D : Hid (Dt w ⟨KA, kc, k, VA, vc, v, del⟩)) (KN : Hid (kn = k.length)) (VN : Hid (vn = v.length)) (hn : n ≤ 100000) :
    Calls Tryd.prog 20 #[.slice A n c, .agg #[.slice KA kn kc, .slice VA vn vc, .bool del]] w (ApPost w n l ⟨KA, kc, k, VA, vc, v, del⟩) := by
  obtain ⟨i0, hi, hz0, hz1, hz2⟩ := info_parts info_change
  have NL := Lib.hid C.out.len
  have hnc := C.out.row.nc
  have h63 := C.out.row.c63
  obtain ⟨p, hp⟩ : ∃ p, w.heap.size = p := ⟨_, rfl⟩
  obtain ⟨W1, hW1⟩ : ∃ W1, w.alloc (.cells #[.slice KA kn kc, .slice VA vn vc, .bool del] 45) = W1 := ⟨_, rfl⟩
  have v1 : Below w.heap.size w W1 := hW1 ▸ bal _ _
  have X : Hid (Bx W1 p [.slice KA kn kc, .slice VA vn vc, .bool del]) := hW1 ▸ Lib.hid (Bx.put _ hp #[.slice KA kn kc, .slice VA vn vc, .bool del] 45)
  have TX : Hid (Ty W1 p 45) := hW1 ▸ hp ▸ Lib.hid (Ty.new _ _ _)
  have HW1 := Lib.hid hW1
  clear hW1
  have x0 := X.out.at_ 0 (by simp)
  have x1 := X.out.at_ 1 (by simp)
  have x2 := X.out.at_ 2 (by simp)
  simp only [List.getElem?_cons_succ, List.getElem?_cons_zero] at x0 x1 x2
  go_enter Tryd.func20, Tryd.ntmps20
  go_upto_region 1 with fail
  rw [HW1.out]
  go_wp2_with fail
  go_loopw [5, 6] (fun ov iv wr => ∃ (j : Nat) (OA : Option Addr) (on oc : Nat) (ol : List CV), j ≤ n ∧ on ≤ j ∧ ov = .slice OA on oc ∧ iv = .int .i64 j ∧ Hid (wr.ownsRow W1.heap.size 45 3 (.slice OA on oc) on (cvs ol)) ∧ Hid (ol.map CV.ch = ((l.map CV.ch).take j).filter (fun y => decide (y.k ≠ k))) ∧ Hid (∀ y ∈ ol, y ∈ l) ∧ Below W1.heap.size W1 wr) (fun _ iv _ => (n - intOf iv).toNat)
  case atStart => exact ⟨0, none, 0, 0, [], by omega, by omega, rfl, rfl, Lib.hid (World.ownsRow_nil _ _ _ _), Lib.hid rfl, Lib.hid (by simp), Below.refl _ _⟩
  case round =>
    obtain ⟨j, OA, on, oc, ol, hj, hon, rfl, rfl, OW, OM, OD, b1⟩ := hrel
    have bw := v1.trans (b1.mono v1.size)
    have XR := Lib.hid (X.out.nx b1)
    clear x0 x1 x2
    have x0 := XR.out.at_ 0 (by simp)
    have x1 := XR.out.at_ 1 (by simp)
    have x2 := XR.out.at_ 2 (by simp)
    simp only [List.getElem?_cons_succ, List.getElem?_cons_zero] at x0 x1 x2
    by_cases hlt : j < n
    · have d1 : decide ((j : Int) < (n : Int)) = true := decide_eq_true (by omega)
      obtain ⟨g, o, x, rfl, hg, hx, c0, c1, c2⟩ := (C.out.nx bw).item hlt
      have hx' : (l.map CV.ch)[j]? = some x.ch := by rw [List.getElem?_map, hx]; rfl
      have AT := Lib.hid (apl_take (k := k) hx')
      have MX := Lib.hid (List.mem_of_getElem? hx)
      have DX := Lib.hid (C.out.dat x MX.out)
      have EQ : Hid (∀ a, Calls Tryd.prog 42 #[.slice x.A x.k.length x.c, .slice KA kn kc] (wr.drewN a) fun e w' => e = .returned (.bool (eqB x.k k)) ∧ ∃ m, w' = (wr.drewN a).drewN m) := Lib.hid fun a =>
        rEqual_any _ (Lib.hid ((DX.out.k.nx bw).drewN a)) (Lib.hid (by rw [KN.out]; exact (D.out.k.nx bw).drewN a))
      obtain ⟨xn, hxn⟩ : ∃ xn, x.k.length = xn := ⟨_, rfl⟩
      obtain ⟨yn, hyn⟩ : ∃ yn, x.v.length = yn := ⟨_, rfl⟩
      rw [hxn] at c0 EQ
      rw [hyn] at c1
      have HXN := Lib.hid hxn
      have HYN := Lib.hid hyn
      clear hx hx' hxn hyn
      cases he : eqB x.k k with
      | true =>
        rw [he] at EQ
        have R : Hid (ol.map CV.ch = ((l.map CV.ch).take (j + 1)).filter (fun y => decide (y.k ≠ k))) := Lib.hid (by rw [AT.out, if_pos (show x.ch.k = k from eqB_iff.1 he), List.append_nil]; exact OM.out)
        clear he
        go_wp2_with fail
        go_quiet ((first | (go_at_call 42; exact q0_drew (EQ.out _))))
        have b2 : Below wr.heap.size wr (wr.drewN nq) := bdrewN (Below.refl _ _)
        have OW2 := Lib.hid (own_below OW.out b2)
        have b12 := b1.trans (b2.mono b1.size)
        go_wp2_with fail
        go_roundw
        case rel => exact ⟨j + 1, OA, on, oc, ol, by omega, by omega, rfl, by go_num, OW2, R, OD, b12⟩
        case measure => simp [intOf]; omega
      | false =>
        rw [he] at EQ
        have R : Hid ((ol ++ [x]).map CV.ch = ((l.map CV.ch).take (j + 1)).filter (fun y => decide (y.k ≠ k))) := Lib.hid (by
          rw [AT.out, if_neg (show ¬ x.ch.k = k from fun e => by have : x.k = k := e; rw [this, eqB_self] at he; cases he), List.map_append, OM.out]; rfl)
        clear he
        go_wp2_with fail
        go_quiet ((first | (go_at_call 42; exact q0_drew (EQ.out _))))
        obtain ⟨W2, hW2⟩ : ∃ u, wr.drewN nq = u := ⟨_, rfl⟩
        rw [hW2]
        have b2 : Below wr.heap.size wr W2 := hW2 ▸ bdrewN (Below.refl _ _)
        have OW2 := Lib.hid (own_below OW.out b2)
        have b12 := b1.trans (b2.mono b1.size)
        have c0' : W2.cell? ⟨g, o + j * 3, none⟩ = some (.slice x.A xn x.c) := ((bcell b2).1 _ _ hg).trans c0
        have c1' : W2.cell? ⟨g, o + j * 3 + 1, none⟩ = some (.slice x.B yn x.d) := ((bcell b2).1 _ _ hg).trans c1
        have c2' : W2.cell? ⟨g, o + j * 3 + 2, none⟩ = some (.bool x.del) := ((bcell b2).1 _ _ hg).trans c2
        have hs2 := b12.size
        clear hW2 c0 c1 c2 x0 x1 x2 EQ
        go_wp2_with (at_builtin; apply hold)
        unfold Hold
        refine wpList_app _ rfl (.tmp 22) (.tmp 27) 36 rfl W1.heap.size 45 i0 (.agg #[.slice none 0 0, .slice none 0 0, .bool false]) 3 56 Tryd.underlying36 hi hz0 hz1 hz2 rfl (by omega) (by rfl) (own_below OW2.out (bal _ _)) (by rfl) (Rd.lit W2 _ 3 #[.slice x.A xn x.c, .slice x.B yn x.d, .bool x.del] 1 (by omega) rfl) (Wl.one3 _ _ _ rfl rfl rfl) (by omega) (by omega) (by simp; omega) ?_
        intro A4 c4 W4 own4 g4
        have b4 : Below W1.heap.size W1 W4 := g4.low (bel_alloc b12 (Nat.le_refl _) _) (by simp; omega) fun q e => (own_blk_le OW2.out e).1
        have O4 : Hid (W4.ownsRow W1.heap.size 45 3 (.slice A4 (on + 1) c4) (on + 1) (cvs (ol ++ [x]))) := Lib.hid (by
          rw [cvs_app, show cvs [x] = [.slice x.A xn x.c, .slice x.B yn x.d, .bool x.del] by simp [cvs, CV.cs, HXN.out, HYN.out]]
          exact own4)
        have OD4 : Hid (∀ y ∈ ol ++ [x], y ∈ l) := Lib.hid fun y hy => by
          rcases List.mem_append.1 hy with hy | hy
          · exact OD.out y hy
          · obtain rfl := List.mem_singleton.1 hy
            exact MX.out
        clear own4 g4
        go_wp2_with fail
        go_roundw
        case rel => exact ⟨j + 1, A4, on + 1, c4, ol ++ [x], by omega, by omega, by first | rfl | go_num, by go_num, O4, R, OD4, b4⟩
        case measure => simp [intOf]; omega
    · obtain rfl : j = n := by omega
      have d1 : decide ((j : Int) < (j : Int)) = false := decide_eq_false (by omega)
      have OM : Hid (ol.map CV.ch = (l.map CV.ch).filter (fun y => decide (y.k ≠ k))) := by
        have h := OM.out
        rw [List.take_of_length_le (by rw [List.length_map]; have := NL.out; omega)] at h
        exact Lib.hid h
      cases del with
      | true =>
        have OF := Lib.hid (own_base OW.out v1.size)
        go_wp2_with fail
        go_ret
        exact ⟨OA, on, oc, ol, rfl, by omega, Lib.hid (by rw [OM.out]; exact (List.append_nil _).symm), OF, Lib.hid fun y hy => .inl (OD.out y hy), bw⟩
      | false =>
        have hs2 := b1.size
        go_wp2_with (at_builtin; apply hold)
        unfold Hold
        refine wpList_app _ rfl (.tmp 32) (.tmp 34) 36 rfl W1.heap.size 45 i0 (.agg #[.slice none 0 0, .slice none 0 0, .bool false]) 3 56 Tryd.underlying36 hi hz0 hz1 hz2 rfl (by omega) (by rfl) (own_below OW.out (bal _ _)) (by rfl) (Rd.lit wr _ 3 #[.slice KA kn kc, .slice VA vn vc, .bool false] 1 (by omega) rfl) (Wl.one3 _ _ _ rfl rfl rfl) (by omega) (by omega) (by simp; omega) ?_
        intro A4 c4 W4 own4 g4
        have b4 : Below w.heap.size w W4 := g4.low (bel_alloc bw (Nat.le_refl _) _) (by have := bw.size; simp; omega) fun q e => Nat.le_trans v1.size (own_blk_le OW.out e).1
        have O4 : Hid (W4.ownsRow w.heap.size 45 3 (.slice A4 (on + 1) c4) (on + 1) (cvs (ol ++ [(⟨KA, kc, k, VA, vc, v, false⟩ : CV)]))) := Lib.hid (by
          rw [cvs_app, show cvs [(⟨KA, kc, k, VA, vc, v, false⟩ : CV)] = [.slice KA kn kc, .slice VA vn vc, .bool false] by simp [cvs, CV.cs, KN.out, VN.out]]
          exact own_base own4 v1.size)
        have OD4 : Hid (∀ y ∈ ol ++ [(⟨KA, kc, k, VA, vc, v, false⟩ : CV)], y ∈ l ∨ y = ⟨KA, kc, k, VA, vc, v, false⟩) := Lib.hid fun y hy => by
          rcases List.mem_append.1 hy with hy | hy
          · exact .inl (OD.out y hy)
          · exact .inr (List.mem_singleton.1 hy)
        clear own4 g4
        go_wp2_with fail
        go_ret
        exact ⟨A4, on + 1, c4, _, rfl, by omega, Lib.hid (by rw [List.map_append, OM.out]; rfl), O4, OD4, b4⟩
end Go.Proofs.YtpmkohnljngbhaaDoor.Sr
