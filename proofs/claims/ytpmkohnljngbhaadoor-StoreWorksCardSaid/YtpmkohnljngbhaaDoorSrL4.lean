/- The law: StoreMaps. -/
import Derived.Test.YtpmkohnljngbhaaDoorSrL3
import Derived.Test.YtpmkohnljngbhaaDoorSrL2
namespace Go.Proofs.YtpmkohnljngbhaaDoor.Sr
set_option linter.unusedVariables false
set_option linter.unusedSimpArgs false
set_option maxRecDepth 1000000
open Go.RowKit Wl Pg
theorem maps_ent {M : List Ch} {L : List (List Ch)} (h : M = mdl L.flatten) (key : List UInt8) : mfd M key = app (fun _ => none) (effs (fun _ => none) L).flatten key := by
  rw [h, mfd_mdl, app_effs]
set_option maxHeartbeats 3200000 in
theorem StoreMaps_walk (A : Option Addr) (n c : Nat) (X : List XV) (K : Option Addr) (kn kc : Nat) (key : List UInt8) (w : World) (G : Hid (Gl w)) (HX : Hid (Xr w A n c X)) (hk : Hid (Rd w 1 K kn kc (bv key))) :
    Calls Tryd.prog 3 #[.slice A n c, .slice K kn kc] w fun e w' => e = .returned (.bool true) ∧ Below w.heap.size w w' := by
  have NX := Lib.hid HX.out.len
  have KN := Lib.hid (rd_bytes hk.out)
  have AW := Lib.hid (awake_any w G)
  go_enter Tryd.func3, Tryd.ntmps3
  go_wp2_with fail
  go_at_call 7
  refine AW.out.mono ?_
  rintro e w1 ⟨rfl, bw⟩
  have HX1 := Lib.hid (HX.out.nx bw)
  have SL := small_any w1 HX1
  cases hs : smL X with
  | false =>
    rw [hs] at SL
    have SL := Lib.hid SL
    clear hs
    go_wp2_with fail
    go_at_call 8
    refine SL.out.mono ?_
    rintro e w2 ⟨rfl, b2⟩
    have bF := bw.trans (b2.mono bw.size)
    go_wp2_with fail
    go_ret
    exact ⟨rfl, bF⟩
  | true =>
    rw [hs] at SL
    have SL := Lib.hid SL
    have HS := smL_true hs
    have n6 : n ≤ 6 := by rw [NX.out]; exact HS.1
    have SM := Lib.hid HS.2
    clear hs HS
    go_wp2_with fail
    go_at_call 8
    refine SL.out.mono ?_
    rintro e w2 ⟨rfl, b2⟩
    replace bw := bw.trans (b2.mono bw.size)
    replace HX1 := Lib.hid (HX1.out.nx b2)
    have MD := Lib.hid (made_any w2 (Lib.hid (G.out.nx bw)) HX1 (by omega) SM)
    go_wp2_with fail
    go_at_call 9
    refine MD.out.mono ?_
    rintro e w3 ⟨LA, ln, lc, rfl, S3, b3⟩
    have eN : Hid (((effs (fun _ => none) (X.map XV.t)).length : Int) = n) := Lib.hid (by rw [effs_len, List.length_map]; have := NX.out; omega)
    rw [eN.out] at S3 ⊢
    replace bw := bw.trans (b3.mono bw.size)
    replace HX1 := Lib.hid (HX1.out.nx b3)
    obtain ⟨q, hq⟩ : ∃ q, w3.heap.size = q := ⟨_, rfl⟩
    obtain ⟨W4, hW4⟩ : ∃ W4, w3.alloc (.cells #[.slice none 0 0, .int .i64 (-1), .slice none 0 0, .slice LA ln lc, .int .i64 (n : Int)] 31) = W4 := ⟨_, rfl⟩
    have b4 : Below w3.heap.size w3 W4 := hW4 ▸ bal _ _
    have Z : Hid (Bx W4 q [.slice none 0 0, .int .i64 (-1), .slice none 0 0, .slice LA ln lc, .int .i64 (n : Int)]) := hW4 ▸ Lib.hid (Bx.put _ hq #[.slice none 0 0, .int .i64 (-1), .slice none 0 0, .slice LA ln lc, .int .i64 (n : Int)] 31)
    have TZ : Hid (Ty W4 q 31) := hW4 ▸ hq ▸ Lib.hid (Ty.new _ _ _)
    have HW4 := Lib.hid hW4
    clear hW4
    replace bw := bw.trans (b4.mono bw.size)
    replace HX1 := Lib.hid (HX1.out.nx b4)
    replace S3 := Lib.hid (S3.out.nx b4)
    have z0 := Z.out.at_ 0 (by simp)
    have z1 := Z.out.at_ 1 (by simp)
    have z2 := Z.out.at_ 2 (by simp)
    have z3 := Z.out.at_ 3 (by simp)
    have z4 := Z.out.at_ 4 (by simp)
    simp only [List.getElem?_cons_succ, List.getElem?_cons_zero] at z0 z1 z2 z3 z4
    have G4 := Lib.hid (G.out.nx bw)
    have K4 := Lib.hid (hk.out.nx bw)
    have zl := Z.out.lt
    have VD : Hid (Below W4.heap.size W4 W4.drew) := Lib.hid (Below.refl _ _).drew
    have VA : Hid (∀ U, Below W4.heap.size W4 U → Calls Tryd.prog 10 #[.agg #[.slice none 0 0, .int .i64 (-1), .slice none 0 0, .slice LA ln lc, .int .i64 (n : Int)]] U (fun e w' => e = .returned (.bool true) ∧ Below W4.heap.size W4 w')) := Lib.hid fun U hU =>
      (Stt.valid (Lib.hid (S3.out.nx hU)) (Lib.hid (G4.out.nx hU))).mono fun e w' ⟨h1, h2⟩ => ⟨h1, hU.trans (h2.mono hU.size)⟩
    have ML : Hid (∀ U, Below W4.heap.size W4 U → Calls Tryd.prog 12 #[.slice A n c] U (fun e w' => ∃ A' n' c' M, e = .returned (.slice A' n' c') ∧ Hid (M.map CV.ch = mdl (X.map XV.t).flatten) ∧ Hid (Cr w' A' n' c' M) ∧ n' ≤ 1000 ∧ Below U.heap.size U w' ∧ Below W4.heap.size W4 w')) := Lib.hid fun U hU =>
      (model_any U (Lib.hid (HX1.out.nx hU)) (by omega) SM).mono fun e w' ⟨A', n', c', M, h1, h2, h3, h4, h5⟩ => ⟨A', n', c', M, h1, h2, h3, h4.1, h5, hU.trans (h5.mono hU.size)⟩
    have RS : Hid (∀ U A' n' c' M, Below W4.heap.size W4 U → Hid (M.map CV.ch = mdl (X.map XV.t).flatten) → Hid (Cr U A' n' c' M) → Calls Tryd.prog 11 #[.agg #[.slice none 0 0, .int .i64 (-1), .slice none 0 0, .slice LA ln lc, .int .i64 (n : Int)], .slice A' n' c', .slice A n c] U (fun e w' => e = .returned (.bool true) ∧ Below W4.heap.size W4 w')) := Lib.hid fun U A' n' c' M hU hM hC =>
      (reads_any U (Lib.hid (G4.out.nx hU)) (Lib.hid (S3.out.nx hU)) hC (Lib.hid (maps_ent hM.out)) (Lib.hid (HX1.out.nx hU)) SM).mono fun e w' ⟨h1, h2⟩ => ⟨h1, hU.trans (h2.mono hU.size)⟩
    have KK : Hid (∀ U, Below W4.heap.size W4 U → Bx U q [.slice none 0 0, .int .i64 (-1), .slice none 0 0, .slice LA ln lc, .int .i64 (n : Int)]) := Lib.hid fun U hU => Z.out.nx hU
    go_upto_region 6 with fail
    rw [HW4.out]
    go_region_law
      (first
        | (go_simp
           go_at_call 10
           refine (VA.out _ VD.out).mono ?_
           rintro e w6 ⟨rfl, v6⟩
           have X6 := KK.out _ v6
           have s0 := X6.at_ 0 (by simp)
           have s1 := X6.at_ 1 (by simp)
           have s2 := X6.at_ 2 (by simp)
           have s3 := X6.at_ 3 (by simp)
           have s4 := X6.at_ 4 (by simp)
           simp only [List.getElem?_cons_succ, List.getElem?_cons_zero] at s0 s1 s2 s3 s4
           have V6 := Lib.hid v6
           clear v6 X6
           dsimp only)
        | (go_simp
           go_at_call 12
           refine (ML.out _ V6.out).mono ?_
           rintro e w7 ⟨A7, n7, c7, M7, rfl, hM7, C7, _, _, v7⟩
           have X7 := KK.out _ v7
           have t0 := X7.at_ 0 (by simp)
           have t1 := X7.at_ 1 (by simp)
           have t2 := X7.at_ 2 (by simp)
           have t3 := X7.at_ 3 (by simp)
           have t4 := X7.at_ 4 (by simp)
           simp only [List.getElem?_cons_succ, List.getElem?_cons_zero] at t0 t1 t2 t3 t4
           have V7 := Lib.hid v7
           clear v7 X7
           dsimp only)
        | (go_simp
           go_at_call 11
           refine (RS.out _ _ _ _ _ V7.out hM7 C7).mono ?_
           rintro e w8 ⟨rfl, v8⟩
           have X8 := KK.out _ v8
           have u0 := X8.at_ 0 (by simp)
           have u1 := X8.at_ 1 (by simp)
           have u2 := X8.at_ 2 (by simp)
           have u3 := X8.at_ 3 (by simp)
           have u4 := X8.at_ 4 (by simp)
           simp only [List.getElem?_cons_succ, List.getElem?_cons_zero] at u0 u1 u2 u3 u4
           have V8 := Lib.hid v8
           clear v8 X8
           dsimp only))
    all_goals
      have bw8 := bw.trans (V8.out.mono bw.size)
      have RD := Lib.hid (Stt.read (Lib.hid (S3.out.nx V8.out)) (Lib.hid (G4.out.nx V8.out)) (Lib.hid (K4.out.nx V8.out)))
      clear s0 s1 s2 s3 s4 t0 t1 t2 t3 t4 z0 z1 z2 z3 z4 C7 hM7 VA RS
      go_wp2_with fail
      go_at_call 13
      refine RD.out.mono ?_
      rintro e w9 hpost
      have AE : Hid (∀ M, M = mdl (X.map XV.t).flatten → mfd M key = app (fun _ => none) (effs (fun _ => none) (X.map XV.t)).flatten key) := Lib.hid fun M hM => maps_ent hM key
      obtain ⟨O, hO⟩ : ∃ O, app (fun _ => none) (effs (fun _ => none) (X.map XV.t)).flatten key = O := ⟨_, rfl⟩
      rw [hO] at hpost AE
      clear hO RD u0 u1 u2 u3 u4
      rcases hpost with ⟨hno, rfl, b9⟩ | ⟨hyes, A9, n9, c9, er, rfl, res, b9⟩
      · have v9 := V8.out.trans (b9.mono V8.out.size)
        have kf : keyN kn = false := by
          cases hkn : keyN kn with
          | false => rfl
          | true => exact absurd ((lenK_keyN KN.out).2 hkn) hno
        have MLx := Lib.hid (ML.out w9 v9)
        have KY := fun U => rKey_any (A := K) (n := kn) (c := kc) U
        rw [kf] at KY
        have KY := Lib.hid KY
        clear hno kf ML
        go_wp2_with fail
        go_at_call 12
        refine MLx.out.mono ?_
        rintro e w10 ⟨A10, n10, c10, M10, rfl, hM10, C10, _, b10, v10⟩
        have FD := Lib.hid (rFind_any w10 C10 (Lib.hid (K4.out.nx v10)))
        obtain ⟨fi, hfi⟩ : ∃ fi, fnd (M10.map CV.ch) key = fi := ⟨_, rfl⟩
        rw [hfi] at FD
        clear hfi
        go_wp2_with fail
        go_at_call 14
        refine FD.out.mono ?_
        rintro e w11 ⟨rfl, nq, rfl⟩
        have bF := bw.trans ((bdrewN v10 : Below W4.heap.size W4 (w10.drewN nq)).mono bw.size)
        go_wp2_with fail
        go_at_call 15
        refine (KY.out _).mono ?_
        rintro e w' ⟨rfl, rfl⟩
        go_wp2_with fail
        go_ret
        exact ⟨rfl, bF⟩
      · have v9 := V8.out.trans (b9.mono V8.out.size)
        have kf : keyN kn = true := (lenK_keyN KN.out).1 hyes
        have MLx := Lib.hid (ML.out w9 v9)
        have KY := fun U => rKey_any (A := K) (n := kn) (c := kc) U
        rw [kf] at KY
        have KY := Lib.hid KY
        clear hyes kf ML
        rcases res with ⟨rfl, hno, rfl⟩ | ⟨rfl, d, hd, HN9, R9⟩
        · have HNO := Lib.hid hno
          clear hno
          go_wp2_with fail
          go_at_call 12
          refine MLx.out.mono ?_
          rintro e w10 ⟨A10, n10, c10, M10, rfl, hM10, C10, _, b10, v10⟩
          have FD := rFind_any w10 C10 (Lib.hid (K4.out.nx v10))
          rcases fnd_cases (M10.map CV.ch) key with ⟨hf, _⟩ | ⟨q2, z, hf, hz, hm⟩
          · rw [hf] at FD
            have FD := Lib.hid FD
            clear hf
            go_wp2_with fail
            go_at_call 14
            refine FD.out.mono ?_
            rintro e w11 ⟨rfl, nq, rfl⟩
            have bF := bw.trans ((bdrewN v10 : Below W4.heap.size W4 (w10.drewN nq)).mono bw.size)
            go_wp2_with fail
            go_at_call 15
            refine (KY.out _).mono ?_
            rintro e w' ⟨rfl, rfl⟩
            go_wp2_with fail
            go_ret
            exact ⟨rfl, bF⟩
          · rw [AE.out _ hM10.out, HNO.out] at hm; cases hm
        · have HD := Lib.hid hd
          clear hd
          go_wp2_with fail
          go_at_call 12
          refine MLx.out.mono ?_
          rintro e w10 ⟨A10, n10, c10, M10, rfl, hM10, C10, _, b10, v10⟩
          have FD := rFind_any w10 C10 (Lib.hid (K4.out.nx v10))
          have R10 := Lib.hid (R9.out.nx b10)
          rcases fnd_cases (M10.map CV.ch) key with ⟨hf, hm⟩ | ⟨q2, z, hf, hz, hm⟩
          · rw [AE.out _ hM10.out, HD.out] at hm; cases hm
          · rw [hf] at FD
            obtain ⟨zc, hzc, rfl⟩ : ∃ zc, M10[q2]? = some zc ∧ zc.ch = z := by
              rw [List.getElem?_map] at hz
              rcases hq : M10[q2]? with _ | zc
              · rw [hq] at hz; cases hz
              · rw [hq] at hz; injection hz with hz; exact ⟨zc, rfl, hz⟩
            have DE : Hid (zc.v = d) := Lib.hid (by rw [AE.out _ hM10.out, HD.out] at hm; injection hm with hm; exact hm.symm)
            have FD := Lib.hid FD
            have NE := C10.out.len
            have enc := C10.out.row.nc
            have e63 := C10.out.row.c63
            have hqn : q2 < n10 := by have := (List.getElem?_eq_some_iff.1 hzc).1; omega
            obtain ⟨ge, oe, zc', rfl, hge, hzc', e0, e1, e2⟩ := C10.out.item hqn
            obtain rfl : zc' = zc := by rw [hzc] at hzc'; injection hzc' with h; exact h.symm
            have DZ := C10.out.dat zc' (List.mem_of_getElem? hzc)
            obtain ⟨zn, hzn⟩ : ∃ zn, zc'.v.length = zn := ⟨_, rfl⟩
            have DZV : Hid (Rd w10 1 zc'.B zn zc'.d (bv d)) := Lib.hid (by rw [← hzn, ← DE.out]; exact DZ.v)
            rw [hzn] at e1
            have EQ : Hid (∀ nq, Calls Tryd.prog 16 #[.slice A9 n9 c9, .slice zc'.B zn zc'.d] (w10.drewN nq) fun e w' => e = .returned (.bool true) ∧ w10.drewN nq = w') := Lib.hid fun nq => by
              have := Pg.Equal_any (w10.drewN nq) (Lib.hid (R10.out.drewN nq)) (Lib.hid (DZV.out.drewN nq))
              rwa [Pg.eqB_self] at this
            have q1 : decide ((q2 : Int) < 0) = false := decide_eq_false (by omega)
            clear hf hz hm hzc hzc' hzn DZ NE e0 e2
            go_wp2_with fail
            go_at_call 14
            refine FD.out.mono ?_
            rintro e w11 ⟨rfl, nq, rfl⟩
            have bF := bw.trans ((bdrewN v10 : Below W4.heap.size W4 (w10.drewN nq)).mono bw.size)
            go_wp2_with fail
            go_at_call 15
            refine (KY.out _).mono ?_
            rintro e w' ⟨rfl, rfl⟩
            go_wp2_with fail
            go_at_call 16
            refine (EQ.out nq).mono ?_
            rintro e w' ⟨rfl, rfl⟩
            go_wp2_with fail
            go_ret
            exact ⟨rfl, bF⟩
end Go.Proofs.YtpmkohnljngbhaaDoor.Sr
