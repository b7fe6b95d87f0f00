/- PageMaps. -/
import Derived.Test.YtphiblmkgbkdmaaDoorPgS1
import Derived.Deep.RegionWith
import Derived.Deep.Cut
import Derived.Deep.CutBlock
namespace Go.Proofs.YtphiblmkgbkdmaaDoor.Pg
set_option linter.unusedVariables false
set_option linter.unusedSimpArgs false
open Go.RowKit Wl

theorem rng_nil (es : List It) : rng es [] [] = es := by
  unfold rng
  refine List.filter_eq_self.2 fun x _ => ?_
  unfold inR
  have : 0 ≤ cmpB x.k [] := by
    cases x.k with
    | nil => rw [cmpB_nil]; omega
    | cons a l => rw [cmpB_cn]; omega
  rw [decide_eq_true this]; rfl
theorem fd_at {es : List It} (hs : Srt es) {key : List UInt8} (h : fd es key = true) : ∃ y, es[ix es key]? = some y ∧ lkp es key = some y.v := by
  obtain ⟨y, h1, h2⟩ := (plc_ix hs key).fd.1 h
  exact ⟨y, h1, lkp_some hs h1 h2⟩
set_option maxRecDepth 20000 in
set_option maxHeartbeats 6400000 in
theorem PageMaps_walk (A : Option Addr) (N c : Nat) (l : List OV) (FA' : Option Addr) (an ac : Nat) (ka : List UInt8) (TA : Option Addr) (bn bc : Nat) (kb : List UInt8) (YA : Option Addr) (yn yc : Nat) (key : List UInt8) (w : World) (G : Hid (Gl w)) (h : Hid (Or w A N c l)) (ha : Hid (Rd w 1 FA' an ac (bv ka))) (hb : Hid (Rd w 1 TA bn bc (bv kb))) (hy : Hid (Rd w 1 YA yn yc (bv key))) :
    Calls Tryd.prog 9 #[.slice A N c, .slice FA' an ac, .slice TA bn bc, .slice YA yn yc] w fun e w' => e = .returned (.bool true) ∧ Below w.heap.size w w' := by
  have NL := Lib.hid h.out.len
  have YN : Hid (lenB yn 0 = true ↔ lenK key) := Lib.hid (lenB_key (by have := hy.out.len; rw [bv_len] at this; omega))
  go_enter Tryd.func9, Tryd.ntmps9
  go_wp2_with fail
  go_at_call 11
  refine (awake_any w G).mono ?_
  rintro e w1 ⟨rfl, b1⟩
  go_wp2_with fail
  go_at_call 25
  refine (few_any w1 (Lib.hid (h.out.below b1))).mono ?_
  rintro e w2 ⟨rfl, b2⟩
  have bw2 := b1.trans (b2.mono b1.size)
  rcases hf : fewB l with _ | _
  case false =>
    go_wp2_with fail
    go_at_call 11
    refine (awake_any w2 (Lib.hid (G.out.below bw2))).mono ?_
    rintro e w3 ⟨rfl, b3⟩
    go_wp2_with fail
    go_ret
    exact ⟨rfl, bw2.trans (b3.mono bw2.size)⟩
  have n60 : N ≤ 60 := by have := (few_true hf).1; have := NL.out; omega
  clear hf
  have hN := h.out.row.nc
  have hN2 := h.out.row.c63
  by_cases q1 : 200 < an
  · have e1 : decide ((an : Int) > 200) = true := decide_eq_true (by omega)
    go_wp2_with fail
    go_at_call 11
    refine (awake_any w2 (Lib.hid (G.out.below bw2))).mono ?_
    rintro e w3 ⟨rfl, b3⟩
    go_wp2_with fail
    go_ret
    exact ⟨rfl, bw2.trans (b3.mono bw2.size)⟩
  have e1 : decide ((an : Int) > 200) = false := decide_eq_false (by omega)
  by_cases q2 : 200 < bn
  · have e2 : decide ((bn : Int) > 200) = true := decide_eq_true (by omega)
    go_wp2_with fail
    go_at_call 11
    refine (awake_any w2 (Lib.hid (G.out.below bw2))).mono ?_
    rintro e w3 ⟨rfl, b3⟩
    go_wp2_with fail
    go_ret
    exact ⟨rfl, bw2.trans (b3.mono bw2.size)⟩
  have e2 : decide ((bn : Int) > 200) = false := decide_eq_false (by omega)
  by_cases q3 : 200 < yn
  · have e3 : decide ((yn : Int) > 200) = true := decide_eq_true (by omega)
    go_wp2_with fail
    go_at_call 11
    refine (awake_any w2 (Lib.hid (G.out.below bw2))).mono ?_
    rintro e w3 ⟨rfl, b3⟩
    go_wp2_with fail
    go_ret
    exact ⟨rfl, bw2.trans (b3.mono bw2.size)⟩
  have e3 : decide ((yn : Int) > 200) = false := decide_eq_false (by omega)
  clear q1 q2 q3
  go_wp2_with fail
  go_at_call 26
  refine (New_any w2).mono ?_
  rintro e w3 ⟨rfl, b3⟩
  have bw3 := bw2.trans (b3.mono bw2.size)
  obtain ⟨W4, hW4⟩ : ∃ W4, (w3.alloc (.cells #[] 73)).alloc (.cells #[.slice none 0 0, .int .i64 (-1), .slice none 0 0] 30) = W4 := ⟨_, rfl⟩
  have S0 := Lib.hid (hW4 ▸ st_new bw3)
  have HW4 := Lib.hid hW4
  obtain ⟨p, hp⟩ : ∃ p, w3.heap.size + 1 = p := ⟨_, rfl⟩
  obtain ⟨g0, hg0⟩ : ∃ g0, w3.heap.size = g0 := ⟨_, rfl⟩
  rw [hp, hg0] at S0
  clear hW4
  go_upto_region 4 with fail
  rw [HW4.out]
  simp only [hg0, hg0 ▸ hp]
  go_wp2_with fail
  clear e1 e2 e3
  go_loopw [10, 45] (fun lv zv wr => ∃ (j : Nat) (f : FV) (PA FA : Option Addr) (n pc m fc : Nat) (r : Int) (g q ln lc : Nat) (es : List It), j ≤ N ∧ zv = .int .i64 j ∧ lv = .slice (some ⟨g, q, none⟩) ln lc ∧ Hid (Sm w wr p f PA FA n pc m fc r g q ln lc es j)) (fun _ zv _ => (N - intOf zv).toNat)
  case atStart => exact ⟨0, newV, none, none, 0, 0, 0, 0, -1, g0, 0, 0, 0, [], by omega, rfl, rfl, S0⟩
  case round =>
    obtain ⟨j, f, PA, FA, n, pc, m, fc, r, g, q, ln, lc, es, hj, rfl, rfl, S⟩ := hrel
    by_cases hlt : j < N
    · have d1 : decide ((j : Int) < (N : Int)) = true := decide_eq_true (by omega)
      -- one step of the script: from the state S at the head of the round (world wr) to the state S behind the stores (world W9)
      obtain ⟨go, oo, x, rfl, hgo, hx, c0, c1, c2⟩ := Or.item (h.out.below S.out.bw) hlt
      have XD := h.out.dat x (List.mem_of_getElem? hx)
      obtain ⟨kd, KA, kc, k, VA, vc, v⟩ := x
      dsimp only at c0 c1 c2 XD
      obtain ⟨kn, hkn⟩ : ∃ kn, k.length = kn := ⟨_, rfl⟩
      obtain ⟨vn, hvn⟩ : ∃ vn, v.length = vn := ⟨_, rfl⟩
      rw [hkn, hvn] at XD
      rw [hkn] at c1
      rw [hvn] at c2
      have KR := Lib.hid (XD.1.below S.out.bw)
      have VR := Lib.hid (XD.2.below S.out.bw)
      have KS : Hid (∀ g, 0 < kn → blk KA = some g → g < w.heap.size) := Lib.hid fun g h0 e => rd_lt XD.1 h0 e
      have VS : Hid (∀ g, 0 < vn → blk VA = some g → g < w.heap.size) := Lib.hid fun g h0 e => rd_lt XD.2 h0 e
      have HX := Lib.hid hx
      clear XD hx hkn hvn
      obtain ⟨po, hpo⟩ : ∃ po, wr.heap.size = po := ⟨_, rfl⟩
      obtain ⟨Wo, hWo⟩ : ∃ Wo, wr.alloc (.cells #[.int .i64 kd, .slice KA kn kc, .slice VA vn vc] 52) = Wo := ⟨_, rfl⟩
      have bo : Below wr.heap.size wr Wo := hWo ▸ bal _ _
      have XO : Hid (Bx Wo po [.int .i64 kd, .slice KA kn kc, .slice VA vn vc]) := hWo ▸ Lib.hid (Bx.put _ hpo #[.int .i64 kd, .slice KA kn kc, .slice VA vn vc] 52)
      have TXO : Hid (Ty Wo po 52) := hWo ▸ hpo ▸ Lib.hid (Ty.new _ _ _)
      have HWo := Lib.hid hWo
      clear hWo
      have S1 := Lib.hid (S.out.nx bo)
      have KR := Lib.hid (KR.out.nx bo)
      have VR := Lib.hid (VR.out.nx bo)
      have zb := S1.out.bx
      have z0 := zb.at_ 0 (by simp)
      have z1 := zb.at_ 1 (by simp)
      have z2 := zb.at_ 2 (by simp)
      simp only [List.getElem?_cons_succ, List.getElem?_cons_zero] at z0 z1 z2
      have o0 := XO.out.at_ 0 (by simp)
      have o1 := XO.out.at_ 1 (by simp)
      have o2 := XO.out.at_ 2 (by simp)
      simp only [List.getElem?_cons_succ, List.getElem?_cons_zero] at o0 o1 o2
      clear zb
      go_upto_region 7 with fail
      rw [HWo.out]
      go_wp2_with fail
      go_at_call 27
      refine (next_cs (j := j) (base := w.heap.size) (k := k) (v := v) S1.out.fv.cs Wo (Lib.hid (G.out.below S1.out.bw)) (Lib.hid S1.out.fl) (Lib.hid S1.out.ls) S1.out.bw.size KR VR (Lib.hid fun g h0 e => .inl (KS.out g h0 e)) (Lib.hid fun g h0 e => .inl (VS.out g h0 e)) (Lib.hid S1.out.ok) (by omega)).mono ?_
      rintro e w8 ⟨f', g', q', ln', lc', rfl, NX, F8, L8, b8⟩
      obtain ⟨PA', n', pc', r', FA', m', fc', V'⟩ := fv_of f'
      rw [V'.out.val]
      obtain ⟨W9, hW9⟩ : ∃ W9, (((w8.setCell ⟨p, 0, none⟩ (.slice PA' n' pc')).setCell ⟨p, 1, none⟩ (.int .i64 r')).setCell ⟨p, 2, none⟩ (.slice FA' m' fc')) = W9 := ⟨_, rfl⟩
      have S9 := Lib.hid (hW9 ▸ st_put S1.out b8 NX.out F8.out L8.out V'.out)
      have pb := S1.out.bx.nx b8
      have p0 := pb.at_ 0 (by simp)
      have p1 := pb.at_ 1 (by simp)
      have p2 := pb.at_ 2 (by simp)
      simp only [List.getElem?_cons_succ, List.getElem?_cons_zero] at p0 p1 p2
      have t0 := pb.fz 0 (by simp)
      have t1 := pb.fz 1 (by simp)
      have t2 := pb.fz 2 (by simp)
      have HW9 := Lib.hid hW9
      clear z0 z1 z2 o0 o1 o2 pb hW9
      go_upto_region 9 with fail
      rw [HW9.out]
      clear p0 p1 p2 t0 t1 t2
      have z0 := S9.out.bx.at_ 0 (by simp)
      have z1 := S9.out.bx.at_ 1 (by simp)
      have z2 := S9.out.bx.at_ 2 (by simp)
      simp only [List.getElem?_cons_succ, List.getElem?_cons_zero] at z0 z1 z2
      go_wp2_with fail
      go_at_call 16
      refine (Valid_cs S9.out.fv.cs W9 (Lib.hid (G.out.below S9.out.bw)) (Lib.hid S9.out.fl.fl)).mono ?_
      rintro e wa ⟨ok, rfl, hok, ba⟩
      obtain rfl : ok = true := hok.2 S9.out.ok.vld
      have S10 := Lib.hid (S9.out.nx ba)
      clear z0 z1 z2 hok
      have z0 := S10.out.bx.at_ 0 (by simp)
      have z1 := S10.out.bx.at_ 1 (by simp)
      have z2 := S10.out.bx.at_ 2 (by simp)
      simp only [List.getElem?_cons_succ, List.getElem?_cons_zero] at z0 z1 z2
      go_wp2_with fail
      go_at_call 23
      refine (rShape_ok S10.out.fv.cs wa (Lib.hid S10.out.fl.fl) (Lib.hid S10.out.ok.shp)).mono ?_
      rintro e wb ⟨rfl, bb⟩
      have S11 := Lib.hid (S10.out.nx bb)
      clear z0 z1 z2
      go_wp2_with fail
      go_roundw
      case rel => exact ⟨j + 1, f', PA', FA', n', pc', m', fc', _, g', q', ln', lc', _, by omega, by first | trivial | go_num, rfl, S11⟩
      case measure => simp [intOf]; omega
    · obtain rfl : j = N := by omega
      have d1 : decide ((j : Int) < (j : Int)) = false := decide_eq_false (by omega)
      have z0 := S.out.bx.at_ 0 (by simp)
      have z1 := S.out.bx.at_ 1 (by simp)
      have z2 := S.out.bx.at_ 2 (by simp)
      simp only [List.getElem?_cons_succ, List.getElem?_cons_zero] at z0 z1 z2
      have hes := S.out.ok.n
      have hln := S.out.ls.lr.len
      have Gw := Lib.hid (G.out.below S.out.bw)
      have AR := Lib.hid (ha.out.nx S.out.bw)
      have BR := Lib.hid (hb.out.nx S.out.bw)
      have E1 : Hid (∀ U, Below wr.heap.size wr U → Calls Tryd.prog 39 #[.agg #[.slice PA n pc, .int .i64 r, .slice FA m fc], .slice none 0 0, .slice none 0 0, .slice (some ⟨g, q, none⟩) ln lc] U fun e w' => e = .returned (.bool true) ∧ Below U.heap.size U w') := Lib.hid fun U hU =>
        entries_any (ka := []) (kb := []) S.out.fv.cs U (Lib.hid (Gw.out.below hU)) (Lib.hid (S.out.fl.fl.below hU)) (Lib.hid (Rd.nil_ _ _)) (Lib.hid (Rd.nil_ _ _)) (Lib.hid (S.out.ls.lr.nx hU)) (Lib.hid S.out.ok.ok) (by omega) (Lib.hid (by rw [rng_nil]))
      have RG : Hid (∀ U, Below wr.heap.size wr U → Calls Tryd.prog 40 #[.slice (some ⟨g, q, none⟩) ln lc, .slice FA' an ac, .slice TA bn bc] U fun e w' => ∃ (A' : Option Addr) (n' c' : Nat), e = .returned (.slice A' n' c') ∧ Hid (Lr w' A' n' c' (rng es ka kb)) ∧ Below U.heap.size U w') := Lib.hid fun U hU =>
        rRange_any U (by omega) (Lib.hid (S.out.ls.lr.nx hU)) (Lib.hid (AR.out.nx hU)) (Lib.hid (BR.out.nx hU))
      have E2 : Hid (∀ U A' n' c', Below wr.heap.size wr U → Hid (Lr U A' n' c' (rng es ka kb)) → Calls Tryd.prog 39 #[.agg #[.slice PA n pc, .int .i64 r, .slice FA m fc], .slice FA' an ac, .slice TA bn bc, .slice A' n' c'] U fun e w' => e = .returned (.bool true) ∧ Below U.heap.size U w') := Lib.hid fun U A' n' c' hU hL =>
        entries_any S.out.fv.cs U (Lib.hid (Gw.out.below hU)) (Lib.hid (S.out.fl.fl.below hU)) (Lib.hid (AR.out.nx hU)) (Lib.hid (BR.out.nx hU)) hL (Lib.hid S.out.ok.ok) (by omega) (Lib.hid rfl)
      have ZG : Hid (∀ U, Below wr.heap.size wr U → U.cell? ⟨p, 0, none⟩ = some (.slice PA n pc) ∧ U.cell? ⟨p, 1, none⟩ = some (.int .i64 r) ∧ U.cell? ⟨p, 2, none⟩ = some (.slice FA m fc)) := Lib.hid fun U hU => by
        have h := S.out.bx.nx hU
        have a0 := h.at_ 0 (by simp)
        have a1 := h.at_ 1 (by simp)
        have a2 := h.at_ 2 (by simp)
        exact ⟨by simpa using a0, by simpa using a1, by simpa using a2⟩
      have vd : Below wr.heap.size wr wr.drew := (Below.refl _ _).drew
      clear hes hln
      go_upto_region 12 with fail
      go_cut [84] from 70 (fun bv wx => bv = .bool false ∧ Below wr.heap.size wr wx)
      case first =>
        go_region_with
          (first
            | (go_at_call_of 39 (Value.slice none 0 0); refine (E1.out _ vd).mono ?_; rintro e wa ⟨rfl, b1⟩; have v1 := vd.trans (b1.mono vd.size); have k1 := ZG.out _ v1; have x0 := k1.1; have x1 := k1.2.1; have x2 := k1.2.2)
            | (go_at_call 40; refine (RG.out _ v1).mono ?_; rintro e wb ⟨A', n', c', rfl, LR, b2⟩; have v2 := v1.trans (b2.mono v1.size); have k2 := ZG.out _ v2; have y0 := k2.1; have y1 := k2.2.1; have y2 := k2.2.2)
            | (go_at_call 39; refine (E2.out _ A' n' c' v2 LR).mono ?_; rintro e wc ⟨rfl, b3⟩; have v3 := v2.trans (b3.mono v2.size)))
        all_goals (go_wp2_with fail; go_meet; exact ⟨rfl, v3⟩)
      case rest =>
      obtain ⟨rfl, v3⟩ := hcut
      have S := Lib.hid (S.out.nx v3)
      have LL := Lib.hid S.out.ls.lr.len
      clear z0 z1 z2 vd v3 E1 E2 RG ZG
      have z0 := S.out.bx.at_ 0 (by simp)
      have z1 := S.out.bx.at_ 1 (by simp)
      have z2 := S.out.bx.at_ 2 (by simp)
      simp only [List.getElem?_cons_succ, List.getElem?_cons_zero] at z0 z1 z2
      go_wp2_with fail
      go_at_call 18
      refine (Get_cs S.out.fv.cs _ (Lib.hid (G.out.below S.out.bw)) (Lib.hid S.out.fl.fl) (Lib.hid (hy.out.below S.out.bw))).mono ?_
      rintro e wd ⟨dv, er, DA, dc, hg, rfl, DR, bd⟩
      have GO := Lib.hid hg
      have S := Lib.hid (S.out.nx bd)
      obtain ⟨dn, hdn⟩ : ∃ dn, dv.length = dn := ⟨_, rfl⟩
      rw [hdn] at DR
      rw [hdn]
      have HDN := Lib.hid hdn
      clear hg z0 z1 z2 hdn
      go_wp2_with fail
      go_at_call 24
      refine (rLengths_any _).mono ?_
      rintro e w' ⟨rfl, rfl⟩
      obtain ⟨ps, hfk⟩ := S.out.ok.ok
      by_cases q1 : lenB yn 0 = true
      · have hlk := YN.out.1 q1
        rw [q1]
        have SR : Hid (Srt es) := Lib.hid S.out.ok.srt
        rcases hfd : fd es key with _ | _
        · rcases get_law hfk GO.out with ⟨h1, _⟩ | ⟨_, h1, h2, rfl⟩ | ⟨_, h1, _⟩
          · exact absurd hlk h1
          · obtain rfl : dn = 0 := by rw [← HDN.out, h2]; rfl
            have FI := rFind_any wd SR (Lib.hid S.out.ls.lr) (Lib.hid (hy.out.below S.out.bw))
            rw [hfd] at FI
            have FI := Lib.hid FI
            clear hlk q1 h1 h2 hfd hfk
            go_wp2_with fail
            go_at_call 41
            refine FI.out.mono ?_
            rintro e we ⟨rfl, be⟩
            have bwe := S.out.bw.trans (be.mono S.out.bw.size)
            go_wp2_with fail
            go_ret
            exact ⟨rfl, bwe⟩
          · rw [(lkp_upd SR.out).2 hfd] at h1; cases h1
        · rcases get_law hfk GO.out with ⟨h1, _⟩ | ⟨_, h1, _⟩ | ⟨_, h1, rfl⟩
          · exact absurd hlk h1
          · rw [(lkp_upd SR.out).1 h1] at hfd; cases hfd
          · obtain ⟨y, hy1, hy2⟩ := fd_at SR.out hfd
            rw [h1] at hy2
            injection hy2 with hy2
            have FI := rFind_any wd SR (Lib.hid S.out.ls.lr) (Lib.hid (hy.out.below S.out.bw))
            rw [hfd] at FI
            obtain ⟨I, hI⟩ : ∃ I, ix es key = I := ⟨_, rfl⟩
            rw [hI] at FI hy1
            have FI := Lib.hid FI
            have hIlt : I < ln := by have := (List.getElem?_eq_some_iff.1 hy1).1; have := LL.out; omega
            have l1 : (I : Int) < (ln : Int) := by omega
            have l0 : (0 : Int) ≤ (I : Int) := by omega
            have HY1 := Lib.hid hy1
            have HY2 := Lib.hid hy2
            clear hlk q1 h1 hfd hfk hy1 hy2 hI
            go_wp2_with fail
            go_at_call 41
            refine FI.out.mono ?_
            rintro e we ⟨rfl, be⟩
            have S := Lib.hid (S.out.nx be)
            obtain ⟨LL2, hE, hkv⟩ := S.out.ls.lr.ex
            obtain ⟨g2, o2, x, hg2, hgl, hx, a0, a1⟩ := Er.item hE hIlt
            injection hg2 with hg2; injection hg2 with e1 e2; subst e1 e2
            obtain ⟨y', hy', _, hv'⟩ := kv_at hkv hx
            rw [HY1.out] at hy'; injection hy' with hy'; subst hy'
            have EQ : Hid (Calls Tryd.prog 29 #[.slice DA dn dc, .slice x.B x.v.length x.d] we fun e w' => e = .returned (.bool true) ∧ Below we.heap.size we w') := Lib.hid (by
              have := sEqual_any we (Lib.hid (DR.out.nx be)) (Lib.hid ((hE.dat x (List.mem_of_getElem? hx)).2))
              rwa [eqB_iff.2 (HY2.out.trans hv')] at this)
            clear hE hkv hx hv'
            go_wp2_with fail
            go_at_call 29
            refine EQ.out.mono ?_
            rintro e wf ⟨rfl, bf⟩
            have bwf := S.out.bw.trans (bf.mono S.out.bw.size)
            go_wp2_with fail
            go_ret
            exact ⟨rfl, bwf⟩
      · have hlk : ¬ lenK key := fun h => q1 (YN.out.2 h)
        rw [show lenB yn 0 = false by simpa using q1]
        rcases get_law hfk GO.out with ⟨_, h2, rfl⟩ | ⟨h1, _⟩ | ⟨h1, _⟩
        · obtain rfl : dn = 0 := by rw [← HDN.out, h2]; rfl
          clear hlk q1 h2 hfk
          have bwd := S.out.bw
          go_wp2_with fail
          go_ret
          exact ⟨rfl, bwd⟩
        · exact absurd h1 hlk
        · exact absurd h1 hlk
end Go.Proofs.YtphiblmkgbkdmaaDoor.Pg
