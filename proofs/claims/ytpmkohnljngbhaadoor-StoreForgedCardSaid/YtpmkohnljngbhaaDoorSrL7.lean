/- The law: StoreForged. -/
import Derived.Test.YtpmkohnljngbhaaDoorSrL4
import Derived.Test.YtpmkohnljngbhaaDoorSrM4
import Derived.Deep.RegionHeldLaw
namespace Go.Proofs.YtpmkohnljngbhaaDoor.Sr
set_option linter.unusedVariables false
set_option linter.unusedSimpArgs false
set_option maxRecDepth 1000000
open Go.RowKit Wl Pg
theorem Xr.upto {w : World} {A : Option Addr} {n c : Nat} {X : List XV} (h : Xr w A n c X) {q : Nat} (hq : q ≤ n) : Xr w A q c (X.take q) := by
  refine ⟨⟨by rw [xvs_len, List.length_take]; have := h.len; omega, Nat.le_trans hq h.row.nc, h.row.nil, h.row.c63, fun h0 => ?_⟩, fun x hx => h.dat x (List.mem_of_mem_take hx)⟩
  obtain ⟨g, o, e, hg, hc⟩ := h.row.at_ (by omega)
  refine ⟨g, o, e, hg, fun j hj => ?_⟩
  rw [hc j (by omega)]
  unfold xvs
  rw [List.map_take, List.getElem?_take_of_lt (by omega)]
set_option maxHeartbeats 25600000 in
theorem StoreForged_walk (A : Option Addr) (n c : Nat) (X : List XV) (at_ bY : Int) (w : World) (G : Hid (Gl w)) (HX : Hid (Xr w A n c X)) (at0 : 0 ≤ at_) (at1 : at_ ≤ 65535) (y0 : 0 ≤ bY) (y1 : bY ≤ 255) :
    Calls Tryd.prog 6 #[.slice A n c, .int .u16 at_, .int .u8 bY] w fun e w' => e = .returned (.bool true) ∧ Below w.heap.size w w' := by
  have NX := Lib.hid HX.out.len
  have AW := Lib.hid (awake_any w G)
  obtain ⟨u, rfl⟩ : ∃ u : UInt8, bY = (u.toNat : Int) := ⟨UInt8.ofNat bY.toNat, by simp; omega⟩
  clear y0 y1
  go_enter Tryd.func6, Tryd.ntmps6
  go_wp2_with fail
  go_at_call 7
  refine AW.out.mono ?_
  rintro e w1 ⟨rfl, bw⟩
  have HX1 := Lib.hid (HX.out.nx bw)
  have SL := small_any w1 HX1
  cases hs : smL X with
  | false =>
    rw [hs] at SL
    have SL := Lib.hid SL
    clear hs
    go_wp2_with fail
    go_at_call 8
    refine SL.out.mono ?_
    rintro e w2 ⟨rfl, b2⟩
    have bF := bw.trans (b2.mono bw.size)
    go_wp2_with fail
    go_ret
    exact ⟨rfl, bF⟩
  | true =>
    rw [hs] at SL
    have SL := Lib.hid SL
    have HS := smL_true hs
    have n6 : n ≤ 6 := by rw [NX.out]; exact HS.1
    have SM := Lib.hid HS.2
    clear hs HS
    by_cases hu0 : u = 0
    · subst hu0
      go_wp2_with fail
      go_at_call 8
      refine SL.out.mono ?_
      rintro e w2 ⟨rfl, b2⟩
      have bF := bw.trans (b2.mono bw.size)
      go_wp2_with fail
      go_ret
      exact ⟨rfl, bF⟩
    have hut : ((u.toNat : Int) == 0) = false := by
      have : u.toNat ≠ 0 := fun e => hu0 (UInt8.toNat_inj.1 e)
      simpa using this
    have HU := Lib.hid hu0
    clear hu0
    go_wp2_with fail
    go_at_call 8
    refine SL.out.mono ?_
    rintro e w2 ⟨rfl, b2⟩
    replace bw := bw.trans (b2.mono bw.size)
    replace HX1 := Lib.hid (HX1.out.nx b2)
    have MD := Lib.hid (made_any w2 (Lib.hid (G.out.nx bw)) HX1 (by omega) SM)
    go_wp2_with fail
    go_at_call 9
    refine MD.out.mono ?_
    rintro e w3 ⟨LA, ln, lc, rfl, S3, b3⟩
    have eN : Hid (((effs (fun _ => none) (X.map XV.t)).length : Int) = n) := Lib.hid (by rw [effs_len, List.length_map]; have := NX.out; omega)
    rw [eN.out] at S3 ⊢
    obtain ⟨Ts, hTs⟩ : ∃ Ts, effs (fun _ => none) (X.map XV.t) = Ts := ⟨_, rfl⟩
    rw [hTs] at S3
    have HTS := Lib.hid hTs
    clear hTs MD
    replace bw := bw.trans (b3.mono bw.size)
    replace HX1 := Lib.hid (HX1.out.nx b3)
    obtain ⟨q7, hq7⟩ : ∃ q7, w3.heap.size = q7 := ⟨_, rfl⟩
    obtain ⟨W4, hW4⟩ : ∃ W4, w3.alloc (.cells #[.slice none 0 0, .int .i64 (-1), .slice none 0 0, .slice LA ln lc, .int .i64 (n : Int)] 31) = W4 := ⟨_, rfl⟩
    have b4 : Below w3.heap.size w3 W4 := hW4 ▸ bal _ _
    have Z : Hid (Bx W4 q7 [.slice none 0 0, .int .i64 (-1), .slice none 0 0, .slice LA ln lc, .int .i64 (n : Int)]) := hW4 ▸ Lib.hid (Bx.put _ hq7 #[.slice none 0 0, .int .i64 (-1), .slice none 0 0, .slice LA ln lc, .int .i64 (n : Int)] 31)
    have TZ : Hid (Ty W4 q7 31) := hW4 ▸ hq7 ▸ Lib.hid (Ty.new _ _ _)
    have HW4 := Lib.hid hW4
    clear hW4
    replace bw := bw.trans (b4.mono bw.size)
    replace HX1 := Lib.hid (HX1.out.nx b4)
    replace S3 := Lib.hid (S3.out.nx b4)
    have z0 := Z.out.at_ 0 (by simp)
    have z1 := Z.out.at_ 1 (by simp)
    have z2 := Z.out.at_ 2 (by simp)
    have z3 := Z.out.at_ 3 (by simp)
    have z4 := Z.out.at_ 4 (by simp)
    simp only [List.getElem?_cons_succ, List.getElem?_cons_zero] at z0 z1 z2 z3 z4
    have LL := Lib.hid S3.out.st.ll
    have L2 := S3.out.st.l2
    go_upto_region 6 with fail
    rw [HW4.out]
    rcases Nat.eq_zero_or_pos ln with h0 | h0
    · subst h0
      go_wp2_with fail
      go_ret
      exact ⟨rfl, bw⟩
    have e0 : ((ln : Int) == 0) = false := by simp; omega
    obtain ⟨k, hk, hkl⟩ : ∃ k : Nat, at_.tmod (ln : Int) = k ∧ k < ln := ⟨(at_.tmod ln).toNat, by rw [Int.tmod_eq_emod_of_nonneg at0]; have := Int.emod_nonneg at_ (show (ln : Int) ≠ 0 by omega); omega, by rw [Int.tmod_eq_emod_of_nonneg at0]; have := Int.emod_lt_of_pos at_ (show (0 : Int) < ln by omega); omega⟩
    have CL := Lib.hid (Wl.clone_any W4 (Lib.hid S3.out.st.lg) (by omega))
    go_wp2_with fail
    go_at_call 25
    refine CL.out.mono ?_
    rintro e w5 ⟨FA, fcap, rfl, own5, b5⟩
    obtain ⟨g, rfl, fnc, f63⟩ := own_pos own5 h0
    obtain ⟨hg1, hg2⟩ := own_blk_le (g := g) own5 rfl
    obtain ⟨yb, hyb⟩ : ∃ yb, (logL 1 Ts)[k]? = some yb := ⟨(logL 1 Ts)[k]'(by have := LL.out; omega), List.getElem?_eq_getElem _⟩
    have cy : w5.cell? ⟨g, k, none⟩ = some (.int .u8 (yb.toNat : Int)) := by
      rw [own5.cellAt k (by omega), bv_get, hyb]; rfl
    have fy : w5.frozen? ⟨g, k, none⟩ = false := own5.frozenAt k
    obtain ⟨xb, hxb⟩ : ∃ xb, yb ^^^ u = xb := ⟨_, rfl⟩
    have hx := xor_byte yb u
    rw [hxb] at hx
    have hxn : xb ≠ yb := by rw [← hxb]; exact xor_ne HU.out
    have nTs : Ts.length ≤ 20 := S3.out.n
    have FLg := forged_log (fun cs hc => (S3.out.ok cs hc).1) (by omega) (by omega) hyb hxn
    obtain ⟨gk, q, q1, q2, q3, q4, q5⟩ := FLg
    have OW6 := Lib.hid (own_store own5 k xb)
    have HG1 := Lib.hid hg1
    have Z5 := Lib.hid (Z.out.nx b5)
    have bw5 := bw.trans (b5.mono bw.size)
    have b45 : Below W4.heap.size W4 (w5.setCell ⟨g, k, none⟩ (.int .u8 (xb.toNat : Int))) := b5.setCell (p := ⟨g, k, none⟩) hg1 _
    obtain ⟨F, hF⟩ : ∃ F, (logL 1 Ts).set k xb = F := ⟨_, rfl⟩
    have FLen : Hid (ln = F.length) := Lib.hid (by rw [← hF, List.length_set]; exact LL.out)
    rw [hF] at OW6 gk q2 q3 q4 q5
    have hkl2 : ((k : Int) < (ln : Int)) := by omega
    have kk0 : (0 : Int) ≤ (k : Int) := by omega
    have ZQ : q7 ≠ g := by have := Z.out.lt; omega
    clear hxb hyb own5 hxn z0 z1 z2 z3 z4 hF
    have z0 := Z5.out.at_ 0 (by simp)
    have z1 := Z5.out.at_ 1 (by simp)
    have z2 := Z5.out.at_ 2 (by simp)
    have z3 := Z5.out.at_ 3 (by simp)
    have z4 := Z5.out.at_ 4 (by simp)
    simp only [List.getElem?_cons_succ, List.getElem?_cons_zero] at z0 z1 z2 z3 z4
    go_wp2_with fail
    obtain ⟨W6, hW6⟩ : ∃ u, w5.setCell ⟨g, k, none⟩ (.int .u8 (xb.toNat : Int)) = u := ⟨_, rfl⟩
    rw [hW6] at OW6 b45 ⊢
    have Z6 := Lib.hid (Z.out.nx b45)
    clear hW6 cy fy Z5 z0 z1 z2 z3 z4
    have RD := Lib.hid (Read_any W6 FLen (Lib.hid (Rd.of_own OW6.out)) (by omega))
    go_at_call 26
    refine RD.out.mono ?_
    rintro e w8 ⟨RA, en, rc, l, rfl, hlr, rs, b8⟩
    have RS := Lib.hid rs.rr
    have HLR := Lib.hid hlr
    have hnc := RS.out.row.nc
    have hc63 := RS.out.row.c63
    have EN : Hid (en = l.length) := Lib.hid rs.len
    have en1 : en ≤ 2000000 := by
      have e := glen_le F
      have : ∀ q : List Rec, q.length * 21 ≤ (encs q).length := fun q => by
        induction q with
        | nil => simp
        | cons a q ih => rw [encs_cons, List.length_append, Wl.enc_len, List.length_cons]; omega
      have := this (l.map RV.r)
      rw [List.length_map, ← rs.len] at this
      unfold glen at e
      rw [← hlr, ← FLen.out] at e
      omega
    have GB : Hid (trx F (n : Int) = none) := Lib.hid (trx_bad (by rw [← FLen.out]; omega))
    obtain ⟨gn, hgn⟩ : ∃ gn, glen F = gn := ⟨_, rfl⟩
    rw [hgn] at gk ⊢
    have g1 : decide ((gn : Int) > (k : Int)) = false := decide_eq_false (by omega)
    have g2 : ((gn : Int) == (ln : Int)) = false := by simp; omega
    have b48 := b45.trans (b8.mono b45.size)
    have Z8 := Lib.hid (Z.out.nx b48)
    have OW8 := Lib.hid (own_below OW6.out b8)
    clear hgn hlr rs RD
    have z0 := Z8.out.at_ 0 (by simp)
    have z1 := Z8.out.at_ 1 (by simp)
    have z2 := Z8.out.at_ 2 (by simp)
    have z3 := Z8.out.at_ 3 (by simp)
    have z4 := Z8.out.at_ 4 (by simp)
    simp only [List.getElem?_cons_succ, List.getElem?_cons_zero] at z0 z1 z2 z3 z4
    obtain ⟨q13, hq13⟩ : ∃ q13, w8.heap.size = q13 := ⟨_, rfl⟩
    obtain ⟨W9, hW9⟩ : ∃ W9, w8.alloc (.cells #[.slice none 0 0, .int .i64 (-1), .slice none 0 0, .slice (some ⟨g, 0, none⟩) ln fcap, .int .i64 (n : Int)] 31) = W9 := ⟨_, rfl⟩
    have b9 : Below w8.heap.size w8 W9 := hW9 ▸ bal _ _
    have Y : Hid (Bx W9 q13 [.slice none 0 0, .int .i64 (-1), .slice none 0 0, .slice (some ⟨g, 0, none⟩) ln fcap, .int .i64 (n : Int)]) := hW9 ▸ Lib.hid (Bx.put _ hq13 #[.slice none 0 0, .int .i64 (-1), .slice none 0 0, .slice (some ⟨g, 0, none⟩) ln fcap, .int .i64 (n : Int)] 31)
    have TY : Hid (Ty W9 q13 31) := hW9 ▸ hq13 ▸ Lib.hid (Ty.new _ _ _)
    have HW9 := Lib.hid hW9
    clear hW9
    have b49 := b48.trans (b9.mono b48.size)
    have bw9 := bw.trans (b49.mono bw.size)
    have OW9 := Lib.hid (own_below OW8.out b9)
    have RS9 := Lib.hid (RS.out.nx b9)
    go_upto_region 15 with fail
    rw [HW9.out]
    clear z0 z1 z2 z3 z4
    have y0 := Y.out.at_ 0 (by simp)
    have y1 := Y.out.at_ 1 (by simp)
    have y2 := Y.out.at_ 2 (by simp)
    have y3 := Y.out.at_ 3 (by simp)
    have y4 := Y.out.at_ 4 (by simp)
    simp only [List.getElem?_cons_succ, List.getElem?_cons_zero] at y0 y1 y2 y3 y4
    have VA := Lib.hid (sValid_any (last := (n : Int)) (f := nil0) (log := F) (PA := none) (FA := none) (np := 0) (pc := 0) (m := 0) (fc := 0) (r0 := -1) W9 (Lib.hid (G.out.nx bw9)) (Lib.hid ⟨Lib.hid rfl, fl0 W9, FLen.out, Rd.of_own OW9.out, by omega⟩))
    go_wp2_with fail
    go_at_call 10
    refine VA.out.mono ?_
    rintro e w10 ⟨bb, rfl, hb, b10⟩
    obtain rfl : bb = false := by
      cases bb with
      | false => rfl
      | true =>
        obtain ⟨L, hL⟩ := (hb.1 rfl).2.2.2
        rw [GB.out] at hL; cases hL
    have b410 := b49.trans (b10.mono b49.size)
    have OW10 := Lib.hid (own_below OW9.out b10)
    have RS10 := Lib.hid (RS9.out.nx b10)
    clear hb VA y0 y1 y2 y3 y4
    have RP := Repair_any w10 FLen (Lib.hid (Rd.of_own OW10.out)) (by omega)
    rw [q2] at RP
    have RP := Lib.hid RP
    obtain ⟨rn, hrn⟩ : ∃ rn, rend F = rn := ⟨_, rfl⟩
    rw [hrn] at RP q3 q5
    have Q3 := Lib.hid q3
    clear q3
    go_wp2_with fail
    go_at_call 27
    refine RP.out.mono ?_
    rintro e w11 ⟨PA, pcap, rfl, own11, b11⟩
    have b411 := b410.trans (b11.mono b410.size)
    have bw11 := bw.trans (b411.mono bw.size)
    have LE := Lib.hid (Rd.of_own own11)
    have RS11 := Lib.hid (RS10.out.nx b11)
    have CQ : Hid (commits (l.map RV.r) = q) := Lib.hid (by rw [HLR.out]; exact q4)
    clear own11 RP hrn q4
    go_wp2_with fail
    go_loopw [15, 85] (fun cv iv wr => ∃ j c : Nat, j ≤ en ∧ c ≤ j ∧ iv = .int .i64 j ∧ cv = .int .i64 c ∧ Hid (c = commits ((l.take j).map RV.r)) ∧ Below w11.heap.size w11 wr) (fun _ iv _ => (en - intOf iv).toNat)
    case atStart => exact ⟨0, 0, by omega, by omega, rfl, rfl, Lib.hid rfl, Below.refl _ _⟩
    case round =>
      obtain ⟨j, k2, hj, hkj, rfl, rfl, hk2, b12⟩ := hrel
      by_cases hlt : j < en
      · obtain ⟨g', o', x, rfl, hg', hx', hxm, a0, a1, a2⟩ := (RS11.out.below b12).rec_ hlt
        have HX2 := Lib.hid (tk hx')
        have d1 : decide ((j : Int) < (en : Int)) = true := decide_eq_true (by omega)
        obtain ⟨nx, hnx⟩ : ∃ nx, x.d.length = nx := ⟨_, rfl⟩
        rw [hnx] at a2
        clear hx' hnx
        by_cases hx3 : x.k = 3
        · have HK2 : Hid (k2 + 1 = commits ((l.take (j + 1)).map RV.r)) := Lib.hid (by rw [HX2.out, commits_snoc, if_pos (show x.r.k = 3 from hx3), ← hk2.out])
          rw [hx3] at a0
          go_wp2_with fail
          go_roundw
          case rel => exact ⟨j + 1, k2 + 1, by omega, by omega, by first | trivial | go_num, by first | trivial | go_num, HK2, bel_alloc b12 (Nat.le_refl _) _⟩
          case measure => simp [intOf]; omega
        · have HK2 : Hid (k2 = commits ((l.take (j + 1)).map RV.r)) := Lib.hid (by rw [HX2.out, commits_snoc, if_neg (show ¬ x.r.k = 3 from hx3), ← hk2.out])
          have e3 : decide (x.k = 3) = false := decide_eq_false hx3
          go_wp2_with fail
          go_roundw
          case rel => exact ⟨j + 1, k2, by omega, by omega, by first | trivial | go_num, by first | trivial | go_num, HK2, bel_alloc b12 (Nat.le_refl _) _⟩
          case measure => simp [intOf]; omega
      · obtain rfl : en = j := by omega
        have d1 : decide ((en : Int) < (en : Int)) = false := decide_eq_false (by omega)
        obtain rfl : k2 = q := by have h := hk2.out; rw [List.take_of_length_le (by have := EN.out; omega), CQ.out] at h; exact h
        have b412 := b411.trans (b12.mono b411.size)
        have bw12 := bw.trans (b412.mono bw.size)
        have Z12 := Lib.hid (Z.out.nx b412)
        have LE12 := Lib.hid (LE.out.nx b12)
        have z0 := Z12.out.at_ 0 (by simp)
        have z1 := Z12.out.at_ 1 (by simp)
        have z2 := Z12.out.at_ 2 (by simp)
        have z3 := Z12.out.at_ 3 (by simp)
        have z4 := Z12.out.at_ 4 (by simp)
        simp only [List.getElem?_cons_succ, List.getElem?_cons_zero] at z0 z1 z2 z3 z4
        have rle : rn ≤ ln := by omega
        have CR := Lib.hid (Stt.crash (Lib.hid (S3.out.nx b412)) (Lib.hid (G.out.nx bw12)) (rn : Int) (by omega) (by omega))
        have CS := Lib.hid (cutN_self rle)
        go_wp2_with fail
        go_at_call 28
        refine CR.out.mono ?_
        rintro e w14 ⟨LA7, ln7, lc7, kq, rfl, kp, S14, b14⟩
        obtain rfl : kq = k2 := by
          obtain ⟨p1, p2, p3⟩ := kp.out
          rw [CS.out, Q3.out] at p2 p3
          exact kept_eq p1 q1 p2 p3
        have e14 : (1 : Int) - 1 + (kq : Int) = kq := by omega
        rw [e14] at S14 ⊢
        have hl7 : ln7 = rn := by rw [Q3.out]; exact S14.out.st.ll
        subst hl7
        clear CR kp z0 z1 z2 z3 z4
        have b414 := b412.trans (b14.mono b412.size)
        obtain ⟨q18, hq18⟩ : ∃ q18, w14.heap.size = q18 := ⟨_, rfl⟩
        obtain ⟨W15, hW15⟩ : ∃ W15, w14.alloc (.cells #[.slice none 0 0, .int .i64 (-1), .slice none 0 0, .slice LA7 ln7 lc7, .int .i64 (kq : Int)] 31) = W15 := ⟨_, rfl⟩
        have b15 : Below w14.heap.size w14 W15 := hW15 ▸ bal _ _
        have T : Hid (Bx W15 q18 [.slice none 0 0, .int .i64 (-1), .slice none 0 0, .slice LA7 ln7 lc7, .int .i64 (kq : Int)]) := hW15 ▸ Lib.hid (Bx.put _ hq18 #[.slice none 0 0, .int .i64 (-1), .slice none 0 0, .slice LA7 ln7 lc7, .int .i64 (kq : Int)] 31)
        have TT : Hid (Ty W15 q18 31) := hW15 ▸ hq18 ▸ Lib.hid (Ty.new _ _ _)
        have HW15 := Lib.hid hW15
        clear hW15
        have b415 := b414.trans (b15.mono b414.size)
        have bw15 := bw.trans (b415.mono bw.size)
        have S15 := Lib.hid (S14.out.nx b15)
        have LE15 := Lib.hid (LE12.out.nx (b14.trans (b15.mono b14.size)))
        have HX15 := Lib.hid (HX1.out.nx b415)
        have G15 := Lib.hid (G.out.nx bw15)
        have kqn : kq ≤ n := by have : Ts.length = n := by rw [← HTS.out, effs_len, List.length_map]; have := NX.out; omega
                                omega
        have t0 := T.out.at_ 0 (by simp)
        have t1 := T.out.at_ 1 (by simp)
        have t2 := T.out.at_ 2 (by simp)
        have t3 := T.out.at_ 3 (by simp)
        have t4 := T.out.at_ 4 (by simp)
        simp only [List.getElem?_cons_succ, List.getElem?_cons_zero] at t0 t1 t2 t3 t4
        have hkl3 : decide ((ln7 : Int) ≤ (k : Int)) = true := decide_eq_true (by omega)
        have VD : Hid (Below W15.heap.size W15 W15.drew) := Lib.hid (Below.refl _ _).drew
        have LG15 := Lib.hid S15.out.st.lg
        have EQ : Hid (∀ U, Below W15.heap.size W15 U → Calls Tryd.prog 16 #[.slice LA7 ln7 lc7, .slice PA ln7 pcap] U (fun e w' => e = .returned (.bool true) ∧ Below W15.heap.size W15 w')) := Lib.hid fun U hU => by
          have h := Pg.Equal_any U (Lib.hid (LG15.out.nx hU)) (Lib.hid (LE15.out.nx hU))
          rw [Pg.eqB_self] at h
          exact h.mono fun e w' ⟨h1, h2⟩ => ⟨h1, h2 ▸ hU⟩
        have HXt := Lib.hid (HX15.out.upto kqn)
        have SMt : Hid (∀ x ∈ X.take kq, x.l.length ≤ 12 ∧ ∀ y ∈ x.l, y.ch.ok = true) := Lib.hid fun x hx => SM.out x (List.mem_of_mem_take hx)
        have ML : Hid (∀ U, Below W15.heap.size W15 U → Calls Tryd.prog 12 #[.slice A kq c] U (fun e w' => ∃ A' n' c' M, e = .returned (.slice A' n' c') ∧ Hid (M.map CV.ch = mdl ((X.take kq).map XV.t).flatten) ∧ Hid (Cr w' A' n' c' M) ∧ Below W15.heap.size W15 w')) := Lib.hid fun U hU =>
          (model_any U (Lib.hid (HXt.out.nx hU)) (by omega) SMt).mono fun e w' ⟨A', n', c', M, h1, h2, h3, h4, h5⟩ => ⟨A', n', c', M, h1, h2, h3, hU.trans (h5.mono hU.size)⟩
        have TE : Hid (effs (fun _ => none) ((X.take kq).map XV.t) = Ts.take kq) := Lib.hid (by rw [List.map_take, ← effs_takeN, HTS.out])
        have RS : Hid (∀ U A' n' c' M, Below W15.heap.size W15 U → Hid (M.map CV.ch = mdl ((X.take kq).map XV.t).flatten) → Hid (Cr U A' n' c' M) → Calls Tryd.prog 11 #[.agg #[.slice none 0 0, .int .i64 (-1), .slice none 0 0, .slice LA7 ln7 lc7, .int .i64 (kq : Int)], .slice A' n' c', .slice A n c] U (fun e w' => e = .returned (.bool true) ∧ Below W15.heap.size W15 w')) := Lib.hid fun U A' n' c' M hU hM hC =>
          (reads_any U (Lib.hid (G15.out.nx hU)) (Lib.hid (S15.out.nx hU)) hC (Lib.hid fun key => by rw [maps_ent hM.out key, TE.out]) (Lib.hid (HX15.out.nx hU)) SM).mono fun e w' ⟨h1, h2⟩ => ⟨h1, hU.trans (h2.mono hU.size)⟩
        have KK : Hid (∀ U, Below W15.heap.size W15 U → Bx U q18 [.slice none 0 0, .int .i64 (-1), .slice none 0 0, .slice LA7 ln7 lc7, .int .i64 (kq : Int)]) := Lib.hid fun U hU => T.out.nx hU
        have SK : Hid (∀ w', Below W15.heap.size W15 w' → w'.cell? ⟨q18, 0, none⟩ = some (.slice none 0 0) ∧ w'.cell? ⟨q18, 1, none⟩ = some (.int .i64 (-1)) ∧ w'.cell? ⟨q18, 2, none⟩ = some (.slice none 0 0) ∧ w'.cell? ⟨q18, 3, none⟩ = some (.slice LA7 ln7 lc7) ∧ w'.cell? ⟨q18, 4, none⟩ = some (.int .i64 (kq : Int))) := Lib.hid fun U hU => by
          have X := KK.out U hU
          have s0 := X.at_ 0 (by simp)
          have s1 := X.at_ 1 (by simp)
          have s2 := X.at_ 2 (by simp)
          have s3 := X.at_ 3 (by simp)
          have s4 := X.at_ 4 (by simp)
          simp only [List.getElem?_cons_succ, List.getElem?_cons_zero] at s0 s1 s2 s3 s4
          exact ⟨s0, s1, s2, s3, s4⟩
        clear KK
        go_upto_region 26 with fail
        rw [HW15.out]
        have kqc : kq ≤ c := by have := HXt.out.row.nc; omega
        have kqc1 : (kq : Int) ≤ (c : Int) := by omega
        have kq0 : (0 : Int) ≤ (kq : Int) := by omega
        have c63 := HXt.out.row.c63
        rcases A with _ | ⟨g0, o0, p0⟩
        all_goals
         go_region_held_law (fun w' => w'.cell? ⟨q18, 0, none⟩ = some (.slice none 0 0) ∧ w'.cell? ⟨q18, 1, none⟩ = some (.int .i64 (-1)) ∧ w'.cell? ⟨q18, 2, none⟩ = some (.slice none 0 0) ∧ w'.cell? ⟨q18, 3, none⟩ = some (.slice LA7 ln7 lc7) ∧ w'.cell? ⟨q18, 4, none⟩ = some (.int .i64 (kq : Int))) (first | exact SK.out _ VD.out | exact SK.out _ V6.out | exact SK.out _ V7.out | exact SK.out _ V8.out)
           (first
             | (go_simp
                go_at_call 16
                refine (EQ.out _ VD.out).mono ?_
                rintro e w20 ⟨rfl, v6⟩
                have V6 := Lib.hid v6
                clear v6
                dsimp only)
             | (go_simp
                go_at_call 12
                refine (ML.out _ V6.out).mono ?_
                rintro e w21 ⟨A7, n7, c7, M7, rfl, hM7, C7, v7⟩
                have V7 := Lib.hid v7
                clear v7
                dsimp only)
             | (go_simp
                go_at_call 11
                refine (RS.out _ _ _ _ _ V7.out hM7 C7).mono ?_
                rintro e w22 ⟨rfl, v8⟩
                have V8 := Lib.hid v8
                clear v8
                dsimp only))
        all_goals
          have bF := bw15.trans (V8.out.mono bw15.size)
          go_wp2_with fail
          go_ret
          exact ⟨rfl, bF⟩
end Go.Proofs.YtpmkohnljngbhaaDoor.Sr
