/- The law: StoreWorks. -/
import Derived.Test.YtpmkohnljngbhaaDoorSrL4
namespace Go.Proofs.YtpmkohnljngbhaaDoor.Sr
set_option linter.unusedVariables false
set_option linter.unusedSimpArgs false
set_option maxRecDepth 1000000
open Go.RowKit Wl Pg
theorem xclone_any {B : Option Addr} {m d : Nat} {xs : List Value} (w : World) (hd : Hid (Rd w 1 B m d xs)) (h1 : ∀ u ∈ xs, u.oneCell' = true) (hm : m ≤ 1073741824) :
    Calls Tryd.prog 23 #[.slice B m d] w (Pg.Mv w 36 1 m xs) := by
  obtain ⟨i0, hi, hz0, hz1, hz2⟩ := info_parts info_changes
  rcases B with _ | a
  · obtain rfl : d = 0 := hd.out.nil rfl
    obtain rfl : m = 0 := by have := hd.out.nc; omega
    have q22 := fun w : World => Lib.run_eql_slice_nil (P := Tryd.prog) w 22 36 none 0 0 0 0 Tryd.underlying22
    have hl : Hid (xs = []) := Lib.hid (List.eq_nil_of_length_eq_zero (by have := hd.out.len; omega))
    go_enter Tryd.func23, Tryd.ntmps23
    go_wp2
    go_ret
    exact ⟨none, 0, rfl, Lib.hid (by rw [hl.out]; exact World.ownsRow_nil _ _ _ _), Below.refl _ _⟩
  · have q22 := fun w : World => Lib.run_eql_slice_nil (P := Tryd.prog) w 22 36 (some a) m d 0 0 Tryd.underlying22
    go_enter Tryd.func23, Tryd.ntmps23
    go_wp2_with (at_builtin; refine wpList_app _ rfl (.tmp 5) (.tmp 6) 22 rfl w.heap.size 36 i0 (.slice none 0 0) 1 24 Tryd.underlying22 hi hz0 hz1 hz2 rfl (by omega) (by rfl) (own_lit w _ 1 #[] 0 (Nat.le_refl _) (by unfold maxLen; omega) rfl) (by rfl) (hd.out.alloc _) h1 (by omega) (by omega) (by simp) ?_; intro A1 c1 w1 own1 g1)
    go_ret
    rw [Nat.zero_add] at own1
    exact ⟨A1, c1, rfl, Lib.hid own1, g1.low ((Below.refl _ _).alloc (Nat.le_refl _) _) (by simp) (fun g e => by simp [blk] at e; omega)⟩
set_option maxHeartbeats 12800000 in
theorem StoreWorks_walk (A : Option Addr) (n c : Nat) (X : List XV) (E : Option Addr) (en ec : Nat) (M0 : List CV) (w : World) (G : Hid (Gl w)) (HX : Hid (Xr w A n c X)) (HC : Hid (Cr w E en ec M0)) :
    Calls Tryd.prog 4 #[.slice A n c, .slice E en ec] w fun e w' => e = .returned (.bool true) ∧ Below w.heap.size w w' := by
  have NX := Lib.hid HX.out.len
  have NC := Lib.hid HC.out.len
  have henc := HC.out.row.nc
  have he63 := HC.out.row.c63
  have AW := Lib.hid (awake_any w G)
  go_enter Tryd.func4, Tryd.ntmps4
  go_wp2_with fail
  go_at_call 7
  refine AW.out.mono ?_
  rintro e w1 ⟨rfl, bw⟩
  have HX1 := Lib.hid (HX.out.nx bw)
  have SL := small_any w1 HX1
  cases hs : smL X with
  | false =>
    rw [hs] at SL
    have SL := Lib.hid SL
    clear hs
    go_wp2_with fail
    go_at_call 8
    refine SL.out.mono ?_
    rintro e w2 ⟨rfl, b2⟩
    have bF := bw.trans (b2.mono bw.size)
    go_wp2_with fail
    go_ret
    exact ⟨rfl, bF⟩
  | true =>
    rw [hs] at SL
    have SL := Lib.hid SL
    have HS := smL_true hs
    have n6 : n ≤ 6 := by rw [NX.out]; exact HS.1
    have SM := Lib.hid HS.2
    clear hs HS
    go_wp2_with fail
    go_at_call 8
    refine SL.out.mono ?_
    rintro e w2 ⟨rfl, b2⟩
    replace bw := bw.trans (b2.mono bw.size)
    replace HX1 := Lib.hid (HX1.out.nx b2)
    obtain ⟨qs, hqs⟩ : ∃ qs, w2.heap.size = qs := ⟨_, rfl⟩
    obtain ⟨W2, hW2⟩ : ∃ W2, w2.alloc (.cells #[.slice E en ec] 36) = W2 := ⟨_, rfl⟩
    have bb : Below w2.heap.size w2 W2 := hW2 ▸ bal _ _
    have B2 : Hid (Bx W2 qs [.slice E en ec]) := hW2 ▸ Lib.hid (Bx.put _ hqs #[.slice E en ec] 36)
    have TB2 : Hid (Ty W2 qs 36) := hW2 ▸ hqs ▸ Lib.hid (Ty.new _ _ _)
    have HW2 := Lib.hid hW2
    clear hW2
    replace bw := bw.trans (bb.mono bw.size)
    replace HX1 := Lib.hid (HX1.out.nx bb)
    have RS : Hid (Xr W2 (some ⟨qs, 0, none⟩) 1 1 [⟨E, ec, M0⟩]) := by
      have h : Rd W2 1 (some ⟨qs, 0, none⟩) 1 1 [.slice E en ec] := HW2.out ▸ rd_lit w2 hqs _ 1 #[.slice E en ec] 1 (by omega) rfl
      refine Lib.hid ⟨by show Rd W2 1 _ 1 1 [.slice E M0.length ec]; rw [← NC.out]; exact h, fun x hx => ?_⟩
      obtain rfl := List.mem_singleton.1 hx
      show Cr W2 E M0.length ec M0
      rw [← NC.out]; exact HC.out.nx bw
    have SL2 := small_any W2 RS
    cases hs2 : smL [(⟨E, ec, M0⟩ : XV)] with
    | false =>
      rw [hs2] at SL2
      have SL2 := Lib.hid SL2
      clear hs2
      go_wp2_with fail
      rw [HW2.out]
      go_at_call 8
      refine SL2.out.mono ?_
      rintro e w3 ⟨rfl, b3⟩
      have bF := bw.trans (b3.mono bw.size)
      go_wp2_with fail
      go_ret
      exact ⟨rfl, bF⟩
    | true =>
      rw [hs2] at SL2
      have SL2 := Lib.hid SL2
      have SM2 := Lib.hid ((smL_true hs2).2 ⟨E, ec, M0⟩ (by simp))
      have en12 : en ≤ 12 := by rw [NC.out]; exact SM2.out.1
      clear hs2
      go_wp2_with fail
      rw [HW2.out]
      go_at_call 8
      refine SL2.out.mono ?_
      rintro e w3 ⟨rfl, b3⟩
      replace bw := bw.trans (b3.mono bw.size)
      replace HX1 := Lib.hid (HX1.out.nx b3)
      have MD := Lib.hid (made_any w3 (Lib.hid (G.out.nx bw)) HX1 (by omega) SM)
      go_wp2_with fail
      go_at_call 9
      refine MD.out.mono ?_
      rintro e w4 ⟨LA, ln, lc, rfl, S4, b4⟩
      have eN : Hid (((effs (fun _ => none) (X.map XV.t)).length : Int) = n) := Lib.hid (by rw [effs_len, List.length_map]; have := NX.out; omega)
      rw [eN.out] at S4 ⊢
      obtain ⟨Ts, hTs⟩ : ∃ Ts, effs (fun _ => none) (X.map XV.t) = Ts := ⟨_, rfl⟩
      rw [hTs] at S4
      have HTS := Lib.hid hTs
      have TL : Ts.length = n := by rw [← hTs, effs_len, List.length_map]; have := NX.out; omega
      clear hTs MD
      replace bw := bw.trans (b4.mono bw.size)
      replace HX1 := Lib.hid (HX1.out.nx b4)
      obtain ⟨q5, hq5⟩ : ∃ q5, w4.heap.size = q5 := ⟨_, rfl⟩
      obtain ⟨W5, hW5⟩ : ∃ W5, w4.alloc (.cells #[.slice none 0 0, .int .i64 (-1), .slice none 0 0, .slice LA ln lc, .int .i64 (n : Int)] 31) = W5 := ⟨_, rfl⟩
      have b5 : Below w4.heap.size w4 W5 := hW5 ▸ bal _ _
      have Z : Hid (Bx W5 q5 [.slice none 0 0, .int .i64 (-1), .slice none 0 0, .slice LA ln lc, .int .i64 (n : Int)]) := hW5 ▸ Lib.hid (Bx.put _ hq5 #[.slice none 0 0, .int .i64 (-1), .slice none 0 0, .slice LA ln lc, .int .i64 (n : Int)] 31)
      have TZ : Hid (Ty W5 q5 31) := hW5 ▸ hq5 ▸ Lib.hid (Ty.new _ _ _)
      have HW5 := Lib.hid hW5
      clear hW5
      replace bw := bw.trans (b5.mono bw.size)
      replace HX1 := Lib.hid (HX1.out.nx b5)
      replace S4 := Lib.hid (S4.out.nx b5)
      have z0 := Z.out.at_ 0 (by simp)
      have z1 := Z.out.at_ 1 (by simp)
      have z2 := Z.out.at_ 2 (by simp)
      have z3 := Z.out.at_ 3 (by simp)
      have z4 := Z.out.at_ 4 (by simp)
      simp only [List.getElem?_cons_succ, List.getElem?_cons_zero] at z0 z1 z2 z3 z4
      have BG := Lib.hid (Stt.begin_ S4 (Lib.hid (G.out.nx bw)))
      go_upto_region 6 with fail
      rw [HW5.out]
      go_wp2_with fail
      go_at_call 17
      refine BG.out.mono ?_
      rintro e w7 ⟨rfl, b7⟩
      clear BG z0 z1 z2 z3 z4
      replace bw := bw.trans (b7.mono bw.size)
      replace HX1 := Lib.hid (HX1.out.nx b7)
      replace S4 := Lib.hid (S4.out.nx b7)
      replace Z := Lib.hid (Z.out.nx b7)
      have bw7 := bw
      obtain ⟨q7, hq7⟩ : ∃ q7, w7.heap.size = q7 := ⟨_, rfl⟩
      obtain ⟨W8, hW8⟩ : ∃ W8, w7.alloc (.cells #[.slice none 0 0, .int .i64 (-1), .slice none 0 0, .slice LA ln lc, .int .i64 (n : Int), .slice none 0 0] 48) = W8 := ⟨_, rfl⟩
      have b8 : Below w7.heap.size w7 W8 := hW8 ▸ bal _ _
      have U : Hid (Bx W8 q7 [.slice none 0 0, .int .i64 (-1), .slice none 0 0, .slice LA ln lc, .int .i64 (n : Int), .slice none 0 0]) := hW8 ▸ Lib.hid (Bx.put _ hq7 #[.slice none 0 0, .int .i64 (-1), .slice none 0 0, .slice LA ln lc, .int .i64 (n : Int), .slice none 0 0] 48)
      have TU : Hid (Ty W8 q7 48) := hW8 ▸ hq7 ▸ Lib.hid (Ty.new _ _ _)
      have HW8 := Lib.hid hW8
      clear hW8
      have hW8s : W8.heap.size = q7 + 1 := by rw [← HW8.out, World.size_alloc, hq7]
      have q57 : q5 < q7 := by have := Z.out.lt; omega
      have b78 := b8.size
      have u0 := U.out.at_ 0 (by simp)
      have u1 := U.out.at_ 1 (by simp)
      have u2 := U.out.at_ 2 (by simp)
      have u3 := U.out.at_ 3 (by simp)
      have u4 := U.out.at_ 4 (by simp)
      have u5 := U.out.at_ 5 (by simp)
      simp only [List.getElem?_cons_succ, List.getElem?_cons_zero] at u0 u1 u2 u3 u4 u5
      have bw8 := bw7.trans (b8.mono bw7.size)
      have MD := Lib.hid (model_own w W8 bw8 HX (Lib.hid (HX1.out.nx b8)) (by omega) SM)
      go_upto_region 7 with fail
      rw [HW8.out]
      go_wp2_with fail
      go_at_call 12
      refine MD.out.mono ?_
      rintro e w9 ⟨BA, bn, bc, B, rfl, HB, _, ⟨hbn, EB⟩, b9⟩
      have b79 := b8.trans (b9.mono b8.size)
      have HB0 : Hid (∀ key, mfd (B.map CV.ch) key = app (fun _ => none) Ts.flatten key) := Lib.hid fun key => by rw [maps_ent HB.out key, HTS.out]
      have U9 := Lib.hid (U.out.nx b9)
      have q78 : q7 < W8.heap.size := U.out.lt
      clear MD u0 u1 u2 u3 u4 u5
      go_wp2_with fail
      go_loopw [9, 62] (fun mv iv wr => ∃ (j wn : Nat) (WA : Option Addr) (wc : Nat) (wl : List CV) (MA : Option Addr) (mn mc : Nat) (M : List CV), j ≤ en ∧ iv = .int .i64 j ∧ mv = .slice MA mn mc ∧ wn ≤ j ∧ mn ≤ 1000 + j ∧ Hid (Bx wr q7 [.slice none 0 0, .int .i64 (-1), .slice none 0 0, .slice LA ln lc, .int .i64 (n : Int), .slice WA wn wc]) ∧ Hid (Cr wr WA wn wc wl) ∧ Hid (∀ y ∈ wl, y.ch.ok = true) ∧ Hid (∀ y ∈ wl, ∀ g, blk y.A = some g ∨ blk y.B = some g → q7 < g) ∧
          Hid (∀ key, mfd (M.map CV.ch) key = app (app (fun _ => none) Ts.flatten) (wl.map CV.ch) key) ∧ Hid (Ew w wr W8.heap.size MA mn mc M) ∧ Hid (Ew w wr W8.heap.size BA bn bc B) ∧ Below w7.heap.size w7 wr) (fun _ iv _ => (en - intOf iv).toNat)
      case atStart => exact ⟨0, 0, none, 0, [], BA, bn, bc, B, by omega, rfl, rfl, by omega, by omega, U9, Lib.hid (Cr.nil_ _), Lib.hid (by simp), Lib.hid (by simp), HB0, EB, EB, b79⟩
      case round =>
        obtain ⟨j, wn, WA, wc, wl, MA, mn, mc, M, hj, rfl, rfl, hwn, hmn, U6, C6, OKL, FR, HE, EM, EB6, b7r⟩ := hrel
        clear U9 EB
        have EB := EB6
        clear EB6
        have bw6 := bw7.trans (b7r.mono bw7.size)
        by_cases hlt : j < en
        · have d1 : decide ((j : Int) < (en : Int)) = true := decide_eq_true (by omega)
          obtain ⟨g', o', y, rfl, hg', hy, a0, a1, a2⟩ := (HC.out.nx bw6).item hlt
          have OKY := Lib.hid (SM2.out.2 y (List.mem_of_getElem? hy))
          have OKI := Lib.hid (ok_iff.1 OKY.out)
          have DY := Lib.hid ((HC.out.dat y (List.mem_of_getElem? hy)))
          obtain ⟨kn, hkn⟩ : ∃ kn, y.k.length = kn := ⟨_, rfl⟩
          obtain ⟨vn, hvn⟩ : ∃ vn, y.v.length = vn := ⟨_, rfl⟩
          have KV : Hid (keyN kn = true ∧ valN vn = true) := Lib.hid ⟨decide_eq_true (by rw [← hkn]; exact OKI.out.1), decide_eq_true (by rw [← hvn]; exact OKI.out.2.1)⟩
          rw [hkn] at a0
          rw [hvn] at a1
          have HKN := Lib.hid hkn.symm
          have HVN := Lib.hid hvn.symm
          clear hy hkn hvn
          obtain ⟨q12, hq12⟩ : ∃ q12, wr.heap.size = q12 := ⟨_, rfl⟩
          obtain ⟨W10, hW10⟩ : ∃ W10, wr.alloc (.cells #[.slice y.A kn y.c, .slice y.B vn y.d, .bool y.del] 45) = W10 := ⟨_, rfl⟩
          have v10 : Below wr.heap.size wr W10 := hW10 ▸ bal _ _
          have V : Hid (Bx W10 q12 [.slice y.A kn y.c, .slice y.B vn y.d, .bool y.del]) := hW10 ▸ Lib.hid (Bx.put _ hq12 #[.slice y.A kn y.c, .slice y.B vn y.d, .bool y.del] 45)
          have TV : Hid (Ty W10 q12 45) := hW10 ▸ hq12 ▸ Lib.hid (Ty.new _ _ _)
          have HW10 := Lib.hid hW10
          clear hW10
          have K10 : Hid (Rd W10 1 y.A kn y.c (bv y.k)) := Lib.hid (by rw [HKN.out]; exact (DY.out.nx (bw6.trans (v10.mono bw6.size))).k)
          have FD := rFind_any W10 (Lib.hid ((EM.out.nx v10).cr (bw6.trans (v10.mono bw6.size)))) K10
          obtain ⟨o, ho⟩ : ∃ o, mfd (M.map CV.ch) y.k = o := ⟨_, rfl⟩
          have HO : Hid (app (fun _ => none) (Ts.flatten ++ wl.map CV.ch) y.k = o) := Lib.hid (by rw [app_app, ← HE.out, ho])
          obtain ⟨fi, hfi, hf1, hf2⟩ : ∃ fi : Int, fnd (M.map CV.ch) y.k = fi ∧ (o = none → fi = -1) ∧ (o ≠ none → 0 ≤ fi) := by
            rcases fnd_cases (M.map CV.ch) y.k with ⟨h1, h2⟩ | ⟨q, z, h1, h2, h3⟩
            · exact ⟨-1, h1, fun _ => rfl, fun h => absurd (ho ▸ h2) h⟩
            · exact ⟨q, h1, fun h => (by rw [ho, h] at h3; cases h3), fun _ => by omega⟩
          rw [hfi] at FD
          have FD := Lib.hid FD
          have v0 := V.out.at_ 0 (by simp)
          have v1 := V.out.at_ 1 (by simp)
          have v2 := V.out.at_ 2 (by simp)
          simp only [List.getElem?_cons_succ, List.getElem?_cons_zero] at v0 v1 v2
          clear ho hfi
          go_upto_region 14 with fail
          rw [HW10.out]
          go_wp2_with fail
          go_at_call 14
          refine FD.out.mono ?_
          rintro e W11 ⟨rfl, nq, hW11⟩
          have v11 : Below W10.heap.size W10 W11 := hW11 ▸ bdrewN (Below.refl _ _)
          have v1011 := v10.trans (v11.mono v10.size)
          clear hW11 FD v0 v1 v2
          have U11 := Lib.hid (U6.out.nx v1011)
          have u0 := U11.out.at_ 0 (by simp)
          have u1 := U11.out.at_ 1 (by simp)
          have u2 := U11.out.at_ 2 (by simp)
          have u3 := U11.out.at_ 3 (by simp)
          have u4 := U11.out.at_ 4 (by simp)
          have u5 := U11.out.at_ 5 (by simp)
          simp only [List.getElem?_cons_succ, List.getElem?_cons_zero] at u0 u1 u2 u3 u4 u5
          obtain ⟨q14, hq14⟩ : ∃ q14, W11.heap.size = q14 := ⟨_, rfl⟩
          obtain ⟨W12, hW12⟩ : ∃ W12, W11.alloc (.cells #[.slice none 0 0, .int .i64 (-1), .slice none 0 0, .slice LA ln lc, .int .i64 (n : Int), .slice WA wn wc] 48) = W12 := ⟨_, rfl⟩
          have v12' : Below W11.heap.size W11 W12 := hW12 ▸ bal _ _
          have T : Hid (Bx W12 q14 [.slice none 0 0, .int .i64 (-1), .slice none 0 0, .slice LA ln lc, .int .i64 (n : Int), .slice WA wn wc]) := hW12 ▸ Lib.hid (Bx.put _ hq14 #[.slice none 0 0, .int .i64 (-1), .slice none 0 0, .slice LA ln lc, .int .i64 (n : Int), .slice WA wn wc] 48)
          have TT : Hid (Ty W12 q14 48) := hW12 ▸ hq14 ▸ Lib.hid (Ty.new _ _ _)
          have HW12 := Lib.hid hW12
          clear hW12
          have v1012 := v11.trans (v12'.mono v11.size)
          have v12 := v10.trans (v1012.mono v10.size)
          have V12 := Lib.hid (V.out.nx v1012)
          have U12 := Lib.hid (U6.out.nx v12)
          have bw12 := bw6.trans (v12.mono bw6.size)
          have b712 := b7r.trans (v12.mono b7r.size)
          have ulq := U6.out.lt
          have vlt := V.out.lt
          have z11 := v11.size
          have q712 : q7 < q12 := by omega
          have q1214 : q12 < q14 := by omega
          have tlt := T.out.lt
          go_upto_region 16 with fail
          rw [HW12.out]
          clear u0 u1 u2 u3 u4 u5
          have u0 := U12.out.at_ 0 (by simp)
          have u1 := U12.out.at_ 1 (by simp)
          have u2 := U12.out.at_ 2 (by simp)
          have u3 := U12.out.at_ 3 (by simp)
          have u4 := U12.out.at_ 4 (by simp)
          have u5 := U12.out.at_ 5 (by simp)
          simp only [List.getElem?_cons_succ, List.getElem?_cons_zero] at u0 u1 u2 u3 u4 u5
          have v0 := V12.out.at_ 0 (by simp)
          have v1 := V12.out.at_ 1 (by simp)
          have v2 := V12.out.at_ 2 (by simp)
          simp only [List.getElem?_cons_succ, List.getElem?_cons_zero] at v0 v1 v2
          have t0 := T.out.at_ 0 (by simp)
          have t1 := T.out.at_ 1 (by simp)
          have t2 := T.out.at_ 2 (by simp)
          have t3 := T.out.at_ 3 (by simp)
          have t4 := T.out.at_ 4 (by simp)
          have t5 := T.out.at_ 5 (by simp)
          simp only [List.getElem?_cons_succ, List.getElem?_cons_zero] at t0 t1 t2 t3 t4 t5
          have S12 := Lib.hid (S4.out.nx b712)
          have C12 := Lib.hid (C6.out.nx v12)
          have G12 := Lib.hid (G.out.nx bw12)
          have K12 : Hid (Rd W12 1 y.A kn y.c (bv y.k)) := Lib.hid (K10.out.nx v1012)
          have P12 : Hid (Rd W12 1 y.B vn y.d (bv y.v)) := Lib.hid (by rw [HVN.out]; exact (DY.out.nx bw12).v)
          have WV := Lib.hid (S12.out.wvd (l := wl) (by have := C6.out.len; omega) OKL.out)
          cases hdel : y.del with
          | true =>
            have VN : Hid (y.v = []) := Lib.hid (OKI.out.2.2 hdel)
            have HDEL : Hid (y.del = true) := Lib.hid hdel
            rw [hdel] at v2 V
            have DL := sDel_ok (last := (n : Int)) W12 G12 (Lib.hid S12.out.st) (Lib.hid S12.out.e) (Lib.hid S12.out.tr) C12 WV K12 KV.out.1
            rw [HO.out] at DL
            have DL := Lib.hid DL
            clear hdel
            go_wp2_with fail
            go_at_call 18
            refine DL.out.mono ?_
            rintro e w9 hpost
            rcases hpost with ⟨hno, rfl, b9⟩ | ⟨hne, ⟨⟨h100, _⟩ | ⟨h100, A9, c9, x9, rfl, xch, co9, fr9⟩, b9⟩⟩
            · obtain rfl : fi = -1 := hf1 hno
              have T9 := Lib.hid (T.out.nx b9)
              have v9 := v12.trans (b9.mono v12.size)
              have b13 : Below wr.heap.size wr ((((((w9.setCell ⟨q14, 0, none⟩ (.slice none 0 0)).setCell ⟨q14, 1, none⟩ (.int .i64 0)).setCell ⟨q14, 2, none⟩ (.slice none 0 0)).setCell ⟨q14, 3, none⟩ (.slice none 0 0)).setCell ⟨q14, 4, none⟩ (.int .i64 0)).setCell ⟨q14, 5, none⟩ (.slice none 0 0)) := res6_below v9 (by omega)
              clear u0 u1 u2 u3 u4 u5 v0 v1 v2 t0 t1 t2 t3 t4 t5
              have t0 := T9.out.at_ 0 (by simp)
              have t1 := T9.out.at_ 1 (by simp)
              have t2 := T9.out.at_ 2 (by simp)
              have t3 := T9.out.at_ 3 (by simp)
              have t4 := T9.out.at_ 4 (by simp)
              have t5 := T9.out.at_ 5 (by simp)
              simp only [List.getElem?_cons_succ, List.getElem?_cons_zero] at t0 t1 t2 t3 t4 t5
              have f0 := T9.out.fz 0 (by simp)
              have f1 := T9.out.fz 1 (by simp)
              have f2 := T9.out.fz 2 (by simp)
              have f3 := T9.out.fz 3 (by simp)
              have f4 := T9.out.fz 4 (by simp)
              have f5 := T9.out.fz 5 (by simp)
              obtain ⟨W13, hW13⟩ : ∃ u, ((((((w9.setCell ⟨q14, 0, none⟩ (.slice none 0 0)).setCell ⟨q14, 1, none⟩ (.int .i64 0)).setCell ⟨q14, 2, none⟩ (.slice none 0 0)).setCell ⟨q14, 3, none⟩ (.slice none 0 0)).setCell ⟨q14, 4, none⟩ (.int .i64 0)).setCell ⟨q14, 5, none⟩ (.slice none 0 0)) = u := ⟨_, rfl⟩
              rw [hW13] at b13
              have U13 := Lib.hid (U6.out.nx b13)
              have EM13 := Lib.hid (EM.out.nx b13)
              have EB13 := Lib.hid (EB.out.nx b13)
              have C13 := Lib.hid (C6.out.nx b13)
              have b713 := b7r.trans (b13.mono b7r.size)
              clear hf1 hf2 hno
              go_wp2_with fail
              go_roundw
              case rel => exact ⟨j + 1, wn, WA, wc, wl, MA, mn, mc, M, by omega, by go_num, rfl, by omega, by omega, U13, C13, OKL, FR, HE, EM13, EB13, b713⟩
              case measure => simp [intOf]; omega
            · omega
            · have f0' := hf2 hne
              have q0 : decide (fi < 0) = false := decide_eq_false (by omega)
              have XC : Hid (x9.ch = y.ch) := Lib.hid (by rw [xch.out]; exact Ch.ext' rfl VN.out.symm HDEL.out.symm)
              clear hf1 hf2
              have T9 := Lib.hid (T.out.nx b9)
              have v9 := v12.trans (b9.mono v12.size)
              have b13 : Below wr.heap.size wr ((((((w9.setCell ⟨q14, 0, none⟩ (.slice none 0 0)).setCell ⟨q14, 1, none⟩ (.int .i64 (-1))).setCell ⟨q14, 2, none⟩ (.slice none 0 0)).setCell ⟨q14, 3, none⟩ (.slice LA ln lc)).setCell ⟨q14, 4, none⟩ (.int .i64 (n : Int))).setCell ⟨q14, 5, none⟩ (.slice A9 (wn + 1) c9)) := res6_below v9 (by omega)
              have Q13 := Lib.hid (res6_cells T9.out rfl (.slice none 0 0) (.int .i64 (-1)) (.slice none 0 0) (.slice LA ln lc) (.int .i64 (n : Int)) (.slice A9 (wn + 1) c9))
              have V13 := Lib.hid (bx_res6 (R := q14) (a := .slice none 0 0) (b := .int .i64 (-1)) (d := .slice none 0 0) (e := .slice LA ln lc) (f := .int .i64 (n : Int)) (g := .slice A9 (wn + 1) c9) ((V.out.nx v1012).nx b9) (by omega))
              have O13 := Lib.hid (own_res6 (R := q14) (a := .slice none 0 0) (b := .int .i64 (-1)) (d := .slice none 0 0) (e := .slice LA ln lc) (f := .int .i64 (n : Int)) (g := .slice A9 (wn + 1) c9) co9.out.own tlt)
              have D13 := Lib.hid (dt_res6 (R := q14) (a := .slice none 0 0) (b := .int .i64 (-1)) (d := .slice none 0 0) (e := .slice LA ln lc) (f := .int .i64 (n : Int)) (g := .slice A9 (wn + 1) c9) (co9.out.dat x9 (by simp)) fun g e => by have := fr9.out g e; omega)
              clear u0 u1 u2 u3 u4 u5 v0 v1 v2 t0 t1 t2 t3 t4 t5
              have t0 := T9.out.at_ 0 (by simp)
              have t1 := T9.out.at_ 1 (by simp)
              have t2 := T9.out.at_ 2 (by simp)
              have t3 := T9.out.at_ 3 (by simp)
              have t4 := T9.out.at_ 4 (by simp)
              have t5 := T9.out.at_ 5 (by simp)
              simp only [List.getElem?_cons_succ, List.getElem?_cons_zero] at t0 t1 t2 t3 t4 t5
              have f0 := T9.out.fz 0 (by simp)
              have f1 := T9.out.fz 1 (by simp)
              have f2 := T9.out.fz 2 (by simp)
              have f3 := T9.out.fz 3 (by simp)
              have f4 := T9.out.fz 4 (by simp)
              have f5 := T9.out.fz 5 (by simp)
              go_upto_region 22 with fail
              obtain ⟨W13, hW13⟩ : ∃ u, ((((((w9.setCell ⟨q14, 0, none⟩ (.slice none 0 0)).setCell ⟨q14, 1, none⟩ (.int .i64 (-1))).setCell ⟨q14, 2, none⟩ (.slice none 0 0)).setCell ⟨q14, 3, none⟩ (.slice LA ln lc)).setCell ⟨q14, 4, none⟩ (.int .i64 (n : Int))).setCell ⟨q14, 5, none⟩ (.slice A9 (wn + 1) c9)) = u := ⟨_, rfl⟩
              rw [hW13] at b13 Q13 V13 O13 D13 ⊢
              clear hW13 t0 t1 t2 t3 t4 t5 f0 f1 f2 f3 f4 f5
              have U13 := Lib.hid (U6.out.nx b13)
              have EM13 := Lib.hid (EM.out.nx b13)
              have EB13 := Lib.hid (EB.out.nx b13)
              have C13 := Lib.hid (C6.out.nx b13)
              have b713 := b7r.trans (b13.mono b7r.size)
              have bw13 := bw7.trans (b713.mono bw7.size)
              have KY13 : Hid (Dt W13 ⟨y.A, y.c, y.k, y.B, y.d, y.v, y.del⟩) := Lib.hid (DY.out.nx bw13)
              have AP : Hid (∀ U, Below W13.heap.size W13 U → Calls Tryd.prog 20 #[.slice MA mn mc, .agg #[.slice y.A kn y.c, .slice y.B vn y.d, .bool true]] U (fun e w' => ∃ A' n' c' M', e = .returned (.slice A' n' c') ∧ n' ≤ mn + 1 ∧ Hid (M'.map CV.ch = apl (M.map CV.ch) y.ch) ∧ Hid (Ew w w' W8.heap.size A' n' c' M') ∧ Below U.heap.size U w' ∧ Below W13.heap.size W13 w')) := Lib.hid fun U hU => by
                have h := rApply_any U (Lib.hid ((EM13.out.nx hU).cr (bw13.trans (hU.mono bw13.size)))) (Lib.hid (KY13.out.nx hU)) HKN HVN (by omega)
                rw [HDEL.out] at h
                refine h.mono ?_
                rintro e w' ⟨A', n', c', M', h1, h2, h3, h4, h5, h6⟩
                refine ⟨A', n', c', M', h1, h2, Lib.hid ?_, Lib.hid ⟨own_base h4.out (by have := b13.size; have := hU.size; omega), fun z hz => ?_⟩, h6, hU.trans (h6.mono hU.size)⟩
                · rw [h3.out]; congr 1; exact Ch.ext' rfl rfl HDEL.out.symm
                · rcases h5.out z hz with h | rfl
                  · exact EM13.out.dat z h
                  · refine ⟨DY.out.k, DY.out.v⟩
              have KK : Hid (∀ U, Below W13.heap.size W13 U → Bx U q14 [.slice none 0 0, .int .i64 (-1), .slice none 0 0, .slice LA ln lc, .int .i64 (n : Int), .slice A9 (wn + 1) c9] ∧ Bx U q12 [.slice y.A kn y.c, .slice y.B vn y.d, .bool true] ∧ Bx U q7 [.slice none 0 0, .int .i64 (-1), .slice none 0 0, .slice LA ln lc, .int .i64 (n : Int), .slice WA wn wc]) := Lib.hid fun U hU => ⟨Q13.out.nx hU, V13.out.nx hU, U13.out.nx hU⟩
              have VD : Hid (Below W13.heap.size W13 W13.drew) := Lib.hid (Below.refl _ _).drew
              have q0 := Q13.out.at_ 0 (by simp)
              have q1 := Q13.out.at_ 1 (by simp)
              have q2 := Q13.out.at_ 2 (by simp)
              have q3 := Q13.out.at_ 3 (by simp)
              have q4 := Q13.out.at_ 4 (by simp)
              have q5 := Q13.out.at_ 5 (by simp)
              simp only [List.getElem?_cons_succ, List.getElem?_cons_zero] at q0 q1 q2 q3 q4 q5
              have u0 := U13.out.at_ 0 (by simp)
              have u1 := U13.out.at_ 1 (by simp)
              have u2 := U13.out.at_ 2 (by simp)
              have u3 := U13.out.at_ 3 (by simp)
              have u4 := U13.out.at_ 4 (by simp)
              have u5 := U13.out.at_ 5 (by simp)
              simp only [List.getElem?_cons_succ, List.getElem?_cons_zero] at u0 u1 u2 u3 u4 u5
              have f0 := U13.out.fz 0 (by simp)
              have f1 := U13.out.fz 1 (by simp)
              have f2 := U13.out.fz 2 (by simp)
              have f3 := U13.out.fz 3 (by simp)
              have f4 := U13.out.fz 4 (by simp)
              have f5 := U13.out.fz 5 (by simp)
              have v0 := V13.out.at_ 0 (by simp)
              have v1 := V13.out.at_ 1 (by simp)
              have v2 := V13.out.at_ 2 (by simp)
              simp only [List.getElem?_cons_succ, List.getElem?_cons_zero] at v0 v1 v2
              go_upto_region 24 with fail
              go_region_law
                (first
                  | (go_simp
                     go_at_call 20
                     refine (AP.out _ VD.out).mono ?_
                     rintro e w14 ⟨A14, n14, c14, M14, rfl, hn14, HM14, EM14, b14, b1314⟩
                     obtain ⟨Q14, V14, U14⟩ := KK.out _ b1314
                     have a0 := Q14.at_ 0 (by simp)
                     have a1 := Q14.at_ 1 (by simp)
                     have a2 := Q14.at_ 2 (by simp)
                     have a3 := Q14.at_ 3 (by simp)
                     have a4 := Q14.at_ 4 (by simp)
                     have a5 := Q14.at_ 5 (by simp)
                     simp only [List.getElem?_cons_succ, List.getElem?_cons_zero] at a0 a1 a2 a3 a4 a5
                     have b0 := V14.at_ 0 (by simp)
                     have b1 := V14.at_ 1 (by simp)
                     have b2 := V14.at_ 2 (by simp)
                     simp only [List.getElem?_cons_succ, List.getElem?_cons_zero] at b0 b1 b2
                     have c0 := U14.at_ 0 (by simp)
                     have c1 := U14.at_ 1 (by simp)
                     have c2 := U14.at_ 2 (by simp)
                     have c3 := U14.at_ 3 (by simp)
                     have c4 := U14.at_ 4 (by simp)
                     have c5 := U14.at_ 5 (by simp)
                     simp only [List.getElem?_cons_succ, List.getElem?_cons_zero] at c0 c1 c2 c3 c4 c5
                     have g0 := U14.fz 0 (by simp)
                     have g1 := U14.fz 1 (by simp)
                     have g2 := U14.fz 2 (by simp)
                     have g3 := U14.fz 3 (by simp)
                     have g4 := U14.fz 4 (by simp)
                     have g5 := U14.fz 5 (by simp)
                     have B14 := Lib.hid b14
                     have B1314 := Lib.hid b1314
                     clear b14 b1314
                     dsimp only))
              all_goals
                have B714 := b713.trans (B1314.out.mono b713.size)
                have L15 := Lib.hid (res6_cells U14 rfl (.slice none 0 0) (.int .i64 (-1)) (.slice none 0 0) (.slice LA ln lc) (.int .i64 (n : Int)) (.slice A9 (wn + 1) c9))
                have q7w : w7.heap.size ≤ q7 := by omega
                have q712s : q7 < W12.heap.size := by omega
                have q7w8 : q7 < W8.heap.size := by omega
                have b15 := res6_below (a := .slice none 0 0) (b := .int .i64 (-1)) (c := .slice none 0 0) (d := .slice LA ln lc) (e := .int .i64 (n : Int)) (g := .slice A9 (wn + 1) c9) B714 q7w
                have O15 := Lib.hid (own_res6 (R := q7) (a := .slice none 0 0) (b := .int .i64 (-1)) (d := .slice none 0 0) (e := .slice LA ln lc) (f := .int .i64 (n : Int)) (g := .slice A9 (wn + 1) c9) (own_below O13.out B1314.out) q712s)
                have FR15 : Hid (∀ y ∈ wl ++ [x9], ∀ g, blk y.A = some g ∨ blk y.B = some g → q7 < g) := Lib.hid fun y hy g e => by
                  rcases List.mem_append.1 hy with hy | hy
                  · exact FR.out y hy g e
                  · obtain rfl := List.mem_singleton.1 hy
                    have := fr9.out g e; omega
                have D15 := Lib.hid (fun y (hy : y ∈ wl ++ [x9]) => dt_res6 (R := q7) (a := .slice none 0 0) (b := .int .i64 (-1)) (d := .slice none 0 0) (e := .slice LA ln lc) (f := .int .i64 (n : Int)) (g := .slice A9 (wn + 1) c9) (W := w14) (x := y) (by
                  rcases List.mem_append.1 hy with hy | hy
                  · exact (C13.out.dat y hy).nx B1314.out
                  · obtain rfl := List.mem_singleton.1 hy
                    exact D13.out.nx B1314.out) fun g e => by have := FR15.out y hy g e; omega)
                have EM15 := Lib.hid (own_res6 (R := q7) (a := .slice none 0 0) (b := .int .i64 (-1)) (d := .slice none 0 0) (e := .slice LA ln lc) (f := .int .i64 (n : Int)) (g := .slice A9 (wn + 1) c9) EM14.out.own q7w8)
                have EB15 := Lib.hid (own_res6 (R := q7) (a := .slice none 0 0) (b := .int .i64 (-1)) (d := .slice none 0 0) (e := .slice LA ln lc) (f := .int .i64 (n : Int)) (g := .slice A9 (wn + 1) c9) (EB13.out.nx B1314.out).own q7w8)
                have OKL15 : Hid (∀ y ∈ wl ++ [x9], y.ch.ok = true) := Lib.hid fun z hz => by
                  rcases List.mem_append.1 hz with hz | hz
                  · exact OKL.out z hz
                  · obtain rfl := List.mem_singleton.1 hz
                    rw [XC.out]; exact OKY.out
                have HE15 : Hid (∀ key, mfd (M14.map CV.ch) key = app (app (fun _ => none) Ts.flatten) ((wl ++ [x9]).map CV.ch) key) := Lib.hid fun key => by
                  have h : mfd (M.map CV.ch) = app (app (fun _ => none) Ts.flatten) (wl.map CV.ch) := funext HE.out
                  rw [HM14.out, mfd_apl, List.map_append, List.map_singleton, app_snoc, XC.out, h]
                have V15 := Lib.hid (bx_res6 (R := q7) (a := .slice none 0 0) (b := .int .i64 (-1)) (d := .slice none 0 0) (e := .slice LA ln lc) (f := .int .i64 (n : Int)) (g := .slice A9 (wn + 1) c9) V14 (by omega))
                obtain ⟨W15, hW15⟩ : ∃ u, ((((((w14.setCell ⟨q7, 0, none⟩ (.slice none 0 0)).setCell ⟨q7, 1, none⟩ (.int .i64 (-1))).setCell ⟨q7, 2, none⟩ (.slice none 0 0)).setCell ⟨q7, 3, none⟩ (.slice LA ln lc)).setCell ⟨q7, 4, none⟩ (.int .i64 (n : Int))).setCell ⟨q7, 5, none⟩ (.slice A9 (wn + 1) c9)) = u := ⟨_, rfl⟩
                rw [hW15] at b15 L15 O15 D15 EM15 EB15 V15 ⊢
                clear hW15
                have bw15 := bw7.trans (b15.mono bw7.size)
                have C15 : Hid (Cr W15 A9 (wn + 1) c9 (wl ++ [x9])) := Lib.hid ⟨Rd.of_own O15.out, D15.out⟩
                have EW15 : Hid (Ew w W15 W8.heap.size A14 n14 c14 M14) := Lib.hid ⟨EM15.out, EM14.out.dat⟩
                have EX15 : Hid (Ew w W15 W8.heap.size BA bn bc B) := Lib.hid ⟨EB15.out, EB13.out.dat⟩
                have K15 : Hid (Rd W15 1 y.A kn y.c (bv y.k)) := Lib.hid (by rw [HKN.out]; exact (DY.out.nx bw15).k)
                have S15 := Lib.hid (S4.out.nx b15)
                have WV15 := Lib.hid (S15.out.wvd (l := wl ++ [x9]) (by have := C15.out.len; omega) OKL15.out)
                obtain ⟨o2, ho2⟩ : ∃ o2, mfd (M14.map CV.ch) y.k = o2 := ⟨_, rfl⟩
                have HO2 : Hid (app (fun _ => none) (Ts.flatten ++ (wl ++ [x9]).map CV.ch) y.k = o2) := Lib.hid (by rw [app_app, ← HE15.out, ho2])
                have GT := sGet_ok (last := (n : Int)) W15 (Lib.hid (G.out.nx bw15)) (Lib.hid S15.out.st) (Lib.hid S15.out.e) (Lib.hid S15.out.tr) C15 WV15 K15 KV.out.1
                rw [HO2.out] at GT
                have GT := Lib.hid GT
                have HO3 := Lib.hid ho2
                clear ho2 Q14 V14 U14 a0 a1 a2 a3 a4 a5 b0 b1 b2 c0 c1 c2 c3 c4 c5 g0 g1 g2 g3 g4 g5
                have u0 := L15.out.at_ 0 (by simp)
                have u1 := L15.out.at_ 1 (by simp)
                have u2 := L15.out.at_ 2 (by simp)
                have u3 := L15.out.at_ 3 (by simp)
                have u4 := L15.out.at_ 4 (by simp)
                have u5 := L15.out.at_ 5 (by simp)
                simp only [List.getElem?_cons_succ, List.getElem?_cons_zero] at u0 u1 u2 u3 u4 u5
                have v0 := V15.out.at_ 0 (by simp)
                have v1 := V15.out.at_ 1 (by simp)
                have v2 := V15.out.at_ 2 (by simp)
                simp only [List.getElem?_cons_succ, List.getElem?_cons_zero] at v0 v1 v2
                go_wp2_with fail
                go_at_call 21
                refine GT.out.mono ?_
                rintro e w16 ⟨A16, n16, c16, er, rfl, res, b16⟩
                have V16 := Lib.hid (V15.out.nx b16)
                have EM16 := Lib.hid (EW15.out.nx b16)
                have bw16 := bw15.trans (b16.mono bw15.size)
                have FD16 := rFind_any w16 (Lib.hid (EM16.out.cr bw16)) (Lib.hid (K15.out.nx b16))
                clear u0 u1 u2 u3 u4 u5 v0 v1 v2
                have v0 := V16.out.at_ 0 (by simp)
                have v1 := V16.out.at_ 1 (by simp)
                have v2 := V16.out.at_ 2 (by simp)
                simp only [List.getElem?_cons_succ, List.getElem?_cons_zero] at v0 v1 v2
                rcases fnd_cases (M14.map CV.ch) y.k with ⟨hf, hm⟩ | ⟨q2, z2, hf, hz2, hm⟩
                · rw [hf] at FD16
                  have FD16 := Lib.hid FD16
                  rw [HO3.out] at hm
                  subst hm
                  obtain ⟨rfl, rfl⟩ : er = 7 ∧ n16 = 0 := by
                    rcases res with ⟨h1, _, h3⟩ | ⟨_, d, hd, _⟩
                    · exact ⟨h1, h3⟩
                    · cases hd
                  go_wp2_with fail
                  go_at_call 14
                  refine FD16.out.mono ?_
                  rintro e W17 ⟨rfl, nq, hW17⟩
                  have b1517 : Below W15.heap.size W15 W17 := hW17 ▸ (bdrewN b16)
                  clear hW17
                  have b17 := b15.trans (b1517.mono b15.size)
                  have L17 := Lib.hid (L15.out.nx b1517)
                  have C17 := Lib.hid (C15.out.nx b1517)
                  have EW17 := Lib.hid (EW15.out.nx b1517)
                  have EX17 := Lib.hid (EX15.out.nx b1517)
                  go_wp2_with fail
                  go_roundw
                  case rel => exact ⟨j + 1, wn + 1, A9, c9, wl ++ [x9], A14, n14, c14, M14, by omega, by go_num, rfl, by omega, by omega, L17, C17, OKL15, FR15, HE15, EW17, EX17, b17⟩
                  case measure => simp [intOf]; omega
                · rw [hf] at FD16
                  have FD16 := Lib.hid FD16
                  rw [HO3.out] at hm
                  subst hm
                  obtain ⟨rfl, hn16, hr16⟩ : er = 0 ∧ Hid (n16 = z2.v.length) ∧ Hid (Rd w16 1 A16 n16 c16 (bv z2.v)) := by
                    rcases res with ⟨_, hd, _⟩ | ⟨h1, d, hd, h2, h3⟩
                    · cases hd
                    · obtain rfl : z2.v = d := by cases hd; rfl
                      exact ⟨h1, h2, h3⟩
                  clear res
                  have hq2 : q2 < n14 := by
                    have h1 := (EM16.out.cr bw16).len
                    have h2 := (List.getElem?_eq_some_iff.1 hz2).1
                    rw [List.length_map] at h2; omega
                  have q2d : decide ((q2 : Int) ≥ 0) = true := decide_eq_true (by omega)
                  have q2e : decide ((q2 : Int) < 0) = false := decide_eq_false (by omega)
                  go_wp2_with fail
                  go_at_call 14
                  refine FD16.out.mono ?_
                  rintro e W17 ⟨rfl, nq, hW17⟩
                  have b1617 : Below w16.heap.size w16 W17 := hW17 ▸ (bdrewN (Below.refl _ _))
                  clear hW17
                  have b1517 := b16.trans (b1617.mono b16.size)
                  have b17 := b15.trans (b1517.mono b15.size)
                  have bw17 := bw15.trans (b1517.mono bw15.size)
                  have L17 := Lib.hid (L15.out.nx b1517)
                  have C17 := Lib.hid (C15.out.nx b1517)
                  have EW17 := Lib.hid (EW15.out.nx b1517)
                  have EX17 := Lib.hid (EX15.out.nx b1517)
                  obtain ⟨gg, oo, yy, eA14, hgg, hyy, e0, e1, e2⟩ := (EW17.out.cr bw17).item hq2
                  have DYY := Lib.hid ((EW17.out.dat yy (List.mem_of_getElem? hyy)))
                  have YZ : Hid (yy.ch = z2) := Lib.hid (by
                    rw [List.getElem?_map, hyy] at hz2; exact Option.some.inj hz2)
                  have R17 := Lib.hid (hr16.out.nx b1617)
                  subst eA14
                  have EQ17 : Hid (Calls Tryd.prog 16 #[.slice A16 n16 c16, .slice yy.B yy.v.length yy.d] W17 fun e w' => e = .returned (.bool true) ∧ W17 = w') := Lib.hid (by
                    have h := Pg.Equal_any W17 R17 (Lib.hid ((DYY.out.nx bw17).v))
                    rw [← YZ.out, show yy.ch.v = yy.v from rfl, Pg.eqB_self] at h
                    exact h)
                  clear hyy hz2 v0 v1 v2
                  go_wp2_with fail
                  go_at_call 16
                  refine EQ17.out.mono ?_
                  rintro e w' ⟨rfl, rfl⟩
                  go_wp2_with fail
                  go_roundw
                  case rel => exact ⟨j + 1, wn + 1, A9, c9, wl ++ [x9], _, n14, c14, M14, by omega, by go_num, rfl, by omega, by omega, L17, C17, OKL15, FR15, HE15, EW17, EX17, b17⟩
                  case measure => simp [intOf]; omega
          | false =>
            have HDEL : Hid (y.del = false) := Lib.hid hdel
            rw [hdel] at v2 V
            have PT := Lib.hid (sPut_ok (last := (n : Int)) W12 G12 (Lib.hid S12.out.st) C12 WV K12 P12 KV)
            clear hdel
            go_wp2_with fail
            go_at_call 19
            refine PT.out.mono ?_
            rintro e w9 hpost
            rcases hpost with ⟨⟨h100, _⟩ | ⟨h100, A9, c9, x9, rfl, xch, co9, fr9⟩, b9⟩
            · omega
            · have XC : Hid (x9.ch = y.ch) := Lib.hid (by rw [xch.out]; exact Ch.ext' rfl rfl HDEL.out.symm)
              clear hf1 hf2
              have T9 := Lib.hid (T.out.nx b9)
              have v9 := v12.trans (b9.mono v12.size)
              have b13 : Below wr.heap.size wr ((((((w9.setCell ⟨q14, 0, none⟩ (.slice none 0 0)).setCell ⟨q14, 1, none⟩ (.int .i64 (-1))).setCell ⟨q14, 2, none⟩ (.slice none 0 0)).setCell ⟨q14, 3, none⟩ (.slice LA ln lc)).setCell ⟨q14, 4, none⟩ (.int .i64 (n : Int))).setCell ⟨q14, 5, none⟩ (.slice A9 (wn + 1) c9)) := res6_below v9 (by omega)
              have Q13 := Lib.hid (res6_cells T9.out rfl (.slice none 0 0) (.int .i64 (-1)) (.slice none 0 0) (.slice LA ln lc) (.int .i64 (n : Int)) (.slice A9 (wn + 1) c9))
              have V13 := Lib.hid (bx_res6 (R := q14) (a := .slice none 0 0) (b := .int .i64 (-1)) (d := .slice none 0 0) (e := .slice LA ln lc) (f := .int .i64 (n : Int)) (g := .slice A9 (wn + 1) c9) ((V.out.nx v1012).nx b9) (by omega))
              have O13 := Lib.hid (own_res6 (R := q14) (a := .slice none 0 0) (b := .int .i64 (-1)) (d := .slice none 0 0) (e := .slice LA ln lc) (f := .int .i64 (n : Int)) (g := .slice A9 (wn + 1) c9) co9.out.own tlt)
              have D13 := Lib.hid (dt_res6 (R := q14) (a := .slice none 0 0) (b := .int .i64 (-1)) (d := .slice none 0 0) (e := .slice LA ln lc) (f := .int .i64 (n : Int)) (g := .slice A9 (wn + 1) c9) (co9.out.dat x9 (by simp)) fun g e => by have := fr9.out g e; omega)
              clear u0 u1 u2 u3 u4 u5 v0 v1 v2 t0 t1 t2 t3 t4 t5
              have t0 := T9.out.at_ 0 (by simp)
              have t1 := T9.out.at_ 1 (by simp)
              have t2 := T9.out.at_ 2 (by simp)
              have t3 := T9.out.at_ 3 (by simp)
              have t4 := T9.out.at_ 4 (by simp)
              have t5 := T9.out.at_ 5 (by simp)
              simp only [List.getElem?_cons_succ, List.getElem?_cons_zero] at t0 t1 t2 t3 t4 t5
              have f0 := T9.out.fz 0 (by simp)
              have f1 := T9.out.fz 1 (by simp)
              have f2 := T9.out.fz 2 (by simp)
              have f3 := T9.out.fz 3 (by simp)
              have f4 := T9.out.fz 4 (by simp)
              have f5 := T9.out.fz 5 (by simp)
              go_upto_region 22 with fail
              obtain ⟨W13, hW13⟩ : ∃ u, ((((((w9.setCell ⟨q14, 0, none⟩ (.slice none 0 0)).setCell ⟨q14, 1, none⟩ (.int .i64 (-1))).setCell ⟨q14, 2, none⟩ (.slice none 0 0)).setCell ⟨q14, 3, none⟩ (.slice LA ln lc)).setCell ⟨q14, 4, none⟩ (.int .i64 (n : Int))).setCell ⟨q14, 5, none⟩ (.slice A9 (wn + 1) c9)) = u := ⟨_, rfl⟩
              rw [hW13] at b13 Q13 V13 O13 D13 ⊢
              clear hW13 t0 t1 t2 t3 t4 t5 f0 f1 f2 f3 f4 f5
              have U13 := Lib.hid (U6.out.nx b13)
              have EM13 := Lib.hid (EM.out.nx b13)
              have EB13 := Lib.hid (EB.out.nx b13)
              have C13 := Lib.hid (C6.out.nx b13)
              have b713 := b7r.trans (b13.mono b7r.size)
              have bw13 := bw7.trans (b713.mono bw7.size)
              have KY13 : Hid (Dt W13 ⟨y.A, y.c, y.k, y.B, y.d, y.v, y.del⟩) := Lib.hid (DY.out.nx bw13)
              have AP : Hid (∀ U, Below W13.heap.size W13 U → Calls Tryd.prog 20 #[.slice MA mn mc, .agg #[.slice y.A kn y.c, .slice y.B vn y.d, .bool false]] U (fun e w' => ∃ A' n' c' M', e = .returned (.slice A' n' c') ∧ n' ≤ mn + 1 ∧ Hid (M'.map CV.ch = apl (M.map CV.ch) y.ch) ∧ Hid (Ew w w' W8.heap.size A' n' c' M') ∧ Below U.heap.size U w' ∧ Below W13.heap.size W13 w')) := Lib.hid fun U hU => by
                have h := rApply_any U (Lib.hid ((EM13.out.nx hU).cr (bw13.trans (hU.mono bw13.size)))) (Lib.hid (KY13.out.nx hU)) HKN HVN (by omega)
                rw [HDEL.out] at h
                refine h.mono ?_
                rintro e w' ⟨A', n', c', M', h1, h2, h3, h4, h5, h6⟩
                refine ⟨A', n', c', M', h1, h2, Lib.hid ?_, Lib.hid ⟨own_base h4.out (by have := b13.size; have := hU.size; omega), fun z hz => ?_⟩, h6, hU.trans (h6.mono hU.size)⟩
                · rw [h3.out]; congr 1; exact Ch.ext' rfl rfl HDEL.out.symm
                · rcases h5.out z hz with h | rfl
                  · exact EM13.out.dat z h
                  · refine ⟨DY.out.k, DY.out.v⟩
              have KK : Hid (∀ U, Below W13.heap.size W13 U → Bx U q14 [.slice none 0 0, .int .i64 (-1), .slice none 0 0, .slice LA ln lc, .int .i64 (n : Int), .slice A9 (wn + 1) c9] ∧ Bx U q12 [.slice y.A kn y.c, .slice y.B vn y.d, .bool false] ∧ Bx U q7 [.slice none 0 0, .int .i64 (-1), .slice none 0 0, .slice LA ln lc, .int .i64 (n : Int), .slice WA wn wc]) := Lib.hid fun U hU => ⟨Q13.out.nx hU, V13.out.nx hU, U13.out.nx hU⟩
              have VD : Hid (Below W13.heap.size W13 W13.drew) := Lib.hid (Below.refl _ _).drew
              have q0 := Q13.out.at_ 0 (by simp)
              have q1 := Q13.out.at_ 1 (by simp)
              have q2 := Q13.out.at_ 2 (by simp)
              have q3 := Q13.out.at_ 3 (by simp)
              have q4 := Q13.out.at_ 4 (by simp)
              have q5 := Q13.out.at_ 5 (by simp)
              simp only [List.getElem?_cons_succ, List.getElem?_cons_zero] at q0 q1 q2 q3 q4 q5
              have u0 := U13.out.at_ 0 (by simp)
              have u1 := U13.out.at_ 1 (by simp)
              have u2 := U13.out.at_ 2 (by simp)
              have u3 := U13.out.at_ 3 (by simp)
              have u4 := U13.out.at_ 4 (by simp)
              have u5 := U13.out.at_ 5 (by simp)
              simp only [List.getElem?_cons_succ, List.getElem?_cons_zero] at u0 u1 u2 u3 u4 u5
              have f0 := U13.out.fz 0 (by simp)
              have f1 := U13.out.fz 1 (by simp)
              have f2 := U13.out.fz 2 (by simp)
              have f3 := U13.out.fz 3 (by simp)
              have f4 := U13.out.fz 4 (by simp)
              have f5 := U13.out.fz 5 (by simp)
              have v0 := V13.out.at_ 0 (by simp)
              have v1 := V13.out.at_ 1 (by simp)
              have v2 := V13.out.at_ 2 (by simp)
              simp only [List.getElem?_cons_succ, List.getElem?_cons_zero] at v0 v1 v2
              go_upto_region 24 with fail
              go_region_law
                (first
                  | (go_simp
                     go_at_call 20
                     refine (AP.out _ VD.out).mono ?_
                     rintro e w14 ⟨A14, n14, c14, M14, rfl, hn14, HM14, EM14, b14, b1314⟩
                     obtain ⟨Q14, V14, U14⟩ := KK.out _ b1314
                     have a0 := Q14.at_ 0 (by simp)
                     have a1 := Q14.at_ 1 (by simp)
                     have a2 := Q14.at_ 2 (by simp)
                     have a3 := Q14.at_ 3 (by simp)
                     have a4 := Q14.at_ 4 (by simp)
                     have a5 := Q14.at_ 5 (by simp)
                     simp only [List.getElem?_cons_succ, List.getElem?_cons_zero] at a0 a1 a2 a3 a4 a5
                     have b0 := V14.at_ 0 (by simp)
                     have b1 := V14.at_ 1 (by simp)
                     have b2 := V14.at_ 2 (by simp)
                     simp only [List.getElem?_cons_succ, List.getElem?_cons_zero] at b0 b1 b2
                     have c0 := U14.at_ 0 (by simp)
                     have c1 := U14.at_ 1 (by simp)
                     have c2 := U14.at_ 2 (by simp)
                     have c3 := U14.at_ 3 (by simp)
                     have c4 := U14.at_ 4 (by simp)
                     have c5 := U14.at_ 5 (by simp)
                     simp only [List.getElem?_cons_succ, List.getElem?_cons_zero] at c0 c1 c2 c3 c4 c5
                     have g0 := U14.fz 0 (by simp)
                     have g1 := U14.fz 1 (by simp)
                     have g2 := U14.fz 2 (by simp)
                     have g3 := U14.fz 3 (by simp)
                     have g4 := U14.fz 4 (by simp)
                     have g5 := U14.fz 5 (by simp)
                     have B14 := Lib.hid b14
                     have B1314 := Lib.hid b1314
                     clear b14 b1314
                     dsimp only))
              all_goals
                have B714 := b713.trans (B1314.out.mono b713.size)
                have L15 := Lib.hid (res6_cells U14 rfl (.slice none 0 0) (.int .i64 (-1)) (.slice none 0 0) (.slice LA ln lc) (.int .i64 (n : Int)) (.slice A9 (wn + 1) c9))
                have q7w : w7.heap.size ≤ q7 := by omega
                have q712s : q7 < W12.heap.size := by omega
                have q7w8 : q7 < W8.heap.size := by omega
                have b15 := res6_below (a := .slice none 0 0) (b := .int .i64 (-1)) (c := .slice none 0 0) (d := .slice LA ln lc) (e := .int .i64 (n : Int)) (g := .slice A9 (wn + 1) c9) B714 q7w
                have O15 := Lib.hid (own_res6 (R := q7) (a := .slice none 0 0) (b := .int .i64 (-1)) (d := .slice none 0 0) (e := .slice LA ln lc) (f := .int .i64 (n : Int)) (g := .slice A9 (wn + 1) c9) (own_below O13.out B1314.out) q712s)
                have FR15 : Hid (∀ y ∈ wl ++ [x9], ∀ g, blk y.A = some g ∨ blk y.B = some g → q7 < g) := Lib.hid fun y hy g e => by
                  rcases List.mem_append.1 hy with hy | hy
                  · exact FR.out y hy g e
                  · obtain rfl := List.mem_singleton.1 hy
                    have := fr9.out g e; omega
                have D15 := Lib.hid (fun y (hy : y ∈ wl ++ [x9]) => dt_res6 (R := q7) (a := .slice none 0 0) (b := .int .i64 (-1)) (d := .slice none 0 0) (e := .slice LA ln lc) (f := .int .i64 (n : Int)) (g := .slice A9 (wn + 1) c9) (W := w14) (x := y) (by
                  rcases List.mem_append.1 hy with hy | hy
                  · exact (C13.out.dat y hy).nx B1314.out
                  · obtain rfl := List.mem_singleton.1 hy
                    exact D13.out.nx B1314.out) fun g e => by have := FR15.out y hy g e; omega)
                have EM15 := Lib.hid (own_res6 (R := q7) (a := .slice none 0 0) (b := .int .i64 (-1)) (d := .slice none 0 0) (e := .slice LA ln lc) (f := .int .i64 (n : Int)) (g := .slice A9 (wn + 1) c9) EM14.out.own q7w8)
                have EB15 := Lib.hid (own_res6 (R := q7) (a := .slice none 0 0) (b := .int .i64 (-1)) (d := .slice none 0 0) (e := .slice LA ln lc) (f := .int .i64 (n : Int)) (g := .slice A9 (wn + 1) c9) (EB13.out.nx B1314.out).own q7w8)
                have OKL15 : Hid (∀ y ∈ wl ++ [x9], y.ch.ok = true) := Lib.hid fun z hz => by
                  rcases List.mem_append.1 hz with hz | hz
                  · exact OKL.out z hz
                  · obtain rfl := List.mem_singleton.1 hz
                    rw [XC.out]; exact OKY.out
                have HE15 : Hid (∀ key, mfd (M14.map CV.ch) key = app (app (fun _ => none) Ts.flatten) ((wl ++ [x9]).map CV.ch) key) := Lib.hid fun key => by
                  have h : mfd (M.map CV.ch) = app (app (fun _ => none) Ts.flatten) (wl.map CV.ch) := funext HE.out
                  rw [HM14.out, mfd_apl, List.map_append, List.map_singleton, app_snoc, XC.out, h]
                have V15 := Lib.hid (bx_res6 (R := q7) (a := .slice none 0 0) (b := .int .i64 (-1)) (d := .slice none 0 0) (e := .slice LA ln lc) (f := .int .i64 (n : Int)) (g := .slice A9 (wn + 1) c9) V14 (by omega))
                obtain ⟨W15, hW15⟩ : ∃ u, ((((((w14.setCell ⟨q7, 0, none⟩ (.slice none 0 0)).setCell ⟨q7, 1, none⟩ (.int .i64 (-1))).setCell ⟨q7, 2, none⟩ (.slice none 0 0)).setCell ⟨q7, 3, none⟩ (.slice LA ln lc)).setCell ⟨q7, 4, none⟩ (.int .i64 (n : Int))).setCell ⟨q7, 5, none⟩ (.slice A9 (wn + 1) c9)) = u := ⟨_, rfl⟩
                rw [hW15] at b15 L15 O15 D15 EM15 EB15 V15 ⊢
                clear hW15
                have bw15 := bw7.trans (b15.mono bw7.size)
                have C15 : Hid (Cr W15 A9 (wn + 1) c9 (wl ++ [x9])) := Lib.hid ⟨Rd.of_own O15.out, D15.out⟩
                have EW15 : Hid (Ew w W15 W8.heap.size A14 n14 c14 M14) := Lib.hid ⟨EM15.out, EM14.out.dat⟩
                have EX15 : Hid (Ew w W15 W8.heap.size BA bn bc B) := Lib.hid ⟨EB15.out, EB13.out.dat⟩
                have K15 : Hid (Rd W15 1 y.A kn y.c (bv y.k)) := Lib.hid (by rw [HKN.out]; exact (DY.out.nx bw15).k)
                have S15 := Lib.hid (S4.out.nx b15)
                have WV15 := Lib.hid (S15.out.wvd (l := wl ++ [x9]) (by have := C15.out.len; omega) OKL15.out)
                obtain ⟨o2, ho2⟩ : ∃ o2, mfd (M14.map CV.ch) y.k = o2 := ⟨_, rfl⟩
                have HO2 : Hid (app (fun _ => none) (Ts.flatten ++ (wl ++ [x9]).map CV.ch) y.k = o2) := Lib.hid (by rw [app_app, ← HE15.out, ho2])
                have GT := sGet_ok (last := (n : Int)) W15 (Lib.hid (G.out.nx bw15)) (Lib.hid S15.out.st) (Lib.hid S15.out.e) (Lib.hid S15.out.tr) C15 WV15 K15 KV.out.1
                rw [HO2.out] at GT
                have GT := Lib.hid GT
                have HO3 := Lib.hid ho2
                clear ho2 Q14 V14 U14 a0 a1 a2 a3 a4 a5 b0 b1 b2 c0 c1 c2 c3 c4 c5 g0 g1 g2 g3 g4 g5
                have u0 := L15.out.at_ 0 (by simp)
                have u1 := L15.out.at_ 1 (by simp)
                have u2 := L15.out.at_ 2 (by simp)
                have u3 := L15.out.at_ 3 (by simp)
                have u4 := L15.out.at_ 4 (by simp)
                have u5 := L15.out.at_ 5 (by simp)
                simp only [List.getElem?_cons_succ, List.getElem?_cons_zero] at u0 u1 u2 u3 u4 u5
                have v0 := V15.out.at_ 0 (by simp)
                have v1 := V15.out.at_ 1 (by simp)
                have v2 := V15.out.at_ 2 (by simp)
                simp only [List.getElem?_cons_succ, List.getElem?_cons_zero] at v0 v1 v2
                go_wp2_with fail
                go_at_call 21
                refine GT.out.mono ?_
                rintro e w16 ⟨A16, n16, c16, er, rfl, res, b16⟩
                have V16 := Lib.hid (V15.out.nx b16)
                have EM16 := Lib.hid (EW15.out.nx b16)
                have bw16 := bw15.trans (b16.mono bw15.size)
                have FD16 := rFind_any w16 (Lib.hid (EM16.out.cr bw16)) (Lib.hid (K15.out.nx b16))
                clear u0 u1 u2 u3 u4 u5 v0 v1 v2
                have v0 := V16.out.at_ 0 (by simp)
                have v1 := V16.out.at_ 1 (by simp)
                have v2 := V16.out.at_ 2 (by simp)
                simp only [List.getElem?_cons_succ, List.getElem?_cons_zero] at v0 v1 v2
                rcases fnd_cases (M14.map CV.ch) y.k with ⟨hf, hm⟩ | ⟨q2, z2, hf, hz2, hm⟩
                · rw [hf] at FD16
                  have FD16 := Lib.hid FD16
                  rw [HO3.out] at hm
                  subst hm
                  obtain ⟨rfl, rfl⟩ : er = 7 ∧ n16 = 0 := by
                    rcases res with ⟨h1, _, h3⟩ | ⟨_, d, hd, _⟩
                    · exact ⟨h1, h3⟩
                    · cases hd
                  go_wp2_with fail
                  go_at_call 14
                  refine FD16.out.mono ?_
                  rintro e W17 ⟨rfl, nq, hW17⟩
                  have b1517 : Below W15.heap.size W15 W17 := hW17 ▸ (bdrewN b16)
                  clear hW17
                  have b17 := b15.trans (b1517.mono b15.size)
                  have L17 := Lib.hid (L15.out.nx b1517)
                  have C17 := Lib.hid (C15.out.nx b1517)
                  have EW17 := Lib.hid (EW15.out.nx b1517)
                  have EX17 := Lib.hid (EX15.out.nx b1517)
                  go_wp2_with fail
                  go_roundw
                  case rel => exact ⟨j + 1, wn + 1, A9, c9, wl ++ [x9], A14, n14, c14, M14, by omega, by go_num, rfl, by omega, by omega, L17, C17, OKL15, FR15, HE15, EW17, EX17, b17⟩
                  case measure => simp [intOf]; omega
                · rw [hf] at FD16
                  have FD16 := Lib.hid FD16
                  rw [HO3.out] at hm
                  subst hm
                  obtain ⟨rfl, hn16, hr16⟩ : er = 0 ∧ Hid (n16 = z2.v.length) ∧ Hid (Rd w16 1 A16 n16 c16 (bv z2.v)) := by
                    rcases res with ⟨_, hd, _⟩ | ⟨h1, d, hd, h2, h3⟩
                    · cases hd
                    · obtain rfl : z2.v = d := by cases hd; rfl
                      exact ⟨h1, h2, h3⟩
                  clear res
                  have hq2 : q2 < n14 := by
                    have h1 := (EM16.out.cr bw16).len
                    have h2 := (List.getElem?_eq_some_iff.1 hz2).1
                    rw [List.length_map] at h2; omega
                  have q2d : decide ((q2 : Int) ≥ 0) = true := decide_eq_true (by omega)
                  have q2e : decide ((q2 : Int) < 0) = false := decide_eq_false (by omega)
                  go_wp2_with fail
                  go_at_call 14
                  refine FD16.out.mono ?_
                  rintro e W17 ⟨rfl, nq, hW17⟩
                  have b1617 : Below w16.heap.size w16 W17 := hW17 ▸ (bdrewN (Below.refl _ _))
                  clear hW17
                  have b1517 := b16.trans (b1617.mono b16.size)
                  have b17 := b15.trans (b1517.mono b15.size)
                  have bw17 := bw15.trans (b1517.mono bw15.size)
                  have L17 := Lib.hid (L15.out.nx b1517)
                  have C17 := Lib.hid (C15.out.nx b1517)
                  have EW17 := Lib.hid (EW15.out.nx b1517)
                  have EX17 := Lib.hid (EX15.out.nx b1517)
                  obtain ⟨gg, oo, yy, eA14, hgg, hyy, e0, e1, e2⟩ := (EW17.out.cr bw17).item hq2
                  have DYY := Lib.hid ((EW17.out.dat yy (List.mem_of_getElem? hyy)))
                  have YZ : Hid (yy.ch = z2) := Lib.hid (by
                    rw [List.getElem?_map, hyy] at hz2; exact Option.some.inj hz2)
                  have R17 := Lib.hid (hr16.out.nx b1617)
                  subst eA14
                  have EQ17 : Hid (Calls Tryd.prog 16 #[.slice A16 n16 c16, .slice yy.B yy.v.length yy.d] W17 fun e w' => e = .returned (.bool true) ∧ W17 = w') := Lib.hid (by
                    have h := Pg.Equal_any W17 R17 (Lib.hid ((DYY.out.nx bw17).v))
                    rw [← YZ.out, show yy.ch.v = yy.v from rfl, Pg.eqB_self] at h
                    exact h)
                  clear hyy hz2 v0 v1 v2
                  go_wp2_with fail
                  go_at_call 16
                  refine EQ17.out.mono ?_
                  rintro e w' ⟨rfl, rfl⟩
                  go_wp2_with fail
                  go_roundw
                  case rel => exact ⟨j + 1, wn + 1, A9, c9, wl ++ [x9], _, n14, c14, M14, by omega, by go_num, rfl, by omega, by omega, L17, C17, OKL15, FR15, HE15, EW17, EX17, b17⟩
                  case measure => simp [intOf]; omega
        · obtain rfl : j = en := by omega
          have d1 : decide ((j : Int) < (j : Int)) = false := decide_eq_false (by omega)
          have S20 := Lib.hid (S4.out.nx b7r)
          have Z20 := Lib.hid (Z.out.nx b7r)
          have CM := Lib.hid (Stt.commit S20 (Lib.hid (G.out.nx bw6)) C6 (by omega) OKL (by omega))
          have u0 := U6.out.at_ 0 (by simp)
          have u1 := U6.out.at_ 1 (by simp)
          have u2 := U6.out.at_ 2 (by simp)
          have u3 := U6.out.at_ 3 (by simp)
          have u4 := U6.out.at_ 4 (by simp)
          have u5 := U6.out.at_ 5 (by simp)
          simp only [List.getElem?_cons_succ, List.getElem?_cons_zero] at u0 u1 u2 u3 u4 u5
          go_wp2_with fail
          go_at_call 22
          refine CM.out.mono ?_
          rintro e w20 ⟨LB, lbn, lbc, rfl, S21, O21, b20⟩
          clear CM u0 u1 u2 u3 u4 u5
          obtain ⟨q19, hq19⟩ : ∃ q19, w20.heap.size = q19 := ⟨_, rfl⟩
          obtain ⟨W21, hW21⟩ : ∃ W21, w20.alloc (.cells #[.slice none 0 0, .int .i64 (-1), .slice none 0 0, .slice LB lbn lbc, .int .i64 ((n : Int) + 1)] 31) = W21 := ⟨_, rfl⟩
          have b21 : Below w20.heap.size w20 W21 := hW21 ▸ bal _ _
          have P : Hid (Bx W21 q19 [.slice none 0 0, .int .i64 (-1), .slice none 0 0, .slice LB lbn lbc, .int .i64 ((n : Int) + 1)]) := hW21 ▸ Lib.hid (Bx.put _ hq19 #[.slice none 0 0, .int .i64 (-1), .slice none 0 0, .slice LB lbn lbc, .int .i64 ((n : Int) + 1)] 31)
          have TP : Hid (Ty W21 q19 31) := hW21 ▸ hq19 ▸ Lib.hid (Ty.new _ _ _)
          have HW21 := Lib.hid hW21
          clear hW21
          have v21 := b20.trans (b21.mono b20.size)
          have S21 := Lib.hid (S21.out.nx b21)
          have U21 := Lib.hid (U6.out.nx v21)
          have CM := Lib.hid (Stt.commit (Lib.hid (S20.out.nx v21)) (Lib.hid (G.out.nx (bw6.trans (v21.mono bw6.size)))) (Lib.hid (C6.out.nx v21)) (by omega) OKL (by omega))
          go_upto_region 31 with fail
          rw [HW21.out]
          have u0 := U21.out.at_ 0 (by simp)
          have u1 := U21.out.at_ 1 (by simp)
          have u2 := U21.out.at_ 2 (by simp)
          have u3 := U21.out.at_ 3 (by simp)
          have u4 := U21.out.at_ 4 (by simp)
          have u5 := U21.out.at_ 5 (by simp)
          simp only [List.getElem?_cons_succ, List.getElem?_cons_zero] at u0 u1 u2 u3 u4 u5
          go_wp2_with fail
          go_at_call 22
          refine CM.out.mono ?_
          rintro e w22 ⟨LC, lcn, lcc, rfl, S22, O22, b22⟩
          clear CM u0 u1 u2 u3 u4 u5
          obtain ⟨q21, hq21⟩ : ∃ q21, w22.heap.size = q21 := ⟨_, rfl⟩
          obtain ⟨W23, hW23⟩ : ∃ W23, w22.alloc (.cells #[.slice none 0 0, .int .i64 (-1), .slice none 0 0, .slice LC lcn lcc, .int .i64 ((n : Int) + 1)] 31) = W23 := ⟨_, rfl⟩
          have b23 : Below w22.heap.size w22 W23 := hW23 ▸ bal _ _
          have R : Hid (Bx W23 q21 [.slice none 0 0, .int .i64 (-1), .slice none 0 0, .slice LC lcn lcc, .int .i64 ((n : Int) + 1)]) := hW23 ▸ Lib.hid (Bx.put _ hq21 #[.slice none 0 0, .int .i64 (-1), .slice none 0 0, .slice LC lcn lcc, .int .i64 ((n : Int) + 1)] 31)
          have TR : Hid (Ty W23 q21 31) := hW23 ▸ hq21 ▸ Lib.hid (Ty.new _ _ _)
          have HW23 := Lib.hid hW23
          clear hW23
          have v2223 := b22.trans (b23.mono b22.size)
          have v23 := v21.trans (v2223.mono v21.size)
          have S23 := Lib.hid (S22.out.nx b23)
          have P23 := Lib.hid (P.out.nx v2223)
          have T23 := Lib.hid (S21.out.nx v2223)
          have bw23 := bw6.trans (v23.mono bw6.size)
          have HX23 := Lib.hid (HX.out.nx bw23)
          have CL := Lib.hid (xclone_any W23 (Lib.hid HX23.out.row) (xvs_one _) (by omega))
          go_upto_region 32 with fail
          rw [HW23.out]
          obtain ⟨i1, hi1, hc0, hc1, hc2⟩ := info_parts info_changes
          go_wp2_with fail
          go_at_call 23
          refine CL.out.mono ?_
          rintro e w24 ⟨CA, cc, rfl, own24, b24⟩
          have s24 := b24.size
          go_wp2_with (at_builtin; apply hold)
          unfold Hold
          refine wpList_app _ rfl (.tmp 159) (.tmp 161) 22 rfl W23.heap.size 36 i1 (.slice none 0 0) 1 24 Tryd.underlying22 hi1 hc0 hc1 hc2 rfl (by omega) (by rfl) (own_below own24.out (bal _ _)) (by rfl) (Rd.lit w24 _ 1 #[.slice E j ec] 1 (by omega) rfl) (by intro u hu; obtain rfl := List.mem_singleton.1 hu; rfl) (by omega) (by omega) (by simp; omega) ?_
          intro CA4 cc4 W25 own25 g25
          have b25 : Below W23.heap.size W23 W25 := g25.low (bel_alloc b24 (Nat.le_refl _) _) (by simp; omega) fun q e => (own_blk_le own24.out e).1
          have v25 := v23.trans (b25.mono v23.size)
          have bw25 := bw23.trans (b25.mono bw23.size)
          have AX : Hid (Xr W25 CA4 (n + 1) cc4 (X ++ [⟨E, ec, M0⟩])) := Lib.hid ⟨by
            have e : xvs (X ++ [⟨E, ec, M0⟩]) = xvs X ++ [.slice E j ec] := by simp [xvs, XV.v, NC.out]
            rw [e]; exact Rd.of_own own25, fun x hx => by
            rcases List.mem_append.1 hx with hx | hx
            · exact (HX.out.dat x hx).nx bw25
            · obtain rfl := List.mem_singleton.1 hx
              show Cr W25 E M0.length ec M0
              rw [← NC.out]; exact HC.out.nx bw25⟩
          have SMA : Hid (∀ x ∈ X ++ [(⟨E, ec, M0⟩ : XV)], x.l.length ≤ 12 ∧ ∀ y ∈ x.l, y.ch.ok = true) := Lib.hid fun x hx => by
            rcases List.mem_append.1 hx with hx | hx
            · exact SM.out x hx
            · obtain rfl := List.mem_singleton.1 hx
              exact SM2.out
          have Z25 := Lib.hid (Z20.out.nx v25)
          have P25 := Lib.hid (P23.out.nx b25)
          have R25 := Lib.hid (R.out.nx b25)
          have S25 := Lib.hid (S20.out.nx v25)
          have T25 := Lib.hid (T23.out.nx b25)
          have C25 := Lib.hid (S23.out.nx b25)
          have G25 := Lib.hid (G.out.nx bw25)
          have EBc := Lib.hid ((EB.out.nx v25).cr bw25)
          have EMc := Lib.hid ((EM.out.nx v25).cr bw25)
          have HMc : Hid (∀ key, mfd (M.map CV.ch) key = app (fun _ => none) (Ts ++ [wl.map CV.ch]).flatten key) := Lib.hid fun key => by rw [HE.out key, List.flatten_append, app_app]; simp
          have EQ : Hid (Calls Tryd.prog 16 #[.slice LB lbn lbc, .slice LC lcn lcc] W25 fun e w' => e = .returned (.bool true) ∧ W25 = w') := Lib.hid (by
            have h := Pg.Equal_any W25 (Lib.hid T25.out.st.lg) (Lib.hid C25.out.st.lg)
            rw [Pg.eqB_self] at h
            exact h)
          have R1 : Hid (∀ U, Below W25.heap.size W25 U → Calls Tryd.prog 11 #[.agg #[.slice none 0 0, .int .i64 (-1), .slice none 0 0, .slice LA ln lc, .int .i64 (n : Int)], .slice BA bn bc, .slice CA4 (n + 1) cc4] U (fun e w' => e = .returned (.bool true) ∧ Below W25.heap.size W25 w')) := Lib.hid fun U hU =>
            (reads_any U (Lib.hid (G25.out.nx hU)) (Lib.hid (S25.out.nx hU)) (Lib.hid (EBc.out.nx hU)) HB0 (Lib.hid (AX.out.nx hU)) SMA).mono fun e w' ⟨h1, h2⟩ => ⟨h1, hU.trans (h2.mono hU.size)⟩
          have R2 : Hid (∀ U, Below W25.heap.size W25 U → Calls Tryd.prog 11 #[.agg #[.slice none 0 0, .int .i64 (-1), .slice none 0 0, .slice LB lbn lbc, .int .i64 ((n : Int) + 1)], .slice MA mn mc, .slice CA4 (n + 1) cc4] U (fun e w' => e = .returned (.bool true) ∧ Below W25.heap.size W25 w')) := Lib.hid fun U hU =>
            (reads_any U (Lib.hid (G25.out.nx hU)) (Lib.hid (T25.out.nx hU)) (Lib.hid (EMc.out.nx hU)) HMc (Lib.hid (AX.out.nx hU)) SMA).mono fun e w' ⟨h1, h2⟩ => ⟨h1, hU.trans (h2.mono hU.size)⟩
          have bb := Below.refl W25.heap.size W25
          clear own25 g25 hi1 hc0 hc1 hc2
          have z0 := Z25.out.at_ 0 (by simp)
          have z1 := Z25.out.at_ 1 (by simp)
          have z2 := Z25.out.at_ 2 (by simp)
          have z3 := Z25.out.at_ 3 (by simp)
          have z4 := Z25.out.at_ 4 (by simp)
          simp only [List.getElem?_cons_succ, List.getElem?_cons_zero] at z0 z1 z2 z3 z4
          have p0 := P25.out.at_ 0 (by simp)
          have p1 := P25.out.at_ 1 (by simp)
          have p2 := P25.out.at_ 2 (by simp)
          have p3 := P25.out.at_ 3 (by simp)
          have p4 := P25.out.at_ 4 (by simp)
          simp only [List.getElem?_cons_succ, List.getElem?_cons_zero] at p0 p1 p2 p3 p4
          have r0 := R25.out.at_ 0 (by simp)
          have r1 := R25.out.at_ 1 (by simp)
          have r2 := R25.out.at_ 2 (by simp)
          have r3 := R25.out.at_ 3 (by simp)
          have r4 := R25.out.at_ 4 (by simp)
          simp only [List.getElem?_cons_succ, List.getElem?_cons_zero] at r0 r1 r2 r3 r4
          go_wp2_with fail
          go_at_call 16
          refine EQ.out.mono ?_
          rintro e w26 ⟨rfl, rfl⟩
          go_wp2_with fail
          go_at_call 11
          refine (R1.out _ bb).mono ?_
          rintro e w27 ⟨rfl, b27⟩
          have Z27 := Lib.hid (Z25.out.nx b27)
          have P27 := Lib.hid (P25.out.nx b27)
          clear z0 z1 z2 z3 z4 p0 p1 p2 p3 p4 r0 r1 r2 r3 r4
          have z0 := Z27.out.at_ 0 (by simp)
          have z1 := Z27.out.at_ 1 (by simp)
          have z2 := Z27.out.at_ 2 (by simp)
          have z3 := Z27.out.at_ 3 (by simp)
          have z4 := Z27.out.at_ 4 (by simp)
          simp only [List.getElem?_cons_succ, List.getElem?_cons_zero] at z0 z1 z2 z3 z4
          have p0 := P27.out.at_ 0 (by simp)
          have p1 := P27.out.at_ 1 (by simp)
          have p2 := P27.out.at_ 2 (by simp)
          have p3 := P27.out.at_ 3 (by simp)
          have p4 := P27.out.at_ 4 (by simp)
          simp only [List.getElem?_cons_succ, List.getElem?_cons_zero] at p0 p1 p2 p3 p4
          go_wp2_with fail
          go_at_call 11
          refine (R2.out _ b27).mono ?_
          rintro e w28 ⟨rfl, b28⟩
          have Z28 := Lib.hid (Z25.out.nx b28)
          have P28 := Lib.hid (P25.out.nx b28)
          have bF := bw25.trans (b28.mono bw25.size)
          clear z0 z1 z2 z3 z4 p0 p1 p2 p3 p4
          have z0 := Z28.out.at_ 0 (by simp)
          have z1 := Z28.out.at_ 1 (by simp)
          have z2 := Z28.out.at_ 2 (by simp)
          have z3 := Z28.out.at_ 3 (by simp)
          have z4 := Z28.out.at_ 4 (by simp)
          simp only [List.getElem?_cons_succ, List.getElem?_cons_zero] at z0 z1 z2 z3 z4
          have p0 := P28.out.at_ 0 (by simp)
          have p1 := P28.out.at_ 1 (by simp)
          have p2 := P28.out.at_ 2 (by simp)
          have p3 := P28.out.at_ 3 (by simp)
          have p4 := P28.out.at_ 4 (by simp)
          simp only [List.getElem?_cons_succ, List.getElem?_cons_zero] at p0 p1 p2 p3 p4
          go_wp2_with fail
          go_ret
          exact ⟨rfl, bF⟩
end Go.Proofs.YtpmkohnljngbhaaDoor.Sr
