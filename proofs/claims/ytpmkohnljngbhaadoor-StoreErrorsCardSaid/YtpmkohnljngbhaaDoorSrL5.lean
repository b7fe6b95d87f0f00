/- The law: StoreErrors. -/
import Derived.Deep.OwnRows
import Derived.Test.YtpmkohnljngbhaaDoorSrL4
namespace Go.Proofs.YtpmkohnljngbhaaDoor.Sr
set_option linter.unusedVariables false
set_option linter.unusedSimpArgs false
set_option maxRecDepth 1000000
open Go.RowKit Wl Pg
/-- The store that is all zeros. -/
def zilF : FV := ⟨none, 0, [], 0, none, 0, []⟩
theorem zil_sto (w : World) : Sto w zilF [] none 0 0 0 none 0 0 none 0 0 := ⟨Lib.hid rfl, ⟨⟨Rd.nil_ _ _, by simp [zilF]⟩, Rd.nil_ _ _⟩, rfl, Rd.nil_ _ _, by omega⟩
theorem app_rep {b : Ent} {cs : List Ch} {l : List CV} {key val : List UInt8} (hl : l ≠ []) (h : ∀ y ∈ l, y.ch = ⟨key, val, false⟩) : app b (cs ++ l.map CV.ch) key = some val := by
  obtain ⟨l', x, rfl⟩ : ∃ l' x, l = l' ++ [x] := ⟨l.dropLast, l.getLast hl, (List.dropLast_concat_getLast hl).symm⟩
  rw [List.map_append, ← List.append_assoc, List.map_singleton, app_snoc, h x (by simp)]
  simp [step]
theorem mkn (n : Nat) (h : n ≤ 1000) (w : World) : ∃ (w' : World) (A : Option Addr), (Instr.makeSlice 23 (.int .i64 n) (.int .i64 n)).run Tryd.prog w = .ok (.slice A n n) w' ∧ Below w.heap.size w w' :=
  ⟨_, _, run_make_row' (P := Tryd.prog) 23 5 (.int .u8 0) 1 Tryd.underlying23 Pg.info_u8 rfl .i64 .i64 n (by omega) (by omega) w, (Below.refl _ _).alloc (Nat.le_refl _) _⟩
theorem mk121 (w : World) : ∃ (w' : World) (A : Option Addr), (Instr.makeSlice 23 (.int .i64 121) (.int .i64 121)).run Tryd.prog w = .ok (.slice A 121 121) w' ∧ Below w.heap.size w w' := mkn 121 (by omega) w
set_option maxHeartbeats 6400000 in
theorem StoreErrors_walk (A : Option Addr) (n c : Nat) (X : List XV) (K : Option Addr) (kn kc : Nat) (key : List UInt8) (VA : Option Addr) (vn vc : Nat) (val : List UInt8) (nn : Int) (w : World) (G : Hid (Gl w)) (HX : Hid (Xr w A n c X)) (hk : Hid (Rd w 1 K kn kc (bv key))) (hv : Hid (Rd w 1 VA vn vc (bv val))) (nn0 : 0 ≤ nn) (nn1 : nn ≤ 255) :
    Calls Tryd.prog 5 #[.slice A n c, .slice K kn kc, .slice VA vn vc, .int .u8 nn] w fun e w' => e = .returned (.bool true) ∧ Below w.heap.size w w' := by
  have NX := Lib.hid HX.out.len
  have KN := Lib.hid (rd_bytes hk.out)
  have VN := Lib.hid (rd_bytes hv.out)
  have AW := Lib.hid (awake_any w G)
  go_enter Tryd.func5, Tryd.ntmps5
  go_wp2_with fail
  go_at_call 7
  refine AW.out.mono ?_
  rintro e w1 ⟨rfl, bw⟩
  have HX1 := Lib.hid (HX.out.nx bw)
  have SL := small_any w1 HX1
  cases hs : smL X with
  | false =>
    rw [hs] at SL
    have SL := Lib.hid SL
    clear hs
    go_wp2_with fail
    go_at_call 8
    refine SL.out.mono ?_
    rintro e w2 ⟨rfl, b2⟩
    have bF := bw.trans (b2.mono bw.size)
    go_wp2_with fail
    go_ret
    exact ⟨rfl, bF⟩
  | true =>
    rw [hs] at SL
    have SL := Lib.hid SL
    have HS := smL_true hs
    have n6 : n ≤ 6 := by rw [NX.out]; exact HS.1
    have SM := Lib.hid HS.2
    clear hs HS
    go_wp2_with fail
    go_at_call 8
    refine SL.out.mono ?_
    rintro e w2 ⟨rfl, b2⟩
    replace bw := bw.trans (b2.mono bw.size)
    replace HX1 := Lib.hid (HX1.out.nx b2)
    by_cases hkn : kn ≤ 200
    case neg =>
      have d1 : decide ((kn : Int) > 200) = true := decide_eq_true (by omega)
      go_wp2_with fail
      go_ret
      exact ⟨rfl, bw⟩
    have d1 : decide ((kn : Int) > 200) = false := decide_eq_false (by omega)
    by_cases hvn : vn ≤ 200
    case neg =>
      have d2 : decide ((vn : Int) > 200) = true := decide_eq_true (by omega)
      go_wp2_with fail
      go_ret
      exact ⟨rfl, bw⟩
    have d2 : decide ((vn : Int) > 200) = false := decide_eq_false (by omega)
    have MD := Lib.hid (made_any w2 (Lib.hid (G.out.nx bw)) HX1 (by omega) SM)
    go_wp2_with fail
    go_at_call 9
    refine MD.out.mono ?_
    rintro e w3 ⟨LA, ln, lc, rfl, S3, b3⟩
    have eN : Hid (((effs (fun _ => none) (X.map XV.t)).length : Int) = n) := Lib.hid (by rw [effs_len, List.length_map]; have := NX.out; omega)
    rw [eN.out] at S3 ⊢
    obtain ⟨Ts, hTs⟩ : ∃ Ts, effs (fun _ => none) (X.map XV.t) = Ts := ⟨_, rfl⟩
    rw [hTs] at S3
    have HTS := Lib.hid hTs
    clear hTs MD
    replace bw := bw.trans (b3.mono bw.size)
    replace HX1 := Lib.hid (HX1.out.nx b3)
    obtain ⟨q9, hq9⟩ : ∃ q9, w3.heap.size = q9 := ⟨_, rfl⟩
    obtain ⟨W4, hW4⟩ : ∃ W4, w3.alloc (.cells #[.slice none 0 0, .int .i64 (-1), .slice none 0 0, .slice LA ln lc, .int .i64 (n : Int)] 31) = W4 := ⟨_, rfl⟩
    have b4 : Below w3.heap.size w3 W4 := hW4 ▸ bal _ _
    have Z : Hid (Bx W4 q9 [.slice none 0 0, .int .i64 (-1), .slice none 0 0, .slice LA ln lc, .int .i64 (n : Int)]) := hW4 ▸ Lib.hid (Bx.put _ hq9 #[.slice none 0 0, .int .i64 (-1), .slice none 0 0, .slice LA ln lc, .int .i64 (n : Int)] 31)
    have TZ : Hid (Ty W4 q9 31) := hW4 ▸ hq9 ▸ Lib.hid (Ty.new _ _ _)
    have HW4 := Lib.hid hW4
    clear hW4
    replace bw := bw.trans (b4.mono bw.size)
    replace HX1 := Lib.hid (HX1.out.nx b4)
    replace S3 := Lib.hid (S3.out.nx b4)
    have z0 := Z.out.at_ 0 (by simp)
    have z1 := Z.out.at_ 1 (by simp)
    have z2 := Z.out.at_ 2 (by simp)
    have z3 := Z.out.at_ 3 (by simp)
    have z4 := Z.out.at_ 4 (by simp)
    simp only [List.getElem?_cons_succ, List.getElem?_cons_zero] at z0 z1 z2 z3 z4
    have BG := Lib.hid (Stt.begin_ S3 (Lib.hid (G.out.nx bw)))
    go_upto_region 6 with fail
    rw [HW4.out]
    go_wp2_with fail
    go_at_call 17
    refine BG.out.mono ?_
    rintro e w5 ⟨rfl, b5⟩
    clear BG z0 z1 z2 z3 z4
    replace bw := bw.trans (b5.mono bw.size)
    replace HX1 := Lib.hid (HX1.out.nx b5)
    replace S3 := Lib.hid (S3.out.nx b5)
    replace Z := Lib.hid (Z.out.nx b5)
    obtain ⟨q11, hq11⟩ : ∃ q11, w5.heap.size = q11 := ⟨_, rfl⟩
    obtain ⟨W6, hW6⟩ : ∃ W6, w5.alloc (.cells #[.slice none 0 0, .int .i64 (-1), .slice none 0 0, .slice LA ln lc, .int .i64 (n : Int), .slice none 0 0] 48) = W6 := ⟨_, rfl⟩
    have b6 : Below w5.heap.size w5 W6 := hW6 ▸ bal _ _
    have U : Hid (Bx W6 q11 [.slice none 0 0, .int .i64 (-1), .slice none 0 0, .slice LA ln lc, .int .i64 (n : Int), .slice none 0 0]) := hW6 ▸ Lib.hid (Bx.put _ hq11 #[.slice none 0 0, .int .i64 (-1), .slice none 0 0, .slice LA ln lc, .int .i64 (n : Int), .slice none 0 0] 48)
    have TU : Hid (Ty W6 q11 48) := hW6 ▸ hq11 ▸ Lib.hid (Ty.new _ _ _)
    have HW6 := Lib.hid hW6
    clear hW6
    have bw5 := bw
    have q911 : q9 < q11 := by have := Z.out.lt; omega
    replace bw := bw.trans (b6.mono bw.size)
    replace HX1 := Lib.hid (HX1.out.nx b6)
    have u0 := U.out.at_ 0 (by simp)
    have u1 := U.out.at_ 1 (by simp)
    have u2 := U.out.at_ 2 (by simp)
    have u3 := U.out.at_ 3 (by simp)
    have u4 := U.out.at_ 4 (by simp)
    have u5 := U.out.at_ 5 (by simp)
    simp only [List.getElem?_cons_succ, List.getElem?_cons_zero] at u0 u1 u2 u3 u4 u5
    have S6 := Lib.hid (S3.out.nx b6)
    have G6 := Lib.hid (G.out.nx bw)
    have K6 := Lib.hid (hk.out.nx bw)
    have V6 := Lib.hid (hv.out.nx bw)
    go_upto_region 7 with fail
    rw [HW6.out]
    cases hkk : keyN kn with
    | false =>
      have PA := Lib.hid (sPut_arg (PA := none) (FA := none) (LA := LA) (np := 0) (pc := 0) (m := 0) (fc := 0) (ln := ln) (lc := lc) (r0 := -1) (last := (n : Int)) (A := none) (n := 0) (c := 0) (K := K) (kn := kn) (kc := kc) (VA := VA) (vn := vn) (vc := vc) W6 (Lib.hid (by rw [hkk]; rfl)))
      have KY := fun U => rKey_any (A := K) (n := kn) (c := kc) U
      rw [hkk] at KY
      have KY := Lib.hid KY
      have HKK := Lib.hid hkk
      clear hkk
      go_wp2_with fail
      go_at_call 19
      refine PA.out.mono ?_
      rintro e w7 ⟨rfl, b7⟩
      have b67 := b6.trans (b7.mono b6.size)
      obtain ⟨q13, hq13⟩ : ∃ q13, w7.heap.size = q13 := ⟨_, rfl⟩
      obtain ⟨W8, hW8⟩ : ∃ W8, w7.alloc (.cells #[.slice none 0 0, .int .i64 0, .slice none 0 0, .slice none 0 0, .int .i64 0, .slice none 0 0] 48) = W8 := ⟨_, rfl⟩
      have b8 : Below w7.heap.size w7 W8 := hW8 ▸ bal _ _
      have T : Hid (Bx W8 q13 [.slice none 0 0, .int .i64 0, .slice none 0 0, .slice none 0 0, .int .i64 0, .slice none 0 0]) := hW8 ▸ Lib.hid (Bx.put _ hq13 #[.slice none 0 0, .int .i64 0, .slice none 0 0, .slice none 0 0, .int .i64 0, .slice none 0 0] 48)
      have TT : Hid (Ty W8 q13 48) := hW8 ▸ hq13 ▸ Lib.hid (Ty.new _ _ _)
      have HW8 := Lib.hid hW8
      clear hW8
      have b68 := b7.trans (b8.mono b7.size)
      have U8 := Lib.hid (U.out.nx b68)
      clear PA u0 u1 u2 u3 u4 u5
      have u0 := U8.out.at_ 0 (by simp)
      have u1 := U8.out.at_ 1 (by simp)
      have u2 := U8.out.at_ 2 (by simp)
      have u3 := U8.out.at_ 3 (by simp)
      have u4 := U8.out.at_ 4 (by simp)
      have u5 := U8.out.at_ 5 (by simp)
      simp only [List.getElem?_cons_succ, List.getElem?_cons_zero] at u0 u1 u2 u3 u4 u5
      have GT := sGet_no (last := (n : Int)) (A := none) (n := 0) (c := 0) (l := []) (K := K) (kn := kn) (kc := kc) W8 (Lib.hid (G6.out.nx b68)) (Lib.hid (S6.out.nx b68).st) (Lib.hid (Cr.nil_ _)) (Lib.hid fun h => by rw [HKK.out] at h; cases h)
      rw [HKK.out] at GT
      have GT := Lib.hid GT
      go_upto_region 10 with fail
      rw [HW8.out]
      go_wp2_with fail
      go_at_call 21
      refine GT.out.mono ?_
      rintro e w9 ⟨rfl, b9⟩
      have b69 := b68.trans (b9.mono b68.size)
      have U9 := Lib.hid (U.out.nx b69)
      clear GT u0 u1 u2 u3 u4 u5
      have u0 := U9.out.at_ 0 (by simp)
      have u1 := U9.out.at_ 1 (by simp)
      have u2 := U9.out.at_ 2 (by simp)
      have u3 := U9.out.at_ 3 (by simp)
      have u4 := U9.out.at_ 4 (by simp)
      have u5 := U9.out.at_ 5 (by simp)
      simp only [List.getElem?_cons_succ, List.getElem?_cons_zero] at u0 u1 u2 u3 u4 u5
      have DL := sDel_no (last := (n : Int)) (A := none) (n := 0) (c := 0) (l := []) (K := K) (kn := kn) (kc := kc) w9 (Lib.hid (G6.out.nx b69)) (Lib.hid (S6.out.nx b69).st) (Lib.hid (Cr.nil_ _)) (Lib.hid fun h => by rw [HKK.out] at h; cases h)
      rw [HKK.out] at DL
      have DL := Lib.hid DL
      have e16 : (if false = true then (16 : Int) else 1) = 1 := rfl
      go_wp2_with fail
      go_at_call 18
      refine DL.out.mono ?_
      rintro e w10 ⟨rfl, b10⟩
      have bF := bw.trans ((b69.trans (b10.mono b69.size)).mono bw.size)
      clear DL
      obtain ⟨q17, hq17⟩ : ∃ q17, w10.heap.size = q17 := ⟨_, rfl⟩
      obtain ⟨W11, hW11⟩ : ∃ W11, w10.alloc (.cells #[.slice none 0 0, .int .i64 0, .slice none 0 0, .slice none 0 0, .int .i64 0, .slice none 0 0] 48) = W11 := ⟨_, rfl⟩
      have b11 : Below w10.heap.size w10 W11 := hW11 ▸ bal _ _
      have R : Hid (Bx W11 q17 [.slice none 0 0, .int .i64 0, .slice none 0 0, .slice none 0 0, .int .i64 0, .slice none 0 0]) := hW11 ▸ Lib.hid (Bx.put _ hq17 #[.slice none 0 0, .int .i64 0, .slice none 0 0, .slice none 0 0, .int .i64 0, .slice none 0 0] 48)
      have TR : Hid (Ty W11 q17 48) := hW11 ▸ hq17 ▸ Lib.hid (Ty.new _ _ _)
      have HW11 := Lib.hid hW11
      clear hW11
      have bF := bF.trans (b11.mono bF.size)
      go_upto_region 12 with fail
      rw [HW11.out]
      go_wp2_with fail
      go_at_call 15
      refine (KY.out _).mono ?_
      rintro e w' ⟨rfl, rfl⟩
      go_wp2_with fail
      go_ret
      exact ⟨rfl, bF⟩
    | true =>
      have HKK := Lib.hid hkk
      have KY := fun U => rKey_any (A := K) (n := kn) (c := kc) U
      rw [hkk] at KY
      have KY := Lib.hid KY
      clear hkk
      obtain ⟨o, ho⟩ : ∃ o, app (fun _ => none) Ts.flatten key = o := ⟨_, rfl⟩
      have AE : Hid (∀ M, M = mdl (X.map XV.t).flatten → mfd M key = o) := Lib.hid fun M hM => by rw [maps_ent hM key, HTS.out, ho]
      have WV0 := Lib.hid (S6.out.wvd (l := []) (by simp) (by simp))
      have GT : Hid (∀ U, Below W6.heap.size W6 U → Calls Tryd.prog 21 #[.agg #[.slice none 0 0, .int .i64 (-1), .slice none 0 0, .slice LA ln lc, .int .i64 (n : Int), .slice none 0 0], .slice K kn kc] U (FdPost U o)) := Lib.hid fun U hU => by
        have h := sGet_ok (last := (n : Int)) U (Lib.hid (G6.out.nx hU)) (Lib.hid (S6.out.nx hU).st) (Lib.hid S6.out.e) (Lib.hid S6.out.tr) (Lib.hid (Cr.nil_ U)) WV0 (Lib.hid (K6.out.nx hU)) HKK.out
        rw [List.map_nil, List.append_nil, ho] at h
        exact h
      have DL : Hid (∀ U, Below W6.heap.size W6 U → Calls Tryd.prog 18 #[.agg #[.slice none 0 0, .int .i64 (-1), .slice none 0 0, .slice LA ln lc, .int .i64 (n : Int), .slice none 0 0], .slice K kn kc] U (DlPost U none 0 0 (-1) none 0 0 LA ln lc n 0 [] key o)) := Lib.hid fun U hU => by
        have h := sDel_ok (last := (n : Int)) U (Lib.hid (G6.out.nx hU)) (Lib.hid (S6.out.nx hU).st) (Lib.hid S6.out.e) (Lib.hid S6.out.tr) (Lib.hid (Cr.nil_ U)) WV0 (Lib.hid (K6.out.nx hU)) HKK.out
        rw [List.map_nil, List.append_nil, ho] at h
        exact h
      clear ho
      cases hvv : valN vn with
      | false =>
        have PA := Lib.hid (sPut_arg (PA := none) (FA := none) (LA := LA) (np := 0) (pc := 0) (m := 0) (fc := 0) (ln := ln) (lc := lc) (r0 := -1) (last := (n : Int)) (A := none) (n := 0) (c := 0) (K := K) (kn := kn) (kc := kc) (VA := VA) (vn := vn) (vc := vc) W6 (Lib.hid (by rw [HKK.out, hvv]; rfl)))
        have VY := fun U => rValue_any (A := VA) (n := vn) (c := vc) U
        rw [hvv] at VY
        have VY := Lib.hid VY
        clear hvv
        go_wp2_with fail
        go_at_call 19
        refine PA.out.mono ?_
        rintro e w7 ⟨rfl, b7⟩
        obtain ⟨q13, hq13⟩ : ∃ q13, w7.heap.size = q13 := ⟨_, rfl⟩
        obtain ⟨W8, hW8⟩ : ∃ W8, w7.alloc (.cells #[.slice none 0 0, .int .i64 0, .slice none 0 0, .slice none 0 0, .int .i64 0, .slice none 0 0] 48) = W8 := ⟨_, rfl⟩
        have b8 : Below w7.heap.size w7 W8 := hW8 ▸ bal _ _
        have T : Hid (Bx W8 q13 [.slice none 0 0, .int .i64 0, .slice none 0 0, .slice none 0 0, .int .i64 0, .slice none 0 0]) := hW8 ▸ Lib.hid (Bx.put _ hq13 #[.slice none 0 0, .int .i64 0, .slice none 0 0, .slice none 0 0, .int .i64 0, .slice none 0 0] 48)
        have TT : Hid (Ty W8 q13 48) := hW8 ▸ hq13 ▸ Lib.hid (Ty.new _ _ _)
        have HW8 := Lib.hid hW8
        clear hW8
        clear PA
        have b68 := b7.trans (b8.mono b7.size)
        have U8 := Lib.hid (U.out.nx b68)
        clear u0 u1 u2 u3 u4 u5
        have u0 := U8.out.at_ 0 (by simp)
        have u1 := U8.out.at_ 1 (by simp)
        have u2 := U8.out.at_ 2 (by simp)
        have u3 := U8.out.at_ 3 (by simp)
        have u4 := U8.out.at_ 4 (by simp)
        have u5 := U8.out.at_ 5 (by simp)
        simp only [List.getElem?_cons_succ, List.getElem?_cons_zero] at u0 u1 u2 u3 u4 u5
        go_upto_region 10 with fail
        rw [HW8.out]
        go_wp2_with fail
        go_at_call 21
        refine (GT.out _ b68).mono ?_
        rintro e w9 ⟨A9, n9, c9, er9, rfl, res9, b9⟩
        have b69 := b68.trans (b9.mono b68.size)
        have U9 := Lib.hid (U.out.nx b69)
        clear u0 u1 u2 u3 u4 u5
        have u0 := U9.out.at_ 0 (by simp)
        have u1 := U9.out.at_ 1 (by simp)
        have u2 := U9.out.at_ 2 (by simp)
        have u3 := U9.out.at_ 3 (by simp)
        have u4 := U9.out.at_ 4 (by simp)
        have u5 := U9.out.at_ 5 (by simp)
        simp only [List.getElem?_cons_succ, List.getElem?_cons_zero] at u0 u1 u2 u3 u4 u5
        go_wp2_with fail
        go_at_call 18
        refine (DL.out _ b69).mono ?_
        rintro e w10 hpost
        rcases hpost with ⟨ho, rfl, b10⟩ | ⟨ho, ⟨⟨h, _⟩ | ⟨_, A10, c10, x10, rfl, _, _, _⟩, b10⟩⟩
        · obtain ⟨q17, hq17⟩ : ∃ q17, w10.heap.size = q17 := ⟨_, rfl⟩
          obtain ⟨W11, hW11⟩ : ∃ W11, w10.alloc (.cells #[.slice none 0 0, .int .i64 0, .slice none 0 0, .slice none 0 0, .int .i64 0, .slice none 0 0] 48) = W11 := ⟨_, rfl⟩
          have b11 : Below w10.heap.size w10 W11 := hW11 ▸ bal _ _
          have R : Hid (Bx W11 q17 [.slice none 0 0, .int .i64 0, .slice none 0 0, .slice none 0 0, .int .i64 0, .slice none 0 0]) := hW11 ▸ Lib.hid (Bx.put _ hq17 #[.slice none 0 0, .int .i64 0, .slice none 0 0, .slice none 0 0, .int .i64 0, .slice none 0 0] 48)
          have TR : Hid (Ty W11 q17 48) := hW11 ▸ hq17 ▸ Lib.hid (Ty.new _ _ _)
          have HW11 := Lib.hid hW11
          clear hW11
          have bF := (bw.trans ((b69.trans (b10.mono b69.size)).mono bw.size))
          have bF := bF.trans (b11.mono bF.size)
          go_upto_region 12 with fail
          rw [HW11.out]
          go_wp2_with fail
          go_at_call 15
          refine (KY.out _).mono ?_
          rintro e w' ⟨rfl, rfl⟩
          go_wp2_with fail
          go_at_call 24
          refine (VY.out _).mono ?_
          rintro e w' ⟨rfl, rfl⟩
          go_wp2_with fail
          go_ret
          exact ⟨rfl, bF⟩
        · omega
        · rw [Nat.zero_add]
          obtain ⟨q17, hq17⟩ : ∃ q17, w10.heap.size = q17 := ⟨_, rfl⟩
          obtain ⟨W11, hW11⟩ : ∃ W11, w10.alloc (.cells #[.slice none 0 0, .int .i64 (-1), .slice none 0 0, .slice LA ln lc, .int .i64 (n : Int), .slice A10 1 c10] 48) = W11 := ⟨_, rfl⟩
          have b11 : Below w10.heap.size w10 W11 := hW11 ▸ bal _ _
          have R : Hid (Bx W11 q17 [.slice none 0 0, .int .i64 (-1), .slice none 0 0, .slice LA ln lc, .int .i64 (n : Int), .slice A10 1 c10]) := hW11 ▸ Lib.hid (Bx.put _ hq17 #[.slice none 0 0, .int .i64 (-1), .slice none 0 0, .slice LA ln lc, .int .i64 (n : Int), .slice A10 1 c10] 48)
          have TR : Hid (Ty W11 q17 48) := hW11 ▸ hq17 ▸ Lib.hid (Ty.new _ _ _)
          have HW11 := Lib.hid hW11
          clear hW11
          have bF := (bw.trans ((b69.trans (b10.mono b69.size)).mono bw.size))
          have bF := bF.trans (b11.mono bF.size)
          go_upto_region 12 with fail
          rw [HW11.out]
          go_wp2_with fail
          go_at_call 15
          refine (KY.out _).mono ?_
          rintro e w' ⟨rfl, rfl⟩
          go_wp2_with fail
          go_at_call 24
          refine (VY.out _).mono ?_
          rintro e w' ⟨rfl, rfl⟩
          go_wp2_with fail
          go_ret
          exact ⟨rfl, bF⟩
      | true =>
        have HVV := Lib.hid hvv
        have PT := Lib.hid (sPut_ok (last := (n : Int)) W6 G6 (Lib.hid S6.out.st) (Lib.hid (Cr.nil_ W6)) WV0 K6 V6 (Lib.hid ⟨HKK.out, hvv⟩))
        have VY := fun U => rValue_any (A := VA) (n := vn) (c := vc) U
        rw [hvv] at VY
        have VY := Lib.hid VY
        clear hvv
        go_wp2_with fail
        go_at_call 19
        refine PT.out.mono ?_
        rintro e w7 hpost
        rcases hpost with ⟨⟨h, _⟩ | ⟨_, A7, c7, x7, rfl, _, _, _⟩, b7⟩
        · omega
        rw [Nat.zero_add]
        obtain ⟨q13, hq13⟩ : ∃ q13, w7.heap.size = q13 := ⟨_, rfl⟩
        obtain ⟨W8, hW8⟩ : ∃ W8, w7.alloc (.cells #[.slice none 0 0, .int .i64 (-1), .slice none 0 0, .slice LA ln lc, .int .i64 (n : Int), .slice A7 1 c7] 48) = W8 := ⟨_, rfl⟩
        have b8 : Below w7.heap.size w7 W8 := hW8 ▸ bal _ _
        have T : Hid (Bx W8 q13 [.slice none 0 0, .int .i64 (-1), .slice none 0 0, .slice LA ln lc, .int .i64 (n : Int), .slice A7 1 c7]) := hW8 ▸ Lib.hid (Bx.put _ hq13 #[.slice none 0 0, .int .i64 (-1), .slice none 0 0, .slice LA ln lc, .int .i64 (n : Int), .slice A7 1 c7] 48)
        have TT : Hid (Ty W8 q13 48) := hW8 ▸ hq13 ▸ Lib.hid (Ty.new _ _ _)
        have HW8 := Lib.hid hW8
        clear hW8
        clear PT
        have b68 := b7.trans (b8.mono b7.size)
        have U8 := Lib.hid (U.out.nx b68)
        clear u0 u1 u2 u3 u4 u5
        have u0 := U8.out.at_ 0 (by simp)
        have u1 := U8.out.at_ 1 (by simp)
        have u2 := U8.out.at_ 2 (by simp)
        have u3 := U8.out.at_ 3 (by simp)
        have u4 := U8.out.at_ 4 (by simp)
        have u5 := U8.out.at_ 5 (by simp)
        simp only [List.getElem?_cons_succ, List.getElem?_cons_zero] at u0 u1 u2 u3 u4 u5
        go_upto_region 10 with fail
        rw [HW8.out]
        go_wp2_with fail
        go_at_call 21
        refine (GT.out _ b68).mono ?_
        rintro e w9 ⟨A9, n9, c9, er9, rfl, res9, b9⟩
        have b69 := b68.trans (b9.mono b68.size)
        have U9 := Lib.hid (U.out.nx b69)
        clear u0 u1 u2 u3 u4 u5
        have u0 := U9.out.at_ 0 (by simp)
        have u1 := U9.out.at_ 1 (by simp)
        have u2 := U9.out.at_ 2 (by simp)
        have u3 := U9.out.at_ 3 (by simp)
        have u4 := U9.out.at_ 4 (by simp)
        have u5 := U9.out.at_ 5 (by simp)
        simp only [List.getElem?_cons_succ, List.getElem?_cons_zero] at u0 u1 u2 u3 u4 u5
        go_wp2_with fail
        go_at_call 18
        refine (DL.out _ b69).mono ?_
        rintro e w10 hpost
        rcases hpost with ⟨ho, rfl, b10⟩ | ⟨ho, ⟨⟨h, _⟩ | ⟨_, A10, c10, x10, rfl, _, _, _⟩, b10⟩⟩
        · obtain ⟨rfl, rfl⟩ : er9 = 7 ∧ n9 = 0 := by
            rcases res9 with ⟨h1, _, h3⟩ | ⟨_, d, hd, _⟩
            · exact ⟨h1, h3⟩
            · rw [ho] at hd; cases hd
          obtain ⟨q17, hq17⟩ : ∃ q17, w10.heap.size = q17 := ⟨_, rfl⟩
          obtain ⟨W11, hW11⟩ : ∃ W11, w10.alloc (.cells #[.slice none 0 0, .int .i64 0, .slice none 0 0, .slice none 0 0, .int .i64 0, .slice none 0 0] 48) = W11 := ⟨_, rfl⟩
          have b11 : Below w10.heap.size w10 W11 := hW11 ▸ bal _ _
          have R : Hid (Bx W11 q17 [.slice none 0 0, .int .i64 0, .slice none 0 0, .slice none 0 0, .int .i64 0, .slice none 0 0]) := hW11 ▸ Lib.hid (Bx.put _ hq17 #[.slice none 0 0, .int .i64 0, .slice none 0 0, .slice none 0 0, .int .i64 0, .slice none 0 0] 48)
          have TR : Hid (Ty W11 q17 48) := hW11 ▸ hq17 ▸ Lib.hid (Ty.new _ _ _)
          have HW11 := Lib.hid hW11
          clear hW11
          have b611 := b69.trans ((b10.trans (b11.mono b10.size)).mono b69.size)
          clear res9 u0 u1 u2 u3 u4 u5
          go_upto_region 12 with fail
          rw [HW11.out]
          go_wp2_with fail
          go_at_call 15
          refine (KY.out _).mono ?_
          rintro e w' ⟨rfl, rfl⟩
          go_wp2_with fail
          go_at_call 24
          refine (VY.out _).mono ?_
          rintro e w' ⟨rfl, rfl⟩
          go_wp2_with fail
          go_at_call 12
          refine (model_any _ (Lib.hid (HX1.out.nx b611)) (by omega) SM).mono ?_
          rintro e w12 ⟨A12, n12, c12, M12, rfl, hM12, C12, _, b12⟩
          have b612 := b611.trans (b12.mono b611.size)
          have FD := rFind_any w12 C12 (Lib.hid (K6.out.nx b612))
          rcases fnd_cases (M12.map CV.ch) key with ⟨hf, _⟩ | ⟨q2, z, hf, hz, hm⟩
          · rw [hf] at FD
            have FD := Lib.hid FD
            clear hf ho GT DL KY VY AE
            go_wp2_with fail
            go_at_call 14
            refine FD.out.mono ?_
            rintro e V0 ⟨rfl, nq, hV0⟩
            have b6V : Below W6.heap.size W6 V0 := hV0 ▸ (bdrewN b612)
            clear hV0 FD
            -- the loop: from world V0 (b5V : Below from w5)
            have UV := Lib.hid (U.out.nx b6V)
            have b5V := b6.trans (b6V.mono b6.size)
            have C0 : Hid (Cr V0 none 0 0 []) := Lib.hid (Cr.nil_ _)
            obtain ⟨r, hr1, hr2⟩ : ∃ r : Nat, nn.tmod 20 = (r : Int) ∧ r < 20 := ⟨(nn.tmod 20).toNat, by rw [Int.tmod_eq_emod_of_nonneg nn0]; omega, by rw [Int.tmod_eq_emod_of_nonneg nn0]; omega⟩
            go_wp2_with fail
            go_loopw [135] (fun iv wr => ∃ (j wn : Nat) (WA : Option Addr) (wc : Nat) (wl : List CV), j ≤ 90 + r ∧ iv = .int .i64 j ∧ wn ≤ 100 ∧ wn ≤ j ∧ (j ≤ 100 → wn = j) ∧ (100 ≤ j → wn = 100) ∧ Hid (Bx wr q11 [.slice none 0 0, .int .i64 (-1), .slice none 0 0, .slice LA ln lc, .int .i64 (n : Int), .slice WA wn wc]) ∧ Hid (Cr wr WA wn wc wl) ∧ Hid (∀ y ∈ wl, y.ch = ⟨key, val, false⟩) ∧ Hid (∀ y ∈ wl, ∀ g, blk y.A = some g ∨ blk y.B = some g → q11 < g) ∧ Below w5.heap.size w5 wr) (fun iv _ => (90 + r - intOf iv).toNat)
            case atStart => exact ⟨0, 0, none, 0, [], by omega, rfl, by omega, by omega, by omega, by omega, UV, C0, Lib.hid (by simp), Lib.hid (by simp), b5V⟩
            case round =>
              obtain ⟨j, wn, WA, wc, wl, hj, rfl, w100, wj, wj1, wj2, UR, CR, WL, FR, b5R⟩ := hrel
              clear UV C0
              have bwR := bw5.trans (b5R.mono bw5.size)
              have okl : Hid (∀ y ∈ wl, y.ch.ok = true) := Lib.hid fun y hy => by
                rw [WL.out y hy]
                unfold Ch.ok
                show okN key.length val.length false = true
                rw [← KN.out, ← VN.out, okN_eq, HKK.out, HVV.out]; rfl
              have WV := Lib.hid ((S3.out.nx b5R).wvd (l := wl) (by have := CR.out.len; omega) okl.out)
              by_cases hlt : j < 90 + r
              · have d1 : decide ((j : Int) < 90 + (r : Int)) = true := decide_eq_true (by omega)
                have PT := Lib.hid (sPut_ok (last := (n : Int)) wr (Lib.hid (G.out.nx bwR)) (Lib.hid (S3.out.nx b5R).st) CR WV (Lib.hid (hk.out.nx bwR)) (Lib.hid (hv.out.nx bwR)) (Lib.hid ⟨HKK.out, HVV.out⟩))
                have u0 := UR.out.at_ 0 (by simp)
                have u1 := UR.out.at_ 1 (by simp)
                have u2 := UR.out.at_ 2 (by simp)
                have u3 := UR.out.at_ 3 (by simp)
                have u4 := UR.out.at_ 4 (by simp)
                have u5 := UR.out.at_ 5 (by simp)
                simp only [List.getElem?_cons_succ, List.getElem?_cons_zero] at u0 u1 u2 u3 u4 u5
                go_wp2_with fail
                go_at_call 19
                refine PT.out.mono ?_
                rintro e w20 hpost
                rcases hpost with ⟨⟨h100, rfl⟩ | ⟨h100, A20, c20, x20, rfl, xch, co, fr⟩, b20⟩
                · obtain ⟨q21, hq21⟩ : ∃ q21, w20.heap.size = q21 := ⟨_, rfl⟩
                  obtain ⟨W21, hW21⟩ : ∃ W21, w20.alloc (.cells #[.slice none 0 0, .int .i64 0, .slice none 0 0, .slice none 0 0, .int .i64 0, .slice none 0 0] 48) = W21 := ⟨_, rfl⟩
                  have b21 : Below w20.heap.size w20 W21 := hW21 ▸ bal _ _
                  have Y : Hid (Bx W21 q21 [.slice none 0 0, .int .i64 0, .slice none 0 0, .slice none 0 0, .int .i64 0, .slice none 0 0]) := hW21 ▸ Lib.hid (Bx.put _ hq21 #[.slice none 0 0, .int .i64 0, .slice none 0 0, .slice none 0 0, .int .i64 0, .slice none 0 0] 48)
                  have TY : Hid (Ty W21 q21 48) := hW21 ▸ hq21 ▸ Lib.hid (Ty.new _ _ _)
                  have HW21 := Lib.hid hW21
                  clear hW21
                  have b2021 := b20.trans (b21.mono b20.size)
                  have d2 : decide ((j : Int) < 100) = false := decide_eq_false (by omega)
                  have U21 := Lib.hid (UR.out.nx b2021)
                  have C21 := Lib.hid (CR.out.nx b2021)
                  have b5R2 := b5R.trans (b2021.mono b5R.size)
                  clear u0 u1 u2 u3 u4 u5 PT
                  go_upto_region 23 with fail
                  rw [HW21.out]
                  go_wp2_with fail
                  go_roundw
                  case rel => exact ⟨j + 1, wn, WA, wc, wl, by omega, by go_num, by omega, by omega, by omega, by omega, U21, C21, WL, FR, b5R2⟩
                  case measure => simp [intOf]; omega
                · obtain ⟨q21, hq21⟩ : ∃ q21, w20.heap.size = q21 := ⟨_, rfl⟩
                  obtain ⟨W21, hW21⟩ : ∃ W21, w20.alloc (.cells #[.slice none 0 0, .int .i64 (-1), .slice none 0 0, .slice LA ln lc, .int .i64 (n : Int), .slice A20 (wn + 1) c20] 48) = W21 := ⟨_, rfl⟩
                  have b21 : Below w20.heap.size w20 W21 := hW21 ▸ bal _ _
                  have Y : Hid (Bx W21 q21 [.slice none 0 0, .int .i64 (-1), .slice none 0 0, .slice LA ln lc, .int .i64 (n : Int), .slice A20 (wn + 1) c20]) := hW21 ▸ Lib.hid (Bx.put _ hq21 #[.slice none 0 0, .int .i64 (-1), .slice none 0 0, .slice LA ln lc, .int .i64 (n : Int), .slice A20 (wn + 1) c20] 48)
                  have TY : Hid (Ty W21 q21 48) := hW21 ▸ hq21 ▸ Lib.hid (Ty.new _ _ _)
                  have HW21 := Lib.hid hW21
                  clear hW21
                  have b2021 := b20.trans (b21.mono b20.size)
                  have d2 : decide ((j : Int) < 100) = true := decide_eq_true (by omega)
                  have U21 := Lib.hid (UR.out.nx b2021)
                  have b5R2 := b5R.trans (b2021.mono b5R.size)
                  have ql := UR.out.lt
                  have CO := Lib.hid (co.out.nx b21)
                  have q5 : w5.heap.size ≤ q11 := by omega
                  clear u0 u1 u2 u3 u4 u5 PT co
                  have y0 := Y.out.at_ 0 (by simp)
                  have y1 := Y.out.at_ 1 (by simp)
                  have y2 := Y.out.at_ 2 (by simp)
                  have y3 := Y.out.at_ 3 (by simp)
                  have y4 := Y.out.at_ 4 (by simp)
                  have y5 := Y.out.at_ 5 (by simp)
                  simp only [List.getElem?_cons_succ, List.getElem?_cons_zero] at y0 y1 y2 y3 y4 y5
                  have u0 := U21.out.at_ 0 (by simp)
                  have u1 := U21.out.at_ 1 (by simp)
                  have u2 := U21.out.at_ 2 (by simp)
                  have u3 := U21.out.at_ 3 (by simp)
                  have u4 := U21.out.at_ 4 (by simp)
                  have u5 := U21.out.at_ 5 (by simp)
                  simp only [List.getElem?_cons_succ, List.getElem?_cons_zero] at u0 u1 u2 u3 u4 u5
                  have f0 := U21.out.fz 0 (by simp)
                  have f1 := U21.out.fz 1 (by simp)
                  have f2 := U21.out.fz 2 (by simp)
                  have f3 := U21.out.fz 3 (by simp)
                  have f4 := U21.out.fz 4 (by simp)
                  have f5 := U21.out.fz 5 (by simp)
                  have U22 := Lib.hid (res6_cells U21.out rfl (.slice none 0 0) (.int .i64 (-1)) (.slice none 0 0) (.slice LA ln lc) (.int .i64 (n : Int)) (.slice A20 (wn + 1) c20))
                  have b22 := res6_below (a := .slice none 0 0) (b := .int .i64 (-1)) (c := .slice none 0 0) (d := .slice LA ln lc) (e := .int .i64 (n : Int)) (g := .slice A20 (wn + 1) c20) b5R2 q5
                  have O22 := Lib.hid (own_res6 (R := q11) (a := .slice none 0 0) (b := .int .i64 (-1)) (d := .slice none 0 0) (e := .slice LA ln lc) (f := .int .i64 (n : Int)) (g := .slice A20 (wn + 1) c20) CO.out.own ql)
                  have FR2 : Hid (∀ y ∈ wl ++ [x20], ∀ g, blk y.A = some g ∨ blk y.B = some g → q11 < g) := Lib.hid fun y hy g e => by
                    rcases List.mem_append.1 hy with hy | hy
                    · exact FR.out y hy g e
                    · obtain rfl := List.mem_singleton.1 hy
                      have := fr.out g e; omega
                  have D22 : Hid (∀ y ∈ wl ++ [x20], Dt ((((((W21.setCell ⟨q11, 0, none⟩ (.slice none 0 0)).setCell ⟨q11, 1, none⟩ (.int .i64 (-1))).setCell ⟨q11, 2, none⟩ (.slice none 0 0)).setCell ⟨q11, 3, none⟩ (.slice LA ln lc)).setCell ⟨q11, 4, none⟩ (.int .i64 (n : Int))).setCell ⟨q11, 5, none⟩ (.slice A20 (wn + 1) c20)) y) := Lib.hid fun y hy =>
                    dt_res6 (CO.out.dat y hy) fun g e => by have := FR2.out y hy g e; omega
                  have WL2 : Hid (∀ y ∈ wl ++ [x20], y.ch = ⟨key, val, false⟩) := Lib.hid fun y hy => by
                    rcases List.mem_append.1 hy with hy | hy
                    · exact WL.out y hy
                    · obtain rfl := List.mem_singleton.1 hy
                      exact xch.out
                  go_upto_region 23 with fail
                  rw [HW21.out]
                  go_wp2_with fail
                  obtain ⟨W22, hW22⟩ : ∃ u, ((((((W21.setCell ⟨q11, 0, none⟩ (.slice none 0 0)).setCell ⟨q11, 1, none⟩ (.int .i64 (-1))).setCell ⟨q11, 2, none⟩ (.slice none 0 0)).setCell ⟨q11, 3, none⟩ (.slice LA ln lc)).setCell ⟨q11, 4, none⟩ (.int .i64 (n : Int))).setCell ⟨q11, 5, none⟩ (.slice A20 (wn + 1) c20)) = u := ⟨_, rfl⟩
                  rw [hW22] at U22 b22 O22 D22
                  have C22 : Hid (Cr W22 A20 (wn + 1) c20 (wl ++ [x20])) := Lib.hid ⟨Rd.of_own O22.out, D22.out⟩
                  subst hW22
                  go_roundw
                  case rel => exact ⟨j + 1, wn + 1, A20, c20, wl ++ [x20], by omega, by go_num, by omega, by omega, by omega, by omega, U22, C22, WL2, FR2, b22⟩
                  case measure => simp [intOf]; omega
              · obtain rfl : j = 90 + r := by omega
                have d1 : decide (((90 + r : Nat) : Int) < 90 + (r : Int)) = false := decide_eq_false (by omega)
                have d1' : decide ((90 : Int) + (r : Int) < 90 + (r : Int)) = false := decide_eq_false (by omega)
                have u0 := UR.out.at_ 0 (by simp)
                have u1 := UR.out.at_ 1 (by simp)
                have u2 := UR.out.at_ 2 (by simp)
                have u3 := UR.out.at_ 3 (by simp)
                have u4 := UR.out.at_ 4 (by simp)
                have u5 := UR.out.at_ 5 (by simp)
                simp only [List.getElem?_cons_succ, List.getElem?_cons_zero] at u0 u1 u2 u3 u4 u5
                by_cases h100 : wn = 100
                · subst h100
                  have hne : wl ≠ [] := fun e => by have := CR.out.len; rw [e] at this; simp at this
                  have AP := Lib.hid (app_rep (b := fun _ => none) (cs := Ts.flatten) hne WL.out)
                  have DL := sDel_ok (last := (n : Int)) wr (Lib.hid (G.out.nx bwR)) (Lib.hid (S3.out.nx b5R).st) (Lib.hid S3.out.e) (Lib.hid S3.out.tr) CR WV (Lib.hid (hk.out.nx bwR)) HKK.out
                  rw [AP.out] at DL
                  have DL := Lib.hid DL
                  go_wp2_with fail
                  go_at_call 18
                  refine DL.out.mono ?_
                  rintro e w23 hpost
                  rcases hpost with ⟨hno, _⟩ | ⟨_, ⟨⟨_, rfl⟩ | ⟨h, _⟩, b23⟩⟩
                  · cases hno
                  · obtain ⟨q23, hq23⟩ : ∃ q23, w23.heap.size = q23 := ⟨_, rfl⟩
                    obtain ⟨W24, hW24⟩ : ∃ W24, w23.alloc (.cells #[.slice none 0 0, .int .i64 0, .slice none 0 0, .slice none 0 0, .int .i64 0, .slice none 0 0] 48) = W24 := ⟨_, rfl⟩
                    have b24 : Below w23.heap.size w23 W24 := hW24 ▸ bal _ _
                    have Y : Hid (Bx W24 q23 [.slice none 0 0, .int .i64 0, .slice none 0 0, .slice none 0 0, .int .i64 0, .slice none 0 0]) := hW24 ▸ Lib.hid (Bx.put _ hq23 #[.slice none 0 0, .int .i64 0, .slice none 0 0, .slice none 0 0, .int .i64 0, .slice none 0 0] 48)
                    have TY : Hid (Ty W24 q23 48) := hW24 ▸ hq23 ▸ Lib.hid (Ty.new _ _ _)
                    have HW24 := Lib.hid hW24
                    clear hW24
                    have b5W := b5R.trans ((b23.trans (b24.mono b23.size)).mono b5R.size)
                    clear u0 u1 u2 u3 u4 u5 DL
                    go_upto_region 30 with fail
                    rw [HW24.out]
                    -- the end: from world W24 (b5W : Below from w5)
                    have bwE := bw5.trans (b5W.mono bw5.size)
                    have ZE := Lib.hid (Z.out.nx b5W)
                    have z0 := ZE.out.at_ 0 (by simp)
                    have z1 := ZE.out.at_ 1 (by simp)
                    have z2 := ZE.out.at_ 2 (by simp)
                    have z3 := ZE.out.at_ 3 (by simp)
                    have z4 := ZE.out.at_ 4 (by simp)
                    simp only [List.getElem?_cons_succ, List.getElem?_cons_zero] at z0 z1 z2 z3 z4
                    obtain ⟨pB, hpB⟩ : ∃ pB, W24.heap.size = pB := ⟨_, rfl⟩
                    obtain ⟨V1, hV1⟩ : ∃ V1, W24.alloc (.cells #[.int .u8 1] 5) = V1 := ⟨_, rfl⟩
                    have e1 : Below W24.heap.size W24 V1 := hV1 ▸ bal _ _
                    have B1 : Hid (Bx V1 pB [.int .u8 1]) := hV1 ▸ Lib.hid (Bx.put _ hpB #[.int .u8 1] 5)
                    have TB1 : Hid (Ty V1 pB 5) := hV1 ▸ hpB ▸ Lib.hid (Ty.new _ _ _)
                    have HV1 := Lib.hid hV1
                    clear hV1
                    obtain ⟨pC, hpC⟩ : ∃ pC, V1.heap.size = pC := ⟨_, rfl⟩
                    obtain ⟨V2, hV2⟩ : ∃ V2, V1.alloc (.cells #[.slice K kn kc, .slice (some ⟨pB, 0, none⟩) 1 1, .bool true] 45) = V2 := ⟨_, rfl⟩
                    have e2 : Below V1.heap.size V1 V2 := hV2 ▸ bal _ _
                    have B2 : Hid (Bx V2 pC [.slice K kn kc, .slice (some ⟨pB, 0, none⟩) 1 1, .bool true]) := hV2 ▸ Lib.hid (Bx.put _ hpC #[.slice K kn kc, .slice (some ⟨pB, 0, none⟩) 1 1, .bool true] 45)
                    have TB2 : Hid (Ty V2 pC 45) := hV2 ▸ hpC ▸ Lib.hid (Ty.new _ _ _)
                    have HV2 := Lib.hid hV2
                    clear hV2
                    obtain ⟨pD, hpD⟩ : ∃ pD, V2.heap.size = pD := ⟨_, rfl⟩
                    obtain ⟨V3, hV3⟩ : ∃ V3, V2.alloc (.cells #[.slice none 0 0, .int .i64 (-1), .slice none 0 0, .slice LA ln lc, .int .i64 (n : Int), .slice (some ⟨pC, 0, none⟩) 1 1] 48) = V3 := ⟨_, rfl⟩
                    have e3 : Below V2.heap.size V2 V3 := hV3 ▸ bal _ _
                    have B3 : Hid (Bx V3 pD [.slice none 0 0, .int .i64 (-1), .slice none 0 0, .slice LA ln lc, .int .i64 (n : Int), .slice (some ⟨pC, 0, none⟩) 1 1]) := hV3 ▸ Lib.hid (Bx.put _ hpD #[.slice none 0 0, .int .i64 (-1), .slice none 0 0, .slice LA ln lc, .int .i64 (n : Int), .slice (some ⟨pC, 0, none⟩) 1 1] 48)
                    have TB3 : Hid (Ty V3 pD 48) := hV3 ▸ hpD ▸ Lib.hid (Ty.new _ _ _)
                    have HV3 := Lib.hid hV3
                    clear hV3
                    have eC : pC = pB + 1 := by rw [← hpC, ← HV1.out, ← hpB]; simp
                    have eD : pD = pB + 1 + 1 := by rw [← hpD, ← HV2.out, World.size_alloc, hpC, eC]
                    subst eC eD
                    have e13 := e1.trans ((e2.trans (e3.mono e2.size)).mono e1.size)
                    have e12 := e1.trans (e2.mono e1.size)
                    have bE3 := b5W.trans (e13.mono (b5W).size)
                    have bw3' := bw5.trans (bE3.mono bw5.size)
                    have ZE1 := Lib.hid (ZE.out.nx e1)
                    have RC : Hid (Cr V3 (some ⟨pB + 1, 0, none⟩) 1 1 [(⟨K, kc, key, some ⟨pB, 0, none⟩, 1, [1], true⟩ : CV)]) := by
                      have r1 : Rd V1 1 (some ⟨pB, 0, none⟩) 1 1 (bv [1]) := HV1.out ▸ rd_lit W24 hpB _ 1 #[.int .u8 1] 1 (by omega) rfl
                      have r2 : Rd V2 3 (some ⟨pB + 1, 0, none⟩) 1 1 (cvs [(⟨K, kc, key, some ⟨pB, 0, none⟩, 1, [1], true⟩ : CV)]) := by
                        have h : Rd V2 3 (some ⟨pB + 1, 0, none⟩) 1 1 [.slice K kn kc, .slice (some ⟨pB, 0, none⟩) 1 1, .bool true] := HV2.out ▸ rd_lit V1 hpC _ 3 #[.slice K kn kc, .slice (some ⟨pB, 0, none⟩) 1 1, .bool true] 1 (by omega) rfl
                        have e : cvs [(⟨K, kc, key, some ⟨pB, 0, none⟩, 1, [1], true⟩ : CV)] = [.slice K kn kc, .slice (some ⟨pB, 0, none⟩) 1 1, .bool true] := by simp [cvs, CV.cs, KN.out]
                        rw [e]; exact h
                      refine Lib.hid ⟨r2.below e3, fun y hy => ?_⟩
                      obtain rfl := List.mem_singleton.1 hy
                      refine ⟨?_, r1.below (e2.trans (e3.mono e2.size))⟩
                      show Rd V3 1 K key.length kc (bv key)
                      rw [← KN.out]; exact hk.out.nx bw3'
                    have CB := Lib.hid (sCommit_bad (last := (n : Int)) V3 (Lib.hid (G.out.nx bw3')) (Lib.hid (S3.out.nx bE3).st) RC (Lib.hid fun h => by have := h.2.2 _ (List.mem_singleton.2 rfl); unfold CV.ch Ch.ok okN at this; simp at this))
                    go_upto_region 33 with fail
                    rw [HV1.out, HV2.out, HV3.out]
                    have y0 := B3.out.at_ 0 (by simp)
                    have y1 := B3.out.at_ 1 (by simp)
                    have y2 := B3.out.at_ 2 (by simp)
                    have y3 := B3.out.at_ 3 (by simp)
                    have y4 := B3.out.at_ 4 (by simp)
                    have y5 := B3.out.at_ 5 (by simp)
                    simp only [List.getElem?_cons_succ, List.getElem?_cons_zero] at y0 y1 y2 y3 y4 y5
                    go_wp2_with fail
                    go_at_call 22
                    refine CB.out.mono ?_
                    rintro e w31 ⟨rfl, b31⟩
                    obtain ⟨q26, hq26⟩ : ∃ q26, w31.heap.size = q26 := ⟨_, rfl⟩
                    obtain ⟨W32, hW32⟩ : ∃ W32, w31.alloc (.cells #[.slice none 0 0, .int .i64 0, .slice none 0 0, .slice none 0 0, .int .i64 0] 31) = W32 := ⟨_, rfl⟩
                    have b32 : Below w31.heap.size w31 W32 := hW32 ▸ bal _ _
                    have Q26 : Hid (Bx W32 q26 [.slice none 0 0, .int .i64 0, .slice none 0 0, .slice none 0 0, .int .i64 0]) := hW32 ▸ Lib.hid (Bx.put _ hq26 #[.slice none 0 0, .int .i64 0, .slice none 0 0, .slice none 0 0, .int .i64 0] 31)
                    have TQ26 : Hid (Ty W32 q26 31) := hW32 ▸ hq26 ▸ Lib.hid (Ty.new _ _ _)
                    have HW32 := Lib.hid hW32
                    clear hW32
                    have b3132 := b31.trans (b32.mono b31.size)
                    have GN := sGet_no (last := -1) (A := none) (n := 0) (c := 0) (l := []) (K := K) (kn := kn) (kc := kc) W32 (Lib.hid (G.out.nx (bw3'.trans (b3132.mono bw3'.size)))) (Lib.hid (zil_sto W32)) (Lib.hid (Cr.nil_ _)) (Lib.hid fun _ h => by have := h.2.1.1; omega)
                    rw [HKK.out] at GN
                    have GN := Lib.hid GN
                    have PB := Lib.hid fun (U : World) (VA : Option Addr) => sPut_arg (PA := none) (FA := none) (LA := none) (np := 0) (pc := 0) (m := 0) (fc := 0) (ln := 0) (lc := 0) (r0 := 0) (last := 0) (A := none) (n := 0) (c := 0) (K := K) (kn := kn) (kc := kc) (VA := VA) (vn := 121) (vc := 121) U (Lib.hid (by rw [show valN 121 = false from rfl, Bool.and_false]))
                    clear CB
                    go_upto_region 34 with fail
                    rw [HW32.out]
                    go_wp2_with fail
                    go_at_call 21
                    refine GN.out.mono ?_
                    rintro e w33 ⟨rfl, b33⟩
                    have b333 := bw3'.trans ((b3132.trans (b33.mono b3132.size)).mono bw3'.size)
                    clear GN
                    obtain ⟨w34, A34, hmk, b34⟩ := mk121 w33
                    have b34 := b333.trans (b34.mono b333.size)
                    go_wp2_with fail
                    go_at_call 19
                    refine (PB.out w34 _).mono ?_
                    rintro e w35 ⟨rfl, b35⟩
                    have b35 := b34.trans (b35.mono b34.size)
                    obtain ⟨q36, hq36⟩ : ∃ q36, w35.heap.size = q36 := ⟨_, rfl⟩
                    obtain ⟨W36, hW36⟩ : ∃ W36, w35.alloc (.cells #[.slice none 0 0, .int .i64 0, .slice none 0 0, .slice none 0 0, .int .i64 0, .slice none 0 0] 48) = W36 := ⟨_, rfl⟩
                    have b36 : Below w35.heap.size w35 W36 := hW36 ▸ bal _ _
                    have Q36 : Hid (Bx W36 q36 [.slice none 0 0, .int .i64 0, .slice none 0 0, .slice none 0 0, .int .i64 0, .slice none 0 0]) := hW36 ▸ Lib.hid (Bx.put _ hq36 #[.slice none 0 0, .int .i64 0, .slice none 0 0, .slice none 0 0, .int .i64 0, .slice none 0 0] 48)
                    have TQ36 : Hid (Ty W36 q36 48) := hW36 ▸ hq36 ▸ Lib.hid (Ty.new _ _ _)
                    have HW36 := Lib.hid hW36
                    clear hW36
                    have bF := b35.trans (b36.mono b35.size)
                    clear PB
                    go_upto_region 36 with fail
                    rw [HW36.out]
                    go_wp2_with fail
                    go_ret
                    exact ⟨rfl, bF⟩
                  · omega
                · have d3 : decide ((wn : Int) = 100) = false := decide_eq_false (by omega)
                  have d3' : ((wn : Int) == 100) = false := by simp; omega
                  -- the end: from world wr (b5R : Below from w5)
                  have bwE := bw5.trans (b5R.mono bw5.size)
                  have ZE := Lib.hid (Z.out.nx b5R)
                  have z0 := ZE.out.at_ 0 (by simp)
                  have z1 := ZE.out.at_ 1 (by simp)
                  have z2 := ZE.out.at_ 2 (by simp)
                  have z3 := ZE.out.at_ 3 (by simp)
                  have z4 := ZE.out.at_ 4 (by simp)
                  simp only [List.getElem?_cons_succ, List.getElem?_cons_zero] at z0 z1 z2 z3 z4
                  obtain ⟨pB, hpB⟩ : ∃ pB, wr.heap.size = pB := ⟨_, rfl⟩
                  obtain ⟨V1, hV1⟩ : ∃ V1, wr.alloc (.cells #[.int .u8 1] 5) = V1 := ⟨_, rfl⟩
                  have e1 : Below wr.heap.size wr V1 := hV1 ▸ bal _ _
                  have B1 : Hid (Bx V1 pB [.int .u8 1]) := hV1 ▸ Lib.hid (Bx.put _ hpB #[.int .u8 1] 5)
                  have TB1 : Hid (Ty V1 pB 5) := hV1 ▸ hpB ▸ Lib.hid (Ty.new _ _ _)
                  have HV1 := Lib.hid hV1
                  clear hV1
                  obtain ⟨pC, hpC⟩ : ∃ pC, V1.heap.size = pC := ⟨_, rfl⟩
                  obtain ⟨V2, hV2⟩ : ∃ V2, V1.alloc (.cells #[.slice K kn kc, .slice (some ⟨pB, 0, none⟩) 1 1, .bool true] 45) = V2 := ⟨_, rfl⟩
                  have e2 : Below V1.heap.size V1 V2 := hV2 ▸ bal _ _
                  have B2 : Hid (Bx V2 pC [.slice K kn kc, .slice (some ⟨pB, 0, none⟩) 1 1, .bool true]) := hV2 ▸ Lib.hid (Bx.put _ hpC #[.slice K kn kc, .slice (some ⟨pB, 0, none⟩) 1 1, .bool true] 45)
                  have TB2 : Hid (Ty V2 pC 45) := hV2 ▸ hpC ▸ Lib.hid (Ty.new _ _ _)
                  have HV2 := Lib.hid hV2
                  clear hV2
                  obtain ⟨pD, hpD⟩ : ∃ pD, V2.heap.size = pD := ⟨_, rfl⟩
                  obtain ⟨V3, hV3⟩ : ∃ V3, V2.alloc (.cells #[.slice none 0 0, .int .i64 (-1), .slice none 0 0, .slice LA ln lc, .int .i64 (n : Int), .slice (some ⟨pC, 0, none⟩) 1 1] 48) = V3 := ⟨_, rfl⟩
                  have e3 : Below V2.heap.size V2 V3 := hV3 ▸ bal _ _
                  have B3 : Hid (Bx V3 pD [.slice none 0 0, .int .i64 (-1), .slice none 0 0, .slice LA ln lc, .int .i64 (n : Int), .slice (some ⟨pC, 0, none⟩) 1 1]) := hV3 ▸ Lib.hid (Bx.put _ hpD #[.slice none 0 0, .int .i64 (-1), .slice none 0 0, .slice LA ln lc, .int .i64 (n : Int), .slice (some ⟨pC, 0, none⟩) 1 1] 48)
                  have TB3 : Hid (Ty V3 pD 48) := hV3 ▸ hpD ▸ Lib.hid (Ty.new _ _ _)
                  have HV3 := Lib.hid hV3
                  clear hV3
                  have eC : pC = pB + 1 := by rw [← hpC, ← HV1.out, ← hpB]; simp
                  have eD : pD = pB + 1 + 1 := by rw [← hpD, ← HV2.out, World.size_alloc, hpC, eC]
                  subst eC eD
                  have e13 := e1.trans ((e2.trans (e3.mono e2.size)).mono e1.size)
                  have e12 := e1.trans (e2.mono e1.size)
                  have bE3 := b5R.trans (e13.mono (b5R).size)
                  have bw3' := bw5.trans (bE3.mono bw5.size)
                  have ZE1 := Lib.hid (ZE.out.nx e1)
                  have RC : Hid (Cr V3 (some ⟨pB + 1, 0, none⟩) 1 1 [(⟨K, kc, key, some ⟨pB, 0, none⟩, 1, [1], true⟩ : CV)]) := by
                    have r1 : Rd V1 1 (some ⟨pB, 0, none⟩) 1 1 (bv [1]) := HV1.out ▸ rd_lit wr hpB _ 1 #[.int .u8 1] 1 (by omega) rfl
                    have r2 : Rd V2 3 (some ⟨pB + 1, 0, none⟩) 1 1 (cvs [(⟨K, kc, key, some ⟨pB, 0, none⟩, 1, [1], true⟩ : CV)]) := by
                      have h : Rd V2 3 (some ⟨pB + 1, 0, none⟩) 1 1 [.slice K kn kc, .slice (some ⟨pB, 0, none⟩) 1 1, .bool true] := HV2.out ▸ rd_lit V1 hpC _ 3 #[.slice K kn kc, .slice (some ⟨pB, 0, none⟩) 1 1, .bool true] 1 (by omega) rfl
                      have e : cvs [(⟨K, kc, key, some ⟨pB, 0, none⟩, 1, [1], true⟩ : CV)] = [.slice K kn kc, .slice (some ⟨pB, 0, none⟩) 1 1, .bool true] := by simp [cvs, CV.cs, KN.out]
                      rw [e]; exact h
                    refine Lib.hid ⟨r2.below e3, fun y hy => ?_⟩
                    obtain rfl := List.mem_singleton.1 hy
                    refine ⟨?_, r1.below (e2.trans (e3.mono e2.size))⟩
                    show Rd V3 1 K key.length kc (bv key)
                    rw [← KN.out]; exact hk.out.nx bw3'
                  have CB := Lib.hid (sCommit_bad (last := (n : Int)) V3 (Lib.hid (G.out.nx bw3')) (Lib.hid (S3.out.nx bE3).st) RC (Lib.hid fun h => by have := h.2.2 _ (List.mem_singleton.2 rfl); unfold CV.ch Ch.ok okN at this; simp at this))
                  go_upto_region 33 with fail
                  rw [HV1.out, HV2.out, HV3.out]
                  have y0 := B3.out.at_ 0 (by simp)
                  have y1 := B3.out.at_ 1 (by simp)
                  have y2 := B3.out.at_ 2 (by simp)
                  have y3 := B3.out.at_ 3 (by simp)
                  have y4 := B3.out.at_ 4 (by simp)
                  have y5 := B3.out.at_ 5 (by simp)
                  simp only [List.getElem?_cons_succ, List.getElem?_cons_zero] at y0 y1 y2 y3 y4 y5
                  go_wp2_with fail
                  go_at_call 22
                  refine CB.out.mono ?_
                  rintro e w31 ⟨rfl, b31⟩
                  obtain ⟨q26, hq26⟩ : ∃ q26, w31.heap.size = q26 := ⟨_, rfl⟩
                  obtain ⟨W32, hW32⟩ : ∃ W32, w31.alloc (.cells #[.slice none 0 0, .int .i64 0, .slice none 0 0, .slice none 0 0, .int .i64 0] 31) = W32 := ⟨_, rfl⟩
                  have b32 : Below w31.heap.size w31 W32 := hW32 ▸ bal _ _
                  have Q26 : Hid (Bx W32 q26 [.slice none 0 0, .int .i64 0, .slice none 0 0, .slice none 0 0, .int .i64 0]) := hW32 ▸ Lib.hid (Bx.put _ hq26 #[.slice none 0 0, .int .i64 0, .slice none 0 0, .slice none 0 0, .int .i64 0] 31)
                  have TQ26 : Hid (Ty W32 q26 31) := hW32 ▸ hq26 ▸ Lib.hid (Ty.new _ _ _)
                  have HW32 := Lib.hid hW32
                  clear hW32
                  have b3132 := b31.trans (b32.mono b31.size)
                  have GN := sGet_no (last := -1) (A := none) (n := 0) (c := 0) (l := []) (K := K) (kn := kn) (kc := kc) W32 (Lib.hid (G.out.nx (bw3'.trans (b3132.mono bw3'.size)))) (Lib.hid (zil_sto W32)) (Lib.hid (Cr.nil_ _)) (Lib.hid fun _ h => by have := h.2.1.1; omega)
                  rw [HKK.out] at GN
                  have GN := Lib.hid GN
                  have PB := Lib.hid fun (U : World) (VA : Option Addr) => sPut_arg (PA := none) (FA := none) (LA := none) (np := 0) (pc := 0) (m := 0) (fc := 0) (ln := 0) (lc := 0) (r0 := 0) (last := 0) (A := none) (n := 0) (c := 0) (K := K) (kn := kn) (kc := kc) (VA := VA) (vn := 121) (vc := 121) U (Lib.hid (by rw [show valN 121 = false from rfl, Bool.and_false]))
                  clear CB
                  go_upto_region 34 with fail
                  rw [HW32.out]
                  go_wp2_with fail
                  go_at_call 21
                  refine GN.out.mono ?_
                  rintro e w33 ⟨rfl, b33⟩
                  have b333 := bw3'.trans ((b3132.trans (b33.mono b3132.size)).mono bw3'.size)
                  clear GN
                  obtain ⟨w34, A34, hmk, b34⟩ := mk121 w33
                  have b34 := b333.trans (b34.mono b333.size)
                  go_wp2_with fail
                  go_at_call 19
                  refine (PB.out w34 _).mono ?_
                  rintro e w35 ⟨rfl, b35⟩
                  have b35 := b34.trans (b35.mono b34.size)
                  obtain ⟨q36, hq36⟩ : ∃ q36, w35.heap.size = q36 := ⟨_, rfl⟩
                  obtain ⟨W36, hW36⟩ : ∃ W36, w35.alloc (.cells #[.slice none 0 0, .int .i64 0, .slice none 0 0, .slice none 0 0, .int .i64 0, .slice none 0 0] 48) = W36 := ⟨_, rfl⟩
                  have b36 : Below w35.heap.size w35 W36 := hW36 ▸ bal _ _
                  have Q36 : Hid (Bx W36 q36 [.slice none 0 0, .int .i64 0, .slice none 0 0, .slice none 0 0, .int .i64 0, .slice none 0 0]) := hW36 ▸ Lib.hid (Bx.put _ hq36 #[.slice none 0 0, .int .i64 0, .slice none 0 0, .slice none 0 0, .int .i64 0, .slice none 0 0] 48)
                  have TQ36 : Hid (Ty W36 q36 48) := hW36 ▸ hq36 ▸ Lib.hid (Ty.new _ _ _)
                  have HW36 := Lib.hid hW36
                  clear hW36
                  have bF := b35.trans (b36.mono b35.size)
                  clear PB
                  go_upto_region 36 with fail
                  rw [HW36.out]
                  go_wp2_with fail
                  go_ret
                  exact ⟨rfl, bF⟩
          · rw [AE.out _ hM12.out, ho] at hm; cases hm
        · omega
        · obtain ⟨d9, hd9, rfl⟩ : ∃ d, o = some d ∧ er9 = 0 := by
            rcases res9 with ⟨_, h2, _⟩ | ⟨h1, d, hd, _⟩
            · exact absurd h2 ho
            · exact ⟨d, hd, h1⟩
          rw [Nat.zero_add]
          obtain ⟨q17, hq17⟩ : ∃ q17, w10.heap.size = q17 := ⟨_, rfl⟩
          obtain ⟨W11, hW11⟩ : ∃ W11, w10.alloc (.cells #[.slice none 0 0, .int .i64 (-1), .slice none 0 0, .slice LA ln lc, .int .i64 (n : Int), .slice A10 1 c10] 48) = W11 := ⟨_, rfl⟩
          have b11 : Below w10.heap.size w10 W11 := hW11 ▸ bal _ _
          have R : Hid (Bx W11 q17 [.slice none 0 0, .int .i64 (-1), .slice none 0 0, .slice LA ln lc, .int .i64 (n : Int), .slice A10 1 c10]) := hW11 ▸ Lib.hid (Bx.put _ hq17 #[.slice none 0 0, .int .i64 (-1), .slice none 0 0, .slice LA ln lc, .int .i64 (n : Int), .slice A10 1 c10] 48)
          have TR : Hid (Ty W11 q17 48) := hW11 ▸ hq17 ▸ Lib.hid (Ty.new _ _ _)
          have HW11 := Lib.hid hW11
          clear hW11
          have b611 := b69.trans ((b10.trans (b11.mono b10.size)).mono b69.size)
          clear res9 u0 u1 u2 u3 u4 u5
          go_upto_region 12 with fail
          rw [HW11.out]
          go_wp2_with fail
          go_at_call 15
          refine (KY.out _).mono ?_
          rintro e w' ⟨rfl, rfl⟩
          go_wp2_with fail
          go_at_call 24
          refine (VY.out _).mono ?_
          rintro e w' ⟨rfl, rfl⟩
          go_wp2_with fail
          go_at_call 12
          refine (model_any _ (Lib.hid (HX1.out.nx b611)) (by omega) SM).mono ?_
          rintro e w12 ⟨A12, n12, c12, M12, rfl, hM12, C12, _, b12⟩
          have b612 := b611.trans (b12.mono b611.size)
          have FD := rFind_any w12 C12 (Lib.hid (K6.out.nx b612))
          rcases fnd_cases (M12.map CV.ch) key with ⟨hf, hm⟩ | ⟨q2, z, hf, _, _⟩
          · rw [AE.out _ hM12.out, hd9] at hm; cases hm
          · rw [hf] at FD
            have FD := Lib.hid FD
            have q3 : decide ((q2 : Int) ≥ 0) = true := decide_eq_true (by omega)
            clear hf ho GT DL KY VY AE hd9
            go_wp2_with fail
            go_at_call 14
            refine FD.out.mono ?_
            rintro e V0 ⟨rfl, nq, hV0⟩
            have b6V : Below W6.heap.size W6 V0 := hV0 ▸ (bdrewN b612)
            clear hV0 FD
            -- the loop: from world V0 (b5V : Below from w5)
            have UV := Lib.hid (U.out.nx b6V)
            have b5V := b6.trans (b6V.mono b6.size)
            have C0 : Hid (Cr V0 none 0 0 []) := Lib.hid (Cr.nil_ _)
            obtain ⟨r, hr1, hr2⟩ : ∃ r : Nat, nn.tmod 20 = (r : Int) ∧ r < 20 := ⟨(nn.tmod 20).toNat, by rw [Int.tmod_eq_emod_of_nonneg nn0]; omega, by rw [Int.tmod_eq_emod_of_nonneg nn0]; omega⟩
            go_wp2_with fail
            go_loopw [135] (fun iv wr => ∃ (j wn : Nat) (WA : Option Addr) (wc : Nat) (wl : List CV), j ≤ 90 + r ∧ iv = .int .i64 j ∧ wn ≤ 100 ∧ wn ≤ j ∧ (j ≤ 100 → wn = j) ∧ (100 ≤ j → wn = 100) ∧ Hid (Bx wr q11 [.slice none 0 0, .int .i64 (-1), .slice none 0 0, .slice LA ln lc, .int .i64 (n : Int), .slice WA wn wc]) ∧ Hid (Cr wr WA wn wc wl) ∧ Hid (∀ y ∈ wl, y.ch = ⟨key, val, false⟩) ∧ Hid (∀ y ∈ wl, ∀ g, blk y.A = some g ∨ blk y.B = some g → q11 < g) ∧ Below w5.heap.size w5 wr) (fun iv _ => (90 + r - intOf iv).toNat)
            case atStart => exact ⟨0, 0, none, 0, [], by omega, rfl, by omega, by omega, by omega, by omega, UV, C0, Lib.hid (by simp), Lib.hid (by simp), b5V⟩
            case round =>
              obtain ⟨j, wn, WA, wc, wl, hj, rfl, w100, wj, wj1, wj2, UR, CR, WL, FR, b5R⟩ := hrel
              clear UV C0
              have bwR := bw5.trans (b5R.mono bw5.size)
              have okl : Hid (∀ y ∈ wl, y.ch.ok = true) := Lib.hid fun y hy => by
                rw [WL.out y hy]
                unfold Ch.ok
                show okN key.length val.length false = true
                rw [← KN.out, ← VN.out, okN_eq, HKK.out, HVV.out]; rfl
              have WV := Lib.hid ((S3.out.nx b5R).wvd (l := wl) (by have := CR.out.len; omega) okl.out)
              by_cases hlt : j < 90 + r
              · have d1 : decide ((j : Int) < 90 + (r : Int)) = true := decide_eq_true (by omega)
                have PT := Lib.hid (sPut_ok (last := (n : Int)) wr (Lib.hid (G.out.nx bwR)) (Lib.hid (S3.out.nx b5R).st) CR WV (Lib.hid (hk.out.nx bwR)) (Lib.hid (hv.out.nx bwR)) (Lib.hid ⟨HKK.out, HVV.out⟩))
                have u0 := UR.out.at_ 0 (by simp)
                have u1 := UR.out.at_ 1 (by simp)
                have u2 := UR.out.at_ 2 (by simp)
                have u3 := UR.out.at_ 3 (by simp)
                have u4 := UR.out.at_ 4 (by simp)
                have u5 := UR.out.at_ 5 (by simp)
                simp only [List.getElem?_cons_succ, List.getElem?_cons_zero] at u0 u1 u2 u3 u4 u5
                go_wp2_with fail
                go_at_call 19
                refine PT.out.mono ?_
                rintro e w20 hpost
                rcases hpost with ⟨⟨h100, rfl⟩ | ⟨h100, A20, c20, x20, rfl, xch, co, fr⟩, b20⟩
                · obtain ⟨q21, hq21⟩ : ∃ q21, w20.heap.size = q21 := ⟨_, rfl⟩
                  obtain ⟨W21, hW21⟩ : ∃ W21, w20.alloc (.cells #[.slice none 0 0, .int .i64 0, .slice none 0 0, .slice none 0 0, .int .i64 0, .slice none 0 0] 48) = W21 := ⟨_, rfl⟩
                  have b21 : Below w20.heap.size w20 W21 := hW21 ▸ bal _ _
                  have Y : Hid (Bx W21 q21 [.slice none 0 0, .int .i64 0, .slice none 0 0, .slice none 0 0, .int .i64 0, .slice none 0 0]) := hW21 ▸ Lib.hid (Bx.put _ hq21 #[.slice none 0 0, .int .i64 0, .slice none 0 0, .slice none 0 0, .int .i64 0, .slice none 0 0] 48)
                  have TY : Hid (Ty W21 q21 48) := hW21 ▸ hq21 ▸ Lib.hid (Ty.new _ _ _)
                  have HW21 := Lib.hid hW21
                  clear hW21
                  have b2021 := b20.trans (b21.mono b20.size)
                  have d2 : decide ((j : Int) < 100) = false := decide_eq_false (by omega)
                  have U21 := Lib.hid (UR.out.nx b2021)
                  have C21 := Lib.hid (CR.out.nx b2021)
                  have b5R2 := b5R.trans (b2021.mono b5R.size)
                  clear u0 u1 u2 u3 u4 u5 PT
                  go_upto_region 23 with fail
                  rw [HW21.out]
                  go_wp2_with fail
                  go_roundw
                  case rel => exact ⟨j + 1, wn, WA, wc, wl, by omega, by go_num, by omega, by omega, by omega, by omega, U21, C21, WL, FR, b5R2⟩
                  case measure => simp [intOf]; omega
                · obtain ⟨q21, hq21⟩ : ∃ q21, w20.heap.size = q21 := ⟨_, rfl⟩
                  obtain ⟨W21, hW21⟩ : ∃ W21, w20.alloc (.cells #[.slice none 0 0, .int .i64 (-1), .slice none 0 0, .slice LA ln lc, .int .i64 (n : Int), .slice A20 (wn + 1) c20] 48) = W21 := ⟨_, rfl⟩
                  have b21 : Below w20.heap.size w20 W21 := hW21 ▸ bal _ _
                  have Y : Hid (Bx W21 q21 [.slice none 0 0, .int .i64 (-1), .slice none 0 0, .slice LA ln lc, .int .i64 (n : Int), .slice A20 (wn + 1) c20]) := hW21 ▸ Lib.hid (Bx.put _ hq21 #[.slice none 0 0, .int .i64 (-1), .slice none 0 0, .slice LA ln lc, .int .i64 (n : Int), .slice A20 (wn + 1) c20] 48)
                  have TY : Hid (Ty W21 q21 48) := hW21 ▸ hq21 ▸ Lib.hid (Ty.new _ _ _)
                  have HW21 := Lib.hid hW21
                  clear hW21
                  have b2021 := b20.trans (b21.mono b20.size)
                  have d2 : decide ((j : Int) < 100) = true := decide_eq_true (by omega)
                  have U21 := Lib.hid (UR.out.nx b2021)
                  have b5R2 := b5R.trans (b2021.mono b5R.size)
                  have ql := UR.out.lt
                  have CO := Lib.hid (co.out.nx b21)
                  have q5 : w5.heap.size ≤ q11 := by omega
                  clear u0 u1 u2 u3 u4 u5 PT co
                  have y0 := Y.out.at_ 0 (by simp)
                  have y1 := Y.out.at_ 1 (by simp)
                  have y2 := Y.out.at_ 2 (by simp)
                  have y3 := Y.out.at_ 3 (by simp)
                  have y4 := Y.out.at_ 4 (by simp)
                  have y5 := Y.out.at_ 5 (by simp)
                  simp only [List.getElem?_cons_succ, List.getElem?_cons_zero] at y0 y1 y2 y3 y4 y5
                  have u0 := U21.out.at_ 0 (by simp)
                  have u1 := U21.out.at_ 1 (by simp)
                  have u2 := U21.out.at_ 2 (by simp)
                  have u3 := U21.out.at_ 3 (by simp)
                  have u4 := U21.out.at_ 4 (by simp)
                  have u5 := U21.out.at_ 5 (by simp)
                  simp only [List.getElem?_cons_succ, List.getElem?_cons_zero] at u0 u1 u2 u3 u4 u5
                  have f0 := U21.out.fz 0 (by simp)
                  have f1 := U21.out.fz 1 (by simp)
                  have f2 := U21.out.fz 2 (by simp)
                  have f3 := U21.out.fz 3 (by simp)
                  have f4 := U21.out.fz 4 (by simp)
                  have f5 := U21.out.fz 5 (by simp)
                  have U22 := Lib.hid (res6_cells U21.out rfl (.slice none 0 0) (.int .i64 (-1)) (.slice none 0 0) (.slice LA ln lc) (.int .i64 (n : Int)) (.slice A20 (wn + 1) c20))
                  have b22 := res6_below (a := .slice none 0 0) (b := .int .i64 (-1)) (c := .slice none 0 0) (d := .slice LA ln lc) (e := .int .i64 (n : Int)) (g := .slice A20 (wn + 1) c20) b5R2 q5
                  have O22 := Lib.hid (own_res6 (R := q11) (a := .slice none 0 0) (b := .int .i64 (-1)) (d := .slice none 0 0) (e := .slice LA ln lc) (f := .int .i64 (n : Int)) (g := .slice A20 (wn + 1) c20) CO.out.own ql)
                  have FR2 : Hid (∀ y ∈ wl ++ [x20], ∀ g, blk y.A = some g ∨ blk y.B = some g → q11 < g) := Lib.hid fun y hy g e => by
                    rcases List.mem_append.1 hy with hy | hy
                    · exact FR.out y hy g e
                    · obtain rfl := List.mem_singleton.1 hy
                      have := fr.out g e; omega
                  have D22 : Hid (∀ y ∈ wl ++ [x20], Dt ((((((W21.setCell ⟨q11, 0, none⟩ (.slice none 0 0)).setCell ⟨q11, 1, none⟩ (.int .i64 (-1))).setCell ⟨q11, 2, none⟩ (.slice none 0 0)).setCell ⟨q11, 3, none⟩ (.slice LA ln lc)).setCell ⟨q11, 4, none⟩ (.int .i64 (n : Int))).setCell ⟨q11, 5, none⟩ (.slice A20 (wn + 1) c20)) y) := Lib.hid fun y hy =>
                    dt_res6 (CO.out.dat y hy) fun g e => by have := FR2.out y hy g e; omega
                  have WL2 : Hid (∀ y ∈ wl ++ [x20], y.ch = ⟨key, val, false⟩) := Lib.hid fun y hy => by
                    rcases List.mem_append.1 hy with hy | hy
                    · exact WL.out y hy
                    · obtain rfl := List.mem_singleton.1 hy
                      exact xch.out
                  go_upto_region 23 with fail
                  rw [HW21.out]
                  go_wp2_with fail
                  obtain ⟨W22, hW22⟩ : ∃ u, ((((((W21.setCell ⟨q11, 0, none⟩ (.slice none 0 0)).setCell ⟨q11, 1, none⟩ (.int .i64 (-1))).setCell ⟨q11, 2, none⟩ (.slice none 0 0)).setCell ⟨q11, 3, none⟩ (.slice LA ln lc)).setCell ⟨q11, 4, none⟩ (.int .i64 (n : Int))).setCell ⟨q11, 5, none⟩ (.slice A20 (wn + 1) c20)) = u := ⟨_, rfl⟩
                  rw [hW22] at U22 b22 O22 D22
                  have C22 : Hid (Cr W22 A20 (wn + 1) c20 (wl ++ [x20])) := Lib.hid ⟨Rd.of_own O22.out, D22.out⟩
                  subst hW22
                  go_roundw
                  case rel => exact ⟨j + 1, wn + 1, A20, c20, wl ++ [x20], by omega, by go_num, by omega, by omega, by omega, by omega, U22, C22, WL2, FR2, b22⟩
                  case measure => simp [intOf]; omega
              · obtain rfl : j = 90 + r := by omega
                have d1 : decide (((90 + r : Nat) : Int) < 90 + (r : Int)) = false := decide_eq_false (by omega)
                have d1' : decide ((90 : Int) + (r : Int) < 90 + (r : Int)) = false := decide_eq_false (by omega)
                have u0 := UR.out.at_ 0 (by simp)
                have u1 := UR.out.at_ 1 (by simp)
                have u2 := UR.out.at_ 2 (by simp)
                have u3 := UR.out.at_ 3 (by simp)
                have u4 := UR.out.at_ 4 (by simp)
                have u5 := UR.out.at_ 5 (by simp)
                simp only [List.getElem?_cons_succ, List.getElem?_cons_zero] at u0 u1 u2 u3 u4 u5
                by_cases h100 : wn = 100
                · subst h100
                  have hne : wl ≠ [] := fun e => by have := CR.out.len; rw [e] at this; simp at this
                  have AP := Lib.hid (app_rep (b := fun _ => none) (cs := Ts.flatten) hne WL.out)
                  have DL := sDel_ok (last := (n : Int)) wr (Lib.hid (G.out.nx bwR)) (Lib.hid (S3.out.nx b5R).st) (Lib.hid S3.out.e) (Lib.hid S3.out.tr) CR WV (Lib.hid (hk.out.nx bwR)) HKK.out
                  rw [AP.out] at DL
                  have DL := Lib.hid DL
                  go_wp2_with fail
                  go_at_call 18
                  refine DL.out.mono ?_
                  rintro e w23 hpost
                  rcases hpost with ⟨hno, _⟩ | ⟨_, ⟨⟨_, rfl⟩ | ⟨h, _⟩, b23⟩⟩
                  · cases hno
                  · obtain ⟨q23, hq23⟩ : ∃ q23, w23.heap.size = q23 := ⟨_, rfl⟩
                    obtain ⟨W24, hW24⟩ : ∃ W24, w23.alloc (.cells #[.slice none 0 0, .int .i64 0, .slice none 0 0, .slice none 0 0, .int .i64 0, .slice none 0 0] 48) = W24 := ⟨_, rfl⟩
                    have b24 : Below w23.heap.size w23 W24 := hW24 ▸ bal _ _
                    have Y : Hid (Bx W24 q23 [.slice none 0 0, .int .i64 0, .slice none 0 0, .slice none 0 0, .int .i64 0, .slice none 0 0]) := hW24 ▸ Lib.hid (Bx.put _ hq23 #[.slice none 0 0, .int .i64 0, .slice none 0 0, .slice none 0 0, .int .i64 0, .slice none 0 0] 48)
                    have TY : Hid (Ty W24 q23 48) := hW24 ▸ hq23 ▸ Lib.hid (Ty.new _ _ _)
                    have HW24 := Lib.hid hW24
                    clear hW24
                    have b5W := b5R.trans ((b23.trans (b24.mono b23.size)).mono b5R.size)
                    clear u0 u1 u2 u3 u4 u5 DL
                    go_upto_region 30 with fail
                    rw [HW24.out]
                    -- the end: from world W24 (b5W : Below from w5)
                    have bwE := bw5.trans (b5W.mono bw5.size)
                    have ZE := Lib.hid (Z.out.nx b5W)
                    have z0 := ZE.out.at_ 0 (by simp)
                    have z1 := ZE.out.at_ 1 (by simp)
                    have z2 := ZE.out.at_ 2 (by simp)
                    have z3 := ZE.out.at_ 3 (by simp)
                    have z4 := ZE.out.at_ 4 (by simp)
                    simp only [List.getElem?_cons_succ, List.getElem?_cons_zero] at z0 z1 z2 z3 z4
                    obtain ⟨pB, hpB⟩ : ∃ pB, W24.heap.size = pB := ⟨_, rfl⟩
                    obtain ⟨V1, hV1⟩ : ∃ V1, W24.alloc (.cells #[.int .u8 1] 5) = V1 := ⟨_, rfl⟩
                    have e1 : Below W24.heap.size W24 V1 := hV1 ▸ bal _ _
                    have B1 : Hid (Bx V1 pB [.int .u8 1]) := hV1 ▸ Lib.hid (Bx.put _ hpB #[.int .u8 1] 5)
                    have TB1 : Hid (Ty V1 pB 5) := hV1 ▸ hpB ▸ Lib.hid (Ty.new _ _ _)
                    have HV1 := Lib.hid hV1
                    clear hV1
                    obtain ⟨pC, hpC⟩ : ∃ pC, V1.heap.size = pC := ⟨_, rfl⟩
                    obtain ⟨V2, hV2⟩ : ∃ V2, V1.alloc (.cells #[.slice K kn kc, .slice (some ⟨pB, 0, none⟩) 1 1, .bool true] 45) = V2 := ⟨_, rfl⟩
                    have e2 : Below V1.heap.size V1 V2 := hV2 ▸ bal _ _
                    have B2 : Hid (Bx V2 pC [.slice K kn kc, .slice (some ⟨pB, 0, none⟩) 1 1, .bool true]) := hV2 ▸ Lib.hid (Bx.put _ hpC #[.slice K kn kc, .slice (some ⟨pB, 0, none⟩) 1 1, .bool true] 45)
                    have TB2 : Hid (Ty V2 pC 45) := hV2 ▸ hpC ▸ Lib.hid (Ty.new _ _ _)
                    have HV2 := Lib.hid hV2
                    clear hV2
                    obtain ⟨pD, hpD⟩ : ∃ pD, V2.heap.size = pD := ⟨_, rfl⟩
                    obtain ⟨V3, hV3⟩ : ∃ V3, V2.alloc (.cells #[.slice none 0 0, .int .i64 (-1), .slice none 0 0, .slice LA ln lc, .int .i64 (n : Int), .slice (some ⟨pC, 0, none⟩) 1 1] 48) = V3 := ⟨_, rfl⟩
                    have e3 : Below V2.heap.size V2 V3 := hV3 ▸ bal _ _
                    have B3 : Hid (Bx V3 pD [.slice none 0 0, .int .i64 (-1), .slice none 0 0, .slice LA ln lc, .int .i64 (n : Int), .slice (some ⟨pC, 0, none⟩) 1 1]) := hV3 ▸ Lib.hid (Bx.put _ hpD #[.slice none 0 0, .int .i64 (-1), .slice none 0 0, .slice LA ln lc, .int .i64 (n : Int), .slice (some ⟨pC, 0, none⟩) 1 1] 48)
                    have TB3 : Hid (Ty V3 pD 48) := hV3 ▸ hpD ▸ Lib.hid (Ty.new _ _ _)
                    have HV3 := Lib.hid hV3
                    clear hV3
                    have eC : pC = pB + 1 := by rw [← hpC, ← HV1.out, ← hpB]; simp
                    have eD : pD = pB + 1 + 1 := by rw [← hpD, ← HV2.out, World.size_alloc, hpC, eC]
                    subst eC eD
                    have e13 := e1.trans ((e2.trans (e3.mono e2.size)).mono e1.size)
                    have e12 := e1.trans (e2.mono e1.size)
                    have bE3 := b5W.trans (e13.mono (b5W).size)
                    have bw3' := bw5.trans (bE3.mono bw5.size)
                    have ZE1 := Lib.hid (ZE.out.nx e1)
                    have RC : Hid (Cr V3 (some ⟨pB + 1, 0, none⟩) 1 1 [(⟨K, kc, key, some ⟨pB, 0, none⟩, 1, [1], true⟩ : CV)]) := by
                      have r1 : Rd V1 1 (some ⟨pB, 0, none⟩) 1 1 (bv [1]) := HV1.out ▸ rd_lit W24 hpB _ 1 #[.int .u8 1] 1 (by omega) rfl
                      have r2 : Rd V2 3 (some ⟨pB + 1, 0, none⟩) 1 1 (cvs [(⟨K, kc, key, some ⟨pB, 0, none⟩, 1, [1], true⟩ : CV)]) := by
                        have h : Rd V2 3 (some ⟨pB + 1, 0, none⟩) 1 1 [.slice K kn kc, .slice (some ⟨pB, 0, none⟩) 1 1, .bool true] := HV2.out ▸ rd_lit V1 hpC _ 3 #[.slice K kn kc, .slice (some ⟨pB, 0, none⟩) 1 1, .bool true] 1 (by omega) rfl
                        have e : cvs [(⟨K, kc, key, some ⟨pB, 0, none⟩, 1, [1], true⟩ : CV)] = [.slice K kn kc, .slice (some ⟨pB, 0, none⟩) 1 1, .bool true] := by simp [cvs, CV.cs, KN.out]
                        rw [e]; exact h
                      refine Lib.hid ⟨r2.below e3, fun y hy => ?_⟩
                      obtain rfl := List.mem_singleton.1 hy
                      refine ⟨?_, r1.below (e2.trans (e3.mono e2.size))⟩
                      show Rd V3 1 K key.length kc (bv key)
                      rw [← KN.out]; exact hk.out.nx bw3'
                    have CB := Lib.hid (sCommit_bad (last := (n : Int)) V3 (Lib.hid (G.out.nx bw3')) (Lib.hid (S3.out.nx bE3).st) RC (Lib.hid fun h => by have := h.2.2 _ (List.mem_singleton.2 rfl); unfold CV.ch Ch.ok okN at this; simp at this))
                    go_upto_region 33 with fail
                    rw [HV1.out, HV2.out, HV3.out]
                    have y0 := B3.out.at_ 0 (by simp)
                    have y1 := B3.out.at_ 1 (by simp)
                    have y2 := B3.out.at_ 2 (by simp)
                    have y3 := B3.out.at_ 3 (by simp)
                    have y4 := B3.out.at_ 4 (by simp)
                    have y5 := B3.out.at_ 5 (by simp)
                    simp only [List.getElem?_cons_succ, List.getElem?_cons_zero] at y0 y1 y2 y3 y4 y5
                    go_wp2_with fail
                    go_at_call 22
                    refine CB.out.mono ?_
                    rintro e w31 ⟨rfl, b31⟩
                    obtain ⟨q26, hq26⟩ : ∃ q26, w31.heap.size = q26 := ⟨_, rfl⟩
                    obtain ⟨W32, hW32⟩ : ∃ W32, w31.alloc (.cells #[.slice none 0 0, .int .i64 0, .slice none 0 0, .slice none 0 0, .int .i64 0] 31) = W32 := ⟨_, rfl⟩
                    have b32 : Below w31.heap.size w31 W32 := hW32 ▸ bal _ _
                    have Q26 : Hid (Bx W32 q26 [.slice none 0 0, .int .i64 0, .slice none 0 0, .slice none 0 0, .int .i64 0]) := hW32 ▸ Lib.hid (Bx.put _ hq26 #[.slice none 0 0, .int .i64 0, .slice none 0 0, .slice none 0 0, .int .i64 0] 31)
                    have TQ26 : Hid (Ty W32 q26 31) := hW32 ▸ hq26 ▸ Lib.hid (Ty.new _ _ _)
                    have HW32 := Lib.hid hW32
                    clear hW32
                    have b3132 := b31.trans (b32.mono b31.size)
                    have GN := sGet_no (last := -1) (A := none) (n := 0) (c := 0) (l := []) (K := K) (kn := kn) (kc := kc) W32 (Lib.hid (G.out.nx (bw3'.trans (b3132.mono bw3'.size)))) (Lib.hid (zil_sto W32)) (Lib.hid (Cr.nil_ _)) (Lib.hid fun _ h => by have := h.2.1.1; omega)
                    rw [HKK.out] at GN
                    have GN := Lib.hid GN
                    have PB := Lib.hid fun (U : World) (VA : Option Addr) => sPut_arg (PA := none) (FA := none) (LA := none) (np := 0) (pc := 0) (m := 0) (fc := 0) (ln := 0) (lc := 0) (r0 := 0) (last := 0) (A := none) (n := 0) (c := 0) (K := K) (kn := kn) (kc := kc) (VA := VA) (vn := 121) (vc := 121) U (Lib.hid (by rw [show valN 121 = false from rfl, Bool.and_false]))
                    clear CB
                    go_upto_region 34 with fail
                    rw [HW32.out]
                    go_wp2_with fail
                    go_at_call 21
                    refine GN.out.mono ?_
                    rintro e w33 ⟨rfl, b33⟩
                    have b333 := bw3'.trans ((b3132.trans (b33.mono b3132.size)).mono bw3'.size)
                    clear GN
                    obtain ⟨w34, A34, hmk, b34⟩ := mk121 w33
                    have b34 := b333.trans (b34.mono b333.size)
                    go_wp2_with fail
                    go_at_call 19
                    refine (PB.out w34 _).mono ?_
                    rintro e w35 ⟨rfl, b35⟩
                    have b35 := b34.trans (b35.mono b34.size)
                    obtain ⟨q36, hq36⟩ : ∃ q36, w35.heap.size = q36 := ⟨_, rfl⟩
                    obtain ⟨W36, hW36⟩ : ∃ W36, w35.alloc (.cells #[.slice none 0 0, .int .i64 0, .slice none 0 0, .slice none 0 0, .int .i64 0, .slice none 0 0] 48) = W36 := ⟨_, rfl⟩
                    have b36 : Below w35.heap.size w35 W36 := hW36 ▸ bal _ _
                    have Q36 : Hid (Bx W36 q36 [.slice none 0 0, .int .i64 0, .slice none 0 0, .slice none 0 0, .int .i64 0, .slice none 0 0]) := hW36 ▸ Lib.hid (Bx.put _ hq36 #[.slice none 0 0, .int .i64 0, .slice none 0 0, .slice none 0 0, .int .i64 0, .slice none 0 0] 48)
                    have TQ36 : Hid (Ty W36 q36 48) := hW36 ▸ hq36 ▸ Lib.hid (Ty.new _ _ _)
                    have HW36 := Lib.hid hW36
                    clear hW36
                    have bF := b35.trans (b36.mono b35.size)
                    clear PB
                    go_upto_region 36 with fail
                    rw [HW36.out]
                    go_wp2_with fail
                    go_ret
                    exact ⟨rfl, bF⟩
                  · omega
                · have d3 : decide ((wn : Int) = 100) = false := decide_eq_false (by omega)
                  have d3' : ((wn : Int) == 100) = false := by simp; omega
                  -- the end: from world wr (b5R : Below from w5)
                  have bwE := bw5.trans (b5R.mono bw5.size)
                  have ZE := Lib.hid (Z.out.nx b5R)
                  have z0 := ZE.out.at_ 0 (by simp)
                  have z1 := ZE.out.at_ 1 (by simp)
                  have z2 := ZE.out.at_ 2 (by simp)
                  have z3 := ZE.out.at_ 3 (by simp)
                  have z4 := ZE.out.at_ 4 (by simp)
                  simp only [List.getElem?_cons_succ, List.getElem?_cons_zero] at z0 z1 z2 z3 z4
                  obtain ⟨pB, hpB⟩ : ∃ pB, wr.heap.size = pB := ⟨_, rfl⟩
                  obtain ⟨V1, hV1⟩ : ∃ V1, wr.alloc (.cells #[.int .u8 1] 5) = V1 := ⟨_, rfl⟩
                  have e1 : Below wr.heap.size wr V1 := hV1 ▸ bal _ _
                  have B1 : Hid (Bx V1 pB [.int .u8 1]) := hV1 ▸ Lib.hid (Bx.put _ hpB #[.int .u8 1] 5)
                  have TB1 : Hid (Ty V1 pB 5) := hV1 ▸ hpB ▸ Lib.hid (Ty.new _ _ _)
                  have HV1 := Lib.hid hV1
                  clear hV1
                  obtain ⟨pC, hpC⟩ : ∃ pC, V1.heap.size = pC := ⟨_, rfl⟩
                  obtain ⟨V2, hV2⟩ : ∃ V2, V1.alloc (.cells #[.slice K kn kc, .slice (some ⟨pB, 0, none⟩) 1 1, .bool true] 45) = V2 := ⟨_, rfl⟩
                  have e2 : Below V1.heap.size V1 V2 := hV2 ▸ bal _ _
                  have B2 : Hid (Bx V2 pC [.slice K kn kc, .slice (some ⟨pB, 0, none⟩) 1 1, .bool true]) := hV2 ▸ Lib.hid (Bx.put _ hpC #[.slice K kn kc, .slice (some ⟨pB, 0, none⟩) 1 1, .bool true] 45)
                  have TB2 : Hid (Ty V2 pC 45) := hV2 ▸ hpC ▸ Lib.hid (Ty.new _ _ _)
                  have HV2 := Lib.hid hV2
                  clear hV2
                  obtain ⟨pD, hpD⟩ : ∃ pD, V2.heap.size = pD := ⟨_, rfl⟩
                  obtain ⟨V3, hV3⟩ : ∃ V3, V2.alloc (.cells #[.slice none 0 0, .int .i64 (-1), .slice none 0 0, .slice LA ln lc, .int .i64 (n : Int), .slice (some ⟨pC, 0, none⟩) 1 1] 48) = V3 := ⟨_, rfl⟩
                  have e3 : Below V2.heap.size V2 V3 := hV3 ▸ bal _ _
                  have B3 : Hid (Bx V3 pD [.slice none 0 0, .int .i64 (-1), .slice none 0 0, .slice LA ln lc, .int .i64 (n : Int), .slice (some ⟨pC, 0, none⟩) 1 1]) := hV3 ▸ Lib.hid (Bx.put _ hpD #[.slice none 0 0, .int .i64 (-1), .slice none 0 0, .slice LA ln lc, .int .i64 (n : Int), .slice (some ⟨pC, 0, none⟩) 1 1] 48)
                  have TB3 : Hid (Ty V3 pD 48) := hV3 ▸ hpD ▸ Lib.hid (Ty.new _ _ _)
                  have HV3 := Lib.hid hV3
                  clear hV3
                  have eC : pC = pB + 1 := by rw [← hpC, ← HV1.out, ← hpB]; simp
                  have eD : pD = pB + 1 + 1 := by rw [← hpD, ← HV2.out, World.size_alloc, hpC, eC]
                  subst eC eD
                  have e13 := e1.trans ((e2.trans (e3.mono e2.size)).mono e1.size)
                  have e12 := e1.trans (e2.mono e1.size)
                  have bE3 := b5R.trans (e13.mono (b5R).size)
                  have bw3' := bw5.trans (bE3.mono bw5.size)
                  have ZE1 := Lib.hid (ZE.out.nx e1)
                  have RC : Hid (Cr V3 (some ⟨pB + 1, 0, none⟩) 1 1 [(⟨K, kc, key, some ⟨pB, 0, none⟩, 1, [1], true⟩ : CV)]) := by
                    have r1 : Rd V1 1 (some ⟨pB, 0, none⟩) 1 1 (bv [1]) := HV1.out ▸ rd_lit wr hpB _ 1 #[.int .u8 1] 1 (by omega) rfl
                    have r2 : Rd V2 3 (some ⟨pB + 1, 0, none⟩) 1 1 (cvs [(⟨K, kc, key, some ⟨pB, 0, none⟩, 1, [1], true⟩ : CV)]) := by
                      have h : Rd V2 3 (some ⟨pB + 1, 0, none⟩) 1 1 [.slice K kn kc, .slice (some ⟨pB, 0, none⟩) 1 1, .bool true] := HV2.out ▸ rd_lit V1 hpC _ 3 #[.slice K kn kc, .slice (some ⟨pB, 0, none⟩) 1 1, .bool true] 1 (by omega) rfl
                      have e : cvs [(⟨K, kc, key, some ⟨pB, 0, none⟩, 1, [1], true⟩ : CV)] = [.slice K kn kc, .slice (some ⟨pB, 0, none⟩) 1 1, .bool true] := by simp [cvs, CV.cs, KN.out]
                      rw [e]; exact h
                    refine Lib.hid ⟨r2.below e3, fun y hy => ?_⟩
                    obtain rfl := List.mem_singleton.1 hy
                    refine ⟨?_, r1.below (e2.trans (e3.mono e2.size))⟩
                    show Rd V3 1 K key.length kc (bv key)
                    rw [← KN.out]; exact hk.out.nx bw3'
                  have CB := Lib.hid (sCommit_bad (last := (n : Int)) V3 (Lib.hid (G.out.nx bw3')) (Lib.hid (S3.out.nx bE3).st) RC (Lib.hid fun h => by have := h.2.2 _ (List.mem_singleton.2 rfl); unfold CV.ch Ch.ok okN at this; simp at this))
                  go_upto_region 33 with fail
                  rw [HV1.out, HV2.out, HV3.out]
                  have y0 := B3.out.at_ 0 (by simp)
                  have y1 := B3.out.at_ 1 (by simp)
                  have y2 := B3.out.at_ 2 (by simp)
                  have y3 := B3.out.at_ 3 (by simp)
                  have y4 := B3.out.at_ 4 (by simp)
                  have y5 := B3.out.at_ 5 (by simp)
                  simp only [List.getElem?_cons_succ, List.getElem?_cons_zero] at y0 y1 y2 y3 y4 y5
                  go_wp2_with fail
                  go_at_call 22
                  refine CB.out.mono ?_
                  rintro e w31 ⟨rfl, b31⟩
                  obtain ⟨q26, hq26⟩ : ∃ q26, w31.heap.size = q26 := ⟨_, rfl⟩
                  obtain ⟨W32, hW32⟩ : ∃ W32, w31.alloc (.cells #[.slice none 0 0, .int .i64 0, .slice none 0 0, .slice none 0 0, .int .i64 0] 31) = W32 := ⟨_, rfl⟩
                  have b32 : Below w31.heap.size w31 W32 := hW32 ▸ bal _ _
                  have Q26 : Hid (Bx W32 q26 [.slice none 0 0, .int .i64 0, .slice none 0 0, .slice none 0 0, .int .i64 0]) := hW32 ▸ Lib.hid (Bx.put _ hq26 #[.slice none 0 0, .int .i64 0, .slice none 0 0, .slice none 0 0, .int .i64 0] 31)
                  have TQ26 : Hid (Ty W32 q26 31) := hW32 ▸ hq26 ▸ Lib.hid (Ty.new _ _ _)
                  have HW32 := Lib.hid hW32
                  clear hW32
                  have b3132 := b31.trans (b32.mono b31.size)
                  have GN := sGet_no (last := -1) (A := none) (n := 0) (c := 0) (l := []) (K := K) (kn := kn) (kc := kc) W32 (Lib.hid (G.out.nx (bw3'.trans (b3132.mono bw3'.size)))) (Lib.hid (zil_sto W32)) (Lib.hid (Cr.nil_ _)) (Lib.hid fun _ h => by have := h.2.1.1; omega)
                  rw [HKK.out] at GN
                  have GN := Lib.hid GN
                  have PB := Lib.hid fun (U : World) (VA : Option Addr) => sPut_arg (PA := none) (FA := none) (LA := none) (np := 0) (pc := 0) (m := 0) (fc := 0) (ln := 0) (lc := 0) (r0 := 0) (last := 0) (A := none) (n := 0) (c := 0) (K := K) (kn := kn) (kc := kc) (VA := VA) (vn := 121) (vc := 121) U (Lib.hid (by rw [show valN 121 = false from rfl, Bool.and_false]))
                  clear CB
                  go_upto_region 34 with fail
                  rw [HW32.out]
                  go_wp2_with fail
                  go_at_call 21
                  refine GN.out.mono ?_
                  rintro e w33 ⟨rfl, b33⟩
                  have b333 := bw3'.trans ((b3132.trans (b33.mono b3132.size)).mono bw3'.size)
                  clear GN
                  obtain ⟨w34, A34, hmk, b34⟩ := mk121 w33
                  have b34 := b333.trans (b34.mono b333.size)
                  go_wp2_with fail
                  go_at_call 19
                  refine (PB.out w34 _).mono ?_
                  rintro e w35 ⟨rfl, b35⟩
                  have b35 := b34.trans (b35.mono b34.size)
                  obtain ⟨q36, hq36⟩ : ∃ q36, w35.heap.size = q36 := ⟨_, rfl⟩
                  obtain ⟨W36, hW36⟩ : ∃ W36, w35.alloc (.cells #[.slice none 0 0, .int .i64 0, .slice none 0 0, .slice none 0 0, .int .i64 0, .slice none 0 0] 48) = W36 := ⟨_, rfl⟩
                  have b36 : Below w35.heap.size w35 W36 := hW36 ▸ bal _ _
                  have Q36 : Hid (Bx W36 q36 [.slice none 0 0, .int .i64 0, .slice none 0 0, .slice none 0 0, .int .i64 0, .slice none 0 0]) := hW36 ▸ Lib.hid (Bx.put _ hq36 #[.slice none 0 0, .int .i64 0, .slice none 0 0, .slice none 0 0, .int .i64 0, .slice none 0 0] 48)
                  have TQ36 : Hid (Ty W36 q36 48) := hW36 ▸ hq36 ▸ Lib.hid (Ty.new _ _ _)
                  have HW36 := Lib.hid hW36
                  clear hW36
                  have bF := b35.trans (b36.mono b35.size)
                  clear PB
                  go_upto_region 36 with fail
                  rw [HW36.out]
                  go_wp2_with fail
                  go_ret
                  exact ⟨rfl, bF⟩
end Go.Proofs.YtpmkohnljngbhaaDoor.Sr
