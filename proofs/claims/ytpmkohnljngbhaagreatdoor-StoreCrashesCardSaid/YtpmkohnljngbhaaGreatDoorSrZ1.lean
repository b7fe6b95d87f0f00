/- The law: StoreCrashes. -/
import Derived.Test.YtpmkohnljngbhaaGreatDoorSrZ0
namespace Go.Proofs.YtpmkohnljngbhaaGreatDoor.Sr
set_option linter.unusedVariables false
set_option linter.unusedSimpArgs false
set_option maxRecDepth 1000000
open Go.RowKit Wl Pg
theorem flat_len {Ts : List (List Ch)} {m : Nat} (h : ∀ cs ∈ Ts, cs.length ≤ m) : Ts.flatten.length ≤ Ts.length * m := by
  induction Ts with
  | nil => simp
  | cons a L ih =>
    have h1 := h a (by simp)
    have h2 := ih fun cs hc => h cs (by simp [hc])
    rw [List.flatten_cons, List.length_append, List.length_cons, Nat.add_mul]; omega
theorem crash_take {B : Ent} {X : List XV} {d : Nat} {x : XV} (h : X[d]? = some x) : (effs B (X.map XV.t)).take (d + 1) = (effs B (X.map XV.t)).take d ++ effs (app B ((effs B (X.map XV.t)).take d).flatten) [x.t] := by
  have e : ∀ j, (effs B (X.map XV.t)).take j = effs B ((X.take j).map XV.t) := fun j => by rw [effs_takeN, List.map_take]
  rw [e, e, effs_take h, app_effs]; rfl
set_option maxHeartbeats 25600000 in
theorem StoreCrashes_walk (A : Option Addr) (n c : Nat) (X : List XV) (at_ cut : Int) (w : World) (G : Hid (Gl w)) (HX : Hid (Xr w A n c X)) (at0 : 0 ≤ at_) (at1 : at_ ≤ 255) (c0 : -32768 ≤ cut) (c1 : cut ≤ 32767) :
    Calls Tryz.prog 3 #[.slice A n c, .int .u8 at_, .int .i16 cut] w fun e w' => e = .returned (.bool true) ∧ Below w.heap.size w w' := by
  have NX := Lib.hid HX.out.len
  have AW := Lib.hid (awake_any w G)
  go_enter Tryz.func3, Tryz.ntmps3
  go_wp2_with fail
  go_at_call 7
  refine AW.out.mono ?_
  rintro e w1 ⟨rfl, bw⟩
  have HX1 := Lib.hid (HX.out.nx bw)
  have SL := small_any w1 HX1
  cases hs : smL X with
  | false =>
    rw [hs] at SL
    have SL := Lib.hid SL
    clear hs
    go_wp2_with fail
    go_at_call 8
    refine SL.out.mono ?_
    rintro e w2 ⟨rfl, b2⟩
    have bF := bw.trans (b2.mono bw.size)
    go_wp2_with fail
    go_ret
    exact ⟨rfl, bF⟩
  | true =>
    rw [hs] at SL
    have SL := Lib.hid SL
    have HS := smL_true hs
    have n6 : n ≤ 6 := by rw [NX.out]; exact HS.1
    have SM := Lib.hid HS.2
    clear hs HS
    go_wp2_with fail
    go_at_call 8
    refine SL.out.mono ?_
    rintro e w2 ⟨rfl, b2⟩
    replace bw := bw.trans (b2.mono bw.size)
    replace HX1 := Lib.hid (HX1.out.nx b2)
    obtain ⟨k, hk, hkn⟩ : ∃ k : Nat, at_.tmod ((n : Int) + 1) = k ∧ k ≤ n := ⟨(at_.tmod ((n : Int) + 1)).toNat, by rw [Int.tmod_eq_emod_of_nonneg at0]; have := Int.emod_nonneg at_ (show (n : Int) + 1 ≠ 0 by omega); omega, by rw [Int.tmod_eq_emod_of_nonneg at0]; have := Int.emod_lt_of_pos at_ (show (0 : Int) < (n : Int) + 1 by omega); omega⟩
    have hnc := HX1.out.row.nc
    have h63 := HX1.out.row.c63
    have n10 : (n : Int) + 1 ≠ 0 := by omega
    have SF := fun w : World => sl_to A n c k (by omega) w
    have SMk : Hid (∀ x ∈ X.take k, x.l.length ≤ 12 ∧ ∀ y ∈ x.l, y.ch.ok = true) := Lib.hid fun x hx => SM.out x (List.mem_of_mem_take hx)
    have MD := Lib.hid (made_any w2 (Lib.hid (G.out.nx bw)) (Lib.hid (HX1.out.upto hkn)) (by omega) SMk)
    go_wp2_with fail
    go_at_call 9
    refine MD.out.mono ?_
    rintro e w3 ⟨LA, ln, lc, rfl, S3, b3⟩
    have eN : Hid (((effs (fun _ => none) ((X.take k).map XV.t)).length : Int) = k) := Lib.hid (by rw [effs_len, List.length_map, List.length_take]; have := NX.out; omega)
    rw [eN.out] at S3 ⊢
    obtain ⟨Ts, hTs⟩ : ∃ Ts, effs (fun _ => none) ((X.take k).map XV.t) = Ts := ⟨_, rfl⟩
    rw [hTs] at S3
    have HTS := Lib.hid hTs
    have TL : Ts.length = k := by rw [← hTs, effs_len, List.length_map, List.length_take]; have := NX.out; omega
    clear hTs MD SF
    replace bw := bw.trans (b3.mono bw.size)
    replace HX1 := Lib.hid (HX1.out.nx b3)
    have wl3 := bw.size
    obtain ⟨q8, hq8⟩ : ∃ q8, w3.heap.size = q8 := ⟨_, rfl⟩
    obtain ⟨W4, hW4⟩ : ∃ W4, w3.alloc (.cells #[.slice none 0 0, .int .i64 (-1), .slice none 0 0, .slice LA ln lc, .int .i64 (k : Int)] 32) = W4 := ⟨_, rfl⟩
    have b4 : Below w3.heap.size w3 W4 := hW4 ▸ bal _ _
    have Z : Hid (Bx W4 q8 [.slice none 0 0, .int .i64 (-1), .slice none 0 0, .slice LA ln lc, .int .i64 (k : Int)]) := hW4 ▸ Lib.hid (Bx.put _ hq8 #[.slice none 0 0, .int .i64 (-1), .slice none 0 0, .slice LA ln lc, .int .i64 (k : Int)] 32)
    have TZ : Hid (Ty W4 q8 32) := hW4 ▸ hq8 ▸ Lib.hid (Ty.new _ _ _)
    have HW4 := Lib.hid hW4
    clear hW4
    replace bw := bw.trans (b4.mono bw.size)
    replace HX1 := Lib.hid (HX1.out.nx b4)
    replace S3 := Lib.hid (S3.out.nx b4)
    have z0 := Z.out.at_ 0 (by simp)
    have z1 := Z.out.at_ 1 (by simp)
    have z2 := Z.out.at_ 2 (by simp)
    have z3 := Z.out.at_ 3 (by simp)
    have z4 := Z.out.at_ 4 (by simp)
    simp only [List.getElem?_cons_succ, List.getElem?_cons_zero] at z0 z1 z2 z3 z4
    have hlo : w.heap.size ≤ q8 := by omega
    have FLn : Ts.flatten.length ≤ 72 := by have := flat_len (m := 12) (fun cs hc => (S3.out.ok cs hc).2); omega
    have CP := Lib.hid (sCp_ok (es0 := []) (J := 0) W4 (Lib.hid (G.out.nx bw)) S3 (Lib.hid (show Gok nil0.f [] 0 from gok_new)) (Lib.hid rfl) (by omega) (by omega))
    go_upto_region 7 with fail
    rw [HW4.out]
    go_wp2_with fail
    go_at_call 10
    refine CP.out.mono ?_
    rintro e w5 ⟨g, es, GA, HA, gn, gc, hn, hc, gr, rfl, S5, F5, _, b5⟩
    obtain ⟨B, hB⟩ : ∃ B, app (fun _ => none) Ts.flatten = B := ⟨_, rfl⟩
    rw [hB] at S5
    have HBE := Lib.hid hB
    clear hB CP z0 z1 z2 z3 z4
    have Z5 := Lib.hid (Z.out.nx b5)
    have TZ5 := Lib.hid (TZ.out.nx b5)
    have bw5 := bw.trans (b5.mono bw.size)
    have Z6 := Lib.hid (res5_cells Z5.out rfl (.slice GA gn gc) (.int .i64 gr) (.slice HA hn hc) (.slice none 0 0) (.int .i64 (k : Int)))
    have F6 := Lib.hid (flt_set5 (a := .slice GA gn gc) (b := .int .i64 gr) (c := .slice HA hn hc) (d := .slice none 0 0) (e := .int .i64 (k : Int)) F5.out TZ5.out)
    have bw6 := res5_below (a := .slice GA gn gc) (b := .int .i64 gr) (c := .slice HA hn hc) (d := .slice none 0 0) (e := .int .i64 (k : Int)) bw5 hlo
    have TZ6 : Hid (Ty (((((w5.setCell ⟨q8, 0, none⟩ (.slice GA gn gc)).setCell ⟨q8, 1, none⟩ (.int .i64 gr)).setCell ⟨q8, 2, none⟩ (.slice HA hn hc)).setCell ⟨q8, 3, none⟩ (.slice none 0 0)).setCell ⟨q8, 4, none⟩ (.int .i64 (k : Int))) q8 32) := Lib.hid (((((TZ5.out.set q8 0 _).set q8 1 _).set q8 2 _).set q8 3 _).set q8 4 _)
    have z0 := Z5.out.at_ 0 (by simp)
    have z1 := Z5.out.at_ 1 (by simp)
    have z2 := Z5.out.at_ 2 (by simp)
    have z3 := Z5.out.at_ 3 (by simp)
    have z4 := Z5.out.at_ 4 (by simp)
    simp only [List.getElem?_cons_succ, List.getElem?_cons_zero] at z0 z1 z2 z3 z4
    have f0 := Z5.out.fz 0 (by simp)
    have f1 := Z5.out.fz 1 (by simp)
    have f2 := Z5.out.fz 2 (by simp)
    have f3 := Z5.out.fz 3 (by simp)
    have f4 := Z5.out.fz 4 (by simp)
    go_upto_region 8 with fail
    obtain ⟨W6, hW6⟩ : ∃ u, (((((w5.setCell ⟨q8, 0, none⟩ (.slice GA gn gc)).setCell ⟨q8, 1, none⟩ (.int .i64 gr)).setCell ⟨q8, 2, none⟩ (.slice HA hn hc)).setCell ⟨q8, 3, none⟩ (.slice none 0 0)).setCell ⟨q8, 4, none⟩ (.int .i64 (k : Int))) = u := ⟨_, rfl⟩
    rw [hW6] at Z6 F6 bw6 TZ6 ⊢
    clear hW6 z0 z1 z2 z3 z4 f0 f1 f2 f3 f4
    have S6 : Hid (Stt W6 g B (k + 1) [] GA gn gc gr HA hn hc none 0 0 (k : Int)) := Lib.hid (S5.out.move F6.out.fl (Rd.nil_ _ _))
    have HX6 := Lib.hid (HX.out.nx bw6)
    have G6 := Lib.hid (G.out.nx bw6)
    have WQ6 := Z6.out.lt
    obtain ⟨q11, hq11⟩ : ∃ q11, W6.heap.size = q11 := ⟨_, rfl⟩
    obtain ⟨W7, hW7⟩ : ∃ W7, W6.alloc (.cells #[.int .i64 0] 3) = W7 := ⟨_, rfl⟩
    have b7 : Below W6.heap.size W6 W7 := hW7 ▸ bal _ _
    have E : Hid (Bx W7 q11 [.int .i64 0]) := hW7 ▸ Lib.hid (Bx.put _ hq11 #[.int .i64 0] 3)
    have TE : Hid (Ty W7 q11 3) := hW7 ▸ hq11 ▸ Lib.hid (Ty.new _ _ _)
    have HW7 := Lib.hid hW7
    clear hW7
    have O7 : Hid (W7.ownsRow W6.heap.size 3 1 (.slice (some ⟨q11, 0, none⟩) 1 1) 1 [.int .i64 0]) := Lib.hid (by
      have h := own_lit W6 (base := W6.heap.size) 3 1 #[.int .i64 0] 1 (Nat.le_refl _) (by unfold maxLen; omega) rfl
      rw [HW7.out, hq11] at h; rw [hq11]; exact h)
    obtain ⟨Us, hUs⟩ : ∃ Us, effs B ((X.drop k).map XV.t) = Us := ⟨_, rfl⟩
    have UL : Us.length = n - k := by rw [← hUs, effs_len, List.length_map, List.length_drop]; have := NX.out; omega
    have HUS := Lib.hid hUs
    clear hUs
    have bw7 := bw6.trans (b7.mono bw6.size)
    have Z7 := Lib.hid (Z6.out.nx b7)
    have K7 : Hid (Kp W6 W7 (· = q8)) := Lib.hid (Kp.of_below b7 _)
    have S7 := Lib.hid (S6.out.nx b7)
    have E7 : Hid (W7.ownsRow W6.heap.size 3 1 (.slice (some ⟨q11, 0, none⟩) (0 + 1) 1) (0 + 1) (iv (endsL (k + 1) Us 0))) := Lib.hid (by
      have e : iv (endsL (k + 1) Us 0) = [.int .i64 0] := by simp [endsL, iv, logL, recL, encs]
      rw [e]; exact O7.out)
    have hqW : q8 < W6.heap.size := WQ6
    go_upto_region 11 with fail
    rw [HW7.out]
    go_wp2_with fail
    go_loopw [9, 11, 12] (fun okv ev iv' wr => ∃ (d : Nat) (LA EA : Option Addr) (ln lc ec : Nat), d ≤ n - k ∧ okv = .bool true ∧ iv' = .int .i64 (((k + d : Nat)) : Int) ∧ ev = .slice EA (d + 1) ec ∧ Hid (Bx wr q8 [.slice GA gn gc, .int .i64 gr, .slice HA hn hc, .slice LA ln lc, .int .i64 (((k + d : Nat)) : Int)]) ∧ Hid (Kp W6 wr (· = q8)) ∧
      Hid (Stt wr g B (k + 1) (Us.take d) GA gn gc gr HA hn hc LA ln lc (((k + d : Nat)) : Int)) ∧ Hid (wr.ownsRow W6.heap.size 3 1 (.slice EA (d + 1) ec) (d + 1) (iv (endsL (k + 1) Us d))) ∧ Below w.heap.size w wr) (fun _ _ iv' _ => (n - intOf iv').toNat)
    case atStart => exact ⟨0, none, _, 0, 0, _, by omega, rfl, rfl, rfl, Z7, K7, S7, E7, bw7⟩
    case round =>
      obtain ⟨d, LA2, EA, ln2, lc2, ec, hd, rfl, rfl, rfl, Z8, K8, S8, E8, bw8⟩ := hrel
      clear Z7 K7 S7 E7 O7
      obtain ⟨i0, hi, hz0, hz1, hz2⟩ := info_parts Pg.info_int
      obtain ⟨i, hikd⟩ : ∃ i, k + d = i := ⟨_, rfl⟩
      rw [hikd] at Z8 S8 ⊢
      by_cases hlt : i < n
      · have d1 : decide ((i : Int) < (n : Int)) = true := decide_eq_true (by omega)
        obtain ⟨g0, o0, x, rfl, hg0, hx, _⟩ := (HX.out.nx bw8).item hlt
        have hxd : (X.drop k)[d]? = some x := by rw [List.getElem?_drop, hikd]; exact hx
        have CT := Lib.hid (crash_take (B := B) hxd)
        rw [HUS.out] at CT
        have SF := fun w : World => sl_mid g0 o0 n c i (i + 1) (by omega) (by omega) w
        have e1 : ((i + 1 : Nat) : Int) = (i : Int) + 1 := by omega
        have e2 : i + 1 - i = 1 := by omega
        rw [e1, e2] at SF
        have HP : Hid (Xr wr (some ⟨g0, o0 + i, none⟩) 1 (c - i) [x]) := Lib.hid (by
          have h := (HX.out.nx bw8).part (lo := i) (k := 1) (by omega)
          rw [List.drop_eq_getElem_cons (by have := (List.getElem?_eq_some_iff.1 hx).1; omega), (List.getElem?_eq_some_iff.1 hx).2] at h
          exact h)
        have SM1 : Hid (∀ y ∈ [x], y.l.length ≤ 12 ∧ ∀ z ∈ y.l, z.ch.ok = true) := Lib.hid fun y hy => by
          obtain rfl := List.mem_singleton.1 hy
          exact SM.out y (List.mem_of_getElem? hx)
        have UT : Hid ((Us.take d).length = d) := Lib.hid (by rw [List.length_take]; omega)
        have MM : Hid (∀ U, Below wr.heap.size wr U → Calls Tryz.prog 11 #[.agg #[.slice GA gn gc, .int .i64 gr, .slice HA hn hc, .slice LA2 ln2 lc2, .int .i64 (i : Int)], .slice (some ⟨g0, o0 + i, none⟩) 1 (c - i)] U (MmPost U g B (k + 1) (Us.take (d + 1)) GA gn gc gr HA hn hc ((i : Int) + 1) LA2 ln2)) := Lib.hid fun U hU => by
          have h := lmore_any U (Lib.hid (G.out.nx (bw8.trans (hU.mono bw8.size)))) (Lib.hid (S8.out.nx hU)) (Lib.hid (HP.out.nx hU)) (by rw [UT.out]; omega) SM1
          rw [CT.out]
          exact h
        have KK : Hid (∀ U, Below wr.heap.size wr U → Bx U q8 [.slice GA gn gc, .int .i64 gr, .slice HA hn hc, .slice LA2 ln2 lc2, .int .i64 (i : Int)]) := Lib.hid fun U hU => Z8.out.nx hU
        have VD : Hid (Below wr.heap.size wr wr.drew) := Lib.hid (Below.refl _ _).drew
        have wi : IntKind.i64.wrap ((i : Int) + 1) = (i : Int) + 1 := by rw [IntKind.wrap_i64]; omega
        have wi1 : (i : Int) + 1 ≤ (c : Int) := by omega
        have wi2 : (0 : Int) ≤ (i : Int) + 1 := by omega
        have wi3 : ((i : Int) + 1).toNat = i + 1 := by omega
        have wi4 : ¬ c = i := by omega
        clear hx hxd e1 e2
        have z0 := Z8.out.at_ 0 (by simp)
        have z1 := Z8.out.at_ 1 (by simp)
        have z2 := Z8.out.at_ 2 (by simp)
        have z3 := Z8.out.at_ 3 (by simp)
        have z4 := Z8.out.at_ 4 (by simp)
        simp only [List.getElem?_cons_succ, List.getElem?_cons_zero] at z0 z1 z2 z3 z4
        go_upto_region 14 with fail
        go_region_law
          (first
            | (go_simp
               go_at_call 11
               refine (MM.out _ VD.out).mono ?_
               rintro e w10 ⟨LA3, ln3, lc3, rfl, S10, NA10, b10⟩
               have v10 := VD.out.trans (b10.mono VD.out.size)
               have X10 := KK.out _ v10
               have s0 := X10.at_ 0 (by simp)
               have s1 := X10.at_ 1 (by simp)
               have s2 := X10.at_ 2 (by simp)
               have s3 := X10.at_ 3 (by simp)
               have s4 := X10.at_ 4 (by simp)
               simp only [List.getElem?_cons_succ, List.getElem?_cons_zero] at s0 s1 s2 s3 s4
               have f0 := X10.fz 0 (by simp)
               have f1 := X10.fz 1 (by simp)
               have f2 := X10.fz 2 (by simp)
               have f3 := X10.fz 3 (by simp)
               have f4 := X10.fz 4 (by simp)
               have V10 := Lib.hid v10
               clear v10
               dsimp only))
        all_goals
          have ll2 : Hid (ln2 = (logL (k + 1) (Us.take d)).length) := Lib.hid S8.out.st.ll
          have ll3 : Hid (ln3 = (logL (k + 1) (Us.take (d + 1))).length) := Lib.hid S10.out.st.ll
          have lt3 := logL_take_lt (t := (k : Int) + 1) (Ts := Us) (i := d) (by omega)
          have NA : Hid (∀ g, blk LA3 = some g → wr.heap.size ≤ g) := Lib.hid fun g e => by
            rcases NA10.out with ⟨_, h2⟩ | h2
            · rw [ll3.out, ll2.out] at h2; omega
            · exact h2 g e
          have s10 := V10.out.size
          have z8l := Z8.out.lt
          have Z11 := Lib.hid (res5_cells X10 rfl (.slice GA gn gc) (.int .i64 gr) (.slice HA hn hc) (.slice LA3 ln3 lc3) (.int .i64 ((i : Int) + 1)))
          have K11 := Lib.hid ((K8.out.below V10.out).trans (kp_set5 w10 q8 (.slice GA gn gc) (.int .i64 gr) (.slice HA hn hc) (.slice LA3 ln3 lc3) (.int .i64 ((i : Int) + 1))) fun _ _ e => e)
          have E11 := Lib.hid (own_res5 (R := q8) (a := .slice GA gn gc) (b := .int .i64 gr) (d := .slice HA hn hc) (e := .slice LA3 ln3 lc3) (f := .int .i64 ((i : Int) + 1)) (own_below E8.out V10.out) hqW)
          have L11 := Lib.hid (rd_res5 (R := q8) (a := .slice GA gn gc) (b := .int .i64 gr) (d := .slice HA hn hc) (e := .slice LA3 ln3 lc3) (f := .int .i64 ((i : Int) + 1)) S10.out.st.lg fun _ e => by have := NA.out _ e; omega)
          have bw11 := res5_below (R := q8) (a := .slice GA gn gc) (b := .int .i64 gr) (c := .slice HA hn hc) (d := .slice LA3 ln3 lc3) (e := .int .i64 ((i : Int) + 1)) (bw8.trans (V10.out.mono bw8.size)) hlo
          clear X10 s0 s1 s2 s3 s4 z0 z1 z2 z3 z4
          have F3 := S10.out.st.l2
          go_upto_region 15 with fail
          obtain ⟨W11, hW11⟩ : ∃ u, (((((w10.setCell ⟨q8, 0, none⟩ (.slice GA gn gc)).setCell ⟨q8, 1, none⟩ (.int .i64 gr)).setCell ⟨q8, 2, none⟩ (.slice HA hn hc)).setCell ⟨q8, 3, none⟩ (.slice LA3 ln3 lc3)).setCell ⟨q8, 4, none⟩ (.int .i64 ((i : Int) + 1))) = u := ⟨_, rfl⟩
          rw [hW11] at Z11 K11 E11 L11 bw11 ⊢
          clear hW11 f0 f1 f2 f3 f4
          have z0 := Z11.out.at_ 0 (by simp)
          have z1 := Z11.out.at_ 1 (by simp)
          have z2 := Z11.out.at_ 2 (by simp)
          have z3 := Z11.out.at_ 3 (by simp)
          have z4 := Z11.out.at_ 4 (by simp)
          simp only [List.getElem?_cons_succ, List.getElem?_cons_zero] at z0 z1 z2 z3 z4
          have k11s := K11.out.size
          have w11s := bw11.size
          go_wp2_with (at_builtin; apply hold)
          unfold Hold
          refine wpList_app _ rfl (.tmp 67) (.tmp 71) 27 rfl W6.heap.size 3 i0 (.int .i64 0) 1 8 Tryz.underlying27 hi hz0 hz1 hz2 rfl (by omega) (by rfl) (own_below E11.out (bal _ _)) (by rfl) (Rd.lit W11 _ 1 #[.int .i64 (ln3 : Int)] 1 (by omega) rfl) (by intro u hu; obtain rfl := List.mem_singleton.1 hu; rfl) (by omega) (by omega) (by simp; omega) ?_
          intro EA4 ec4 W14 own14 g14
          have EE : Hid (iv (endsL (k + 1) Us d) ++ [.int .i64 (ln3 : Int)] = iv (endsL (k + 1) Us (d + 1))) := Lib.hid (by rw [endsL_succ, ll3.out]; simp [iv])
          have EB : Hid (∀ q, blk EA = some q → W6.heap.size ≤ q ∧ q < wr.heap.size) := Lib.hid fun q e => own_blk_le E8.out e
          have b12 : Below W11.heap.size W11 (W11.alloc (.cells #[.int .i64 (ln3 : Int)] 3)) := bal _ _
          have b14 : Below W6.heap.size W11 W14 := g14.low (b12.mono k11s) (by simp; omega) fun q e => (EB.out q e).1
          have K14 : Hid (Kp W6 W14 (· = q8)) := Lib.hid ((K11.out.below b12).trans (Kp.of_grew (X := fun q => blk EA = some q) g14 fun q e => e) fun q hq e => by have := (EB.out q e).1; omega)
          have Z14 := Lib.hid (Z11.out.below b14 hqW)
          have L14 := Lib.hid ((L11.out.below b12).grew g14 fun _ => .inr fun e => by
            rcases hb : blk LA3 with _ | q
            · rw [hb] at e
              obtain ⟨q1, hq1, _⟩ := own_pos E8.out (by omega)
              rw [hq1] at e; cases e
            · rw [hb] at e
              have := (EB.out q e).2
              have := NA.out q hb
              omega)
          have E14 : Hid (W14.ownsRow W6.heap.size 3 1 (.slice EA4 (d + 1 + 1) ec4) (d + 1 + 1) (iv (endsL (k + 1) Us (d + 1)))) := Lib.hid (by rw [← EE.out]; exact own14)
          have S14 := Lib.hid (S10.out.move (flk F6.out TZ6.out K14.out) L14.out)
          have bw14 : Below w.heap.size w W14 := g14.low (bel_alloc bw11 (by omega) _) (by simp; omega) fun q e => by have := (EB.out q e).1; have := bw6.size; omega
          have ei : (i : Int) + 1 = ((k + (d + 1) : Nat) : Int) := by omega
          have ei2 : IntKind.i64.wrap ((i : Int) + 1) = ((k + (d + 1) : Nat) : Int) := by rw [wi, ei]
          rw [ei] at Z14 S14
          clear g14 own14 z0 z1 z2 z3 z4 wi wi1 wi2 wi3 wi4 ei
          go_wp2_with fail
          go_roundw
          case rel => exact ⟨d + 1, LA3, EA4, ln3, lc3, ec4, by omega, rfl, by first | rfl | go_num, rfl, Z14, K14, S14, E14, bw14⟩
          case measure => simp [intOf]; omega
      · obtain rfl : i = n := by omega
        have d1 : decide ((i : Int) < (i : Int)) = false := decide_eq_false (by omega)
        have UD : Hid (Us.take d = Us) := Lib.hid (List.take_of_length_le (by omega))
        rw [UD.out] at S8
        have ULd : Hid (Us.length = d) := Lib.hid (by omega)
        have CR := Lib.hid (Stt.crash S8 (Lib.hid (G.out.nx bw8)) cut (by omega) (by omega))
        have HS8 := S8.out.n
        have z0 := Z8.out.at_ 0 (by simp)
        have z1 := Z8.out.at_ 1 (by simp)
        have z2 := Z8.out.at_ 2 (by simp)
        have z3 := Z8.out.at_ 3 (by simp)
        have z4 := Z8.out.at_ 4 (by simp)
        simp only [List.getElem?_cons_succ, List.getElem?_cons_zero] at z0 z1 z2 z3 z4
        have LL8 : Hid (ln2 = (logL (k + 1) Us).length) := Lib.hid S8.out.st.ll
        go_wp2_with fail
        go_at_call 12
        refine CR.out.mono ?_
        rintro e w14 ⟨LA7, ln7, lc7, kq, rfl, kp, S14, b14⟩
        have e14 : (k : Int) + 1 - 1 + (kq : Int) = (k : Int) + (kq : Int) := by omega
        rw [e14] at S14 ⊢
        clear CR z0 z1 z2 z3 z4 e14
        have E14 := Lib.hid (own_below E8.out b14)
        have bw14 := bw8.trans (b14.mono bw8.size)
        obtain ⟨EA0, rfl, enc, en63⟩ := own_pos E8.out (by omega)
        obtain ⟨dn, hdn⟩ : ∃ dn, d + 1 = dn := ⟨_, rfl⟩
        rw [hdn] at E14 enc ⊢
        have HDN := Lib.hid hdn
        obtain ⟨q13, hq13⟩ : ∃ q13, w14.heap.size = q13 := ⟨_, rfl⟩
        obtain ⟨W15, hW15⟩ : ∃ W15, w14.alloc (.cells #[.slice GA gn gc, .int .i64 gr, .slice HA hn hc, .slice LA7 ln7 lc7, .int .i64 ((k : Int) + (kq : Int))] 32) = W15 := ⟨_, rfl⟩
        have b15 : Below w14.heap.size w14 W15 := hW15 ▸ bal _ _
        have T : Hid (Bx W15 q13 [.slice GA gn gc, .int .i64 gr, .slice HA hn hc, .slice LA7 ln7 lc7, .int .i64 ((k : Int) + (kq : Int))]) := hW15 ▸ Lib.hid (Bx.put _ hq13 #[.slice GA gn gc, .int .i64 gr, .slice HA hn hc, .slice LA7 ln7 lc7, .int .i64 ((k : Int) + (kq : Int))] 32)
        have TT : Hid (Ty W15 q13 32) := hW15 ▸ hq13 ▸ Lib.hid (Ty.new _ _ _)
        have HW15 := Lib.hid hW15
        clear hW15
        have bw15 := bw14.trans (b15.mono bw14.size)
        have S15 := Lib.hid (S14.out.nx b15)
        have E15 := Lib.hid (own_below E14.out b15)
        go_upto_region 19 with fail
        rw [HW15.out]
        go_wp2_with fail
        go_loopw [15, 82] (fun kv iv' wr' => ∃ (j kp : Nat), j ≤ dn ∧ kp ≤ j ∧ kv = .int .i64 (kp : Int) ∧ iv' = .int .i64 (j : Int) ∧ Hid (Kept (k + 1) Us cut j kp) ∧ wr' = W15) (fun _ iv' _ => (dn - intOf iv').toNat)
        case atStart => exact ⟨0, 0, by omega, by omega, rfl, rfl, Lib.hid (Kept.start _ _ _), rfl⟩
        case round =>
          obtain ⟨j, kp2, hj, hkp, rfl, rfl, hkept, rfl⟩ := hrel
          by_cases hlt2 : j < dn
          · have d2 : decide ((j : Int) < (dn : Int)) = true := decide_eq_true (by omega)
            have cy := E15.out.cellAt j (by omega)
            have eg : (iv (endsL (k + 1) Us d))[j]? = some (.int .i64 ((logL (k + 1) (Us.take j)).length : Int)) := by
              unfold iv; rw [List.getElem?_map, endsL_get (by omega)]; rfl
            rw [eg] at cy
            obtain ⟨lj, hlj⟩ : ∃ lj, (logL ((k : Int) + 1) (Us.take j)).length = lj := ⟨_, rfl⟩
            rw [hlj] at cy
            by_cases hcj : (lj : Int) ≤ cut
            · have KY := Lib.hid (hkept.out.yes (by rw [hlj]; exact hcj))
              have d3 : decide ((lj : Int) ≤ cut) = true := decide_eq_true hcj
              clear hlj eg hcj
              go_wp2_with fail
              go_roundw
              case rel => exact ⟨j + 1, j, by omega, by omega, rfl, by first | rfl | go_num, KY, by first | rfl | trivial⟩
              case measure => simp [intOf]; omega
            · have KY := Lib.hid (hkept.out.no (by rw [hlj]; exact hcj))
              have d3 : decide ((lj : Int) ≤ cut) = false := decide_eq_false hcj
              clear hlj eg hcj
              go_wp2_with fail
              go_roundw
              case rel => exact ⟨j + 1, kp2, by omega, by omega, rfl, by first | rfl | go_num, KY, by first | rfl | trivial⟩
              case measure => simp [intOf]; omega
          · obtain rfl : j = dn := by omega
            have d2 : decide ((j : Int) < (j : Int)) = false := decide_eq_false (by omega)
            obtain rfl : kp2 = kq := by
              obtain ⟨p1, p2, p3⟩ := kp.out
              rw [LL8.out] at p2 p3
              refine Kept.crash ?_ p1 p2 p3
              rw [ULd.out, HDN.out]; exact hkept.out
            have hkq : kp2 ≤ d := by have := kp.out.1; have := ULd.out; omega
            have ll7 : Hid (ln7 = (logL (k + 1) (Us.take kp2)).length) := Lib.hid S15.out.st.ll
            have cyE : Hid (wr.cell? ⟨EA0, kp2, none⟩ = some (.int .i64 (ln7 : Int))) := Lib.hid (by
              rw [E15.out.cellAt kp2 (by omega)]
              unfold iv; rw [List.getElem?_map, endsL_get (by omega), ll7.out]; rfl)
            have b1515 := Below.refl wr.heap.size wr
            have HX15 := Lib.hid (HX.out.nx bw15)
            have G15 := Lib.hid (G.out.nx bw15)
            have kqn : k + kp2 ≤ i := by omega
            have VD : Hid (Below wr.heap.size wr wr.drew) := Lib.hid (Below.refl _ _).drew
            have VA : Hid (∀ U, Below wr.heap.size wr U → Calls Tryz.prog 13 #[.agg #[.slice GA gn gc, .int .i64 gr, .slice HA hn hc, .slice LA7 ln7 lc7, .int .i64 ((k : Int) + (kp2 : Int))]] U (fun e w' => e = .returned (.bool true) ∧ Below wr.heap.size wr w')) := Lib.hid fun U hU =>
              (Stt.valid (Lib.hid (S15.out.nx hU)) (Lib.hid (G15.out.nx hU))).mono fun e w' ⟨h1, h2⟩ => ⟨h1, hU.trans (h2.mono hU.size)⟩
            have HXt := Lib.hid (HX15.out.upto kqn)
            have SMt : Hid (∀ x ∈ X.take (k + kp2), x.l.length ≤ 12 ∧ ∀ y ∈ x.l, y.ch.ok = true) := Lib.hid fun x hx => SM.out x (List.mem_of_mem_take hx)
            have ML : Hid (∀ U, Below wr.heap.size wr U → Calls Tryz.prog 15 #[.slice A (k + kp2) c] U (fun e w' => ∃ A' n' c' M, e = .returned (.slice A' n' c') ∧ Hid (M.map CV.ch = mdl ((X.take (k + kp2)).map XV.t).flatten) ∧ Hid (Cr w' A' n' c' M) ∧ Below wr.heap.size wr w')) := Lib.hid fun U hU =>
              (model_any U (Lib.hid (HXt.out.nx hU)) (by omega) SMt).mono fun e w' ⟨A', n', c', M, h1, h2, h3, h4, h5⟩ => ⟨A', n', c', M, h1, h2, h3, hU.trans (h5.mono hU.size)⟩
            have TE : Hid (app (fun _ => none) ((X.take (k + kp2)).map XV.t).flatten = app B (Us.take kp2).flatten) := Lib.hid (by
              rw [← HUS.out, effs_takeN, app_effs, ← List.map_take, ← HBE.out, ← HTS.out, app_effs, ← app_app, ← List.flatten_append, ← List.map_append, List.take_add])
            have RS : Hid (∀ U A' n' c' M, Below wr.heap.size wr U → Hid (M.map CV.ch = mdl ((X.take (k + kp2)).map XV.t).flatten) → Hid (Cr U A' n' c' M) → Calls Tryz.prog 14 #[.agg #[.slice GA gn gc, .int .i64 gr, .slice HA hn hc, .slice LA7 ln7 lc7, .int .i64 ((k : Int) + (kp2 : Int))], .slice A' n' c', .slice A i c] U (fun e w' => e = .returned (.bool true) ∧ Below wr.heap.size wr w')) := Lib.hid fun U A' n' c' M hU hM hC =>
              (reads_any U (Lib.hid (G15.out.nx hU)) (Lib.hid (S15.out.nx hU)) hC (Lib.hid fun key => by rw [hM.out, mfd_mdl, TE.out]) (Lib.hid (HX15.out.nx hU)) SM).mono fun e w' ⟨h1, h2⟩ => ⟨h1, hU.trans (h2.mono hU.size)⟩
            have SK : Hid (∀ w', Below wr.heap.size wr w' → w'.cell? ⟨q13, 0, none⟩ = some (.slice GA gn gc) ∧ w'.cell? ⟨q13, 1, none⟩ = some (.int .i64 gr) ∧ w'.cell? ⟨q13, 2, none⟩ = some (.slice HA hn hc) ∧ w'.cell? ⟨q13, 3, none⟩ = some (.slice LA7 ln7 lc7) ∧ w'.cell? ⟨q13, 4, none⟩ = some (.int .i64 ((k : Int) + (kp2 : Int))) ∧ w'.cell? ⟨EA0, kp2, none⟩ = some (.int .i64 (ln7 : Int))) := Lib.hid fun U hU => by
              have X := T.out.nx hU
              have s0 := X.at_ 0 (by simp)
              have s1 := X.at_ 1 (by simp)
              have s2 := X.at_ 2 (by simp)
              have s3 := X.at_ 3 (by simp)
              have s4 := X.at_ 4 (by simp)
              simp only [List.getElem?_cons_succ, List.getElem?_cons_zero] at s0 s1 s2 s3 s4
              have el : EA0 < wr.heap.size := (own_blk_le (g := EA0) E15.out rfl).2
              exact ⟨s0, s1, s2, s3, s4, ((bcell hU).1 _ _ el).trans cyE.out⟩
            have SK0 := SK.out _ b1515
            obtain ⟨s0, s1, s2, s3, s4, s5⟩ := SK0
            have wk : IntKind.i64.wrap ((k : Int) + (kp2 : Int)) = (k : Int) + (kp2 : Int) := by rw [IntKind.wrap_i64]; omega
            have wk1 : (k : Int) + (kp2 : Int) ≤ (c : Int) := by omega
            have wk2 : (0 : Int) ≤ (k : Int) + (kp2 : Int) := by omega
            have wk3 : ((k : Int) + (kp2 : Int)).toNat = k + kp2 := by omega
            have wj1 : (0 : Int) ≤ (kp2 : Int) := by omega
            have wj2 : (kp2 : Int) < (j : Int) := by omega
            clear hkept
            rcases A with _ | ⟨g0, o0, p0⟩
            all_goals
             go_upto_region 26 with fail
             go_region_held_law (fun w' => w'.cell? ⟨q13, 0, none⟩ = some (.slice GA gn gc) ∧ w'.cell? ⟨q13, 1, none⟩ = some (.int .i64 gr) ∧ w'.cell? ⟨q13, 2, none⟩ = some (.slice HA hn hc) ∧ w'.cell? ⟨q13, 3, none⟩ = some (.slice LA7 ln7 lc7) ∧ w'.cell? ⟨q13, 4, none⟩ = some (.int .i64 ((k : Int) + (kp2 : Int))) ∧ w'.cell? ⟨EA0, kp2, none⟩ = some (.int .i64 (ln7 : Int))) (first | exact SK.out _ VD.out | exact SK.out _ V6.out | exact SK.out _ V7.out | exact SK.out _ V8.out)
               (first
                 | (go_simp
                    go_at_call 13
                    refine (VA.out _ VD.out).mono ?_
                    rintro e w20 ⟨rfl, v6⟩
                    have V6 := Lib.hid v6
                    clear v6
                    dsimp only)
                 | (go_simp
                    go_at_call 15
                    refine (ML.out _ V6.out).mono ?_
                    rintro e w21 ⟨A7, n7, c7, M7, rfl, hM7, C7, v7⟩
                    have V7 := Lib.hid v7
                    clear v7
                    dsimp only)
                 | (go_simp
                    go_at_call 14
                    refine (RS.out _ _ _ _ _ V7.out hM7 C7).mono ?_
                    rintro e w22 ⟨rfl, v8⟩
                    have V8 := Lib.hid v8
                    clear v8
                    dsimp only))
            all_goals
              have bF := bw15.trans (V8.out.mono bw15.size)
              go_wp2_with fail
              go_ret
              exact ⟨rfl, bF⟩
end Go.Proofs.YtpmkohnljngbhaaGreatDoor.Sr
