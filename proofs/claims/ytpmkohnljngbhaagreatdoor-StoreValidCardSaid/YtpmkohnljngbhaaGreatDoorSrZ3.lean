/- The law: StoreValid. -/
import Derived.Test.YtpmkohnljngbhaaGreatDoorSrZa
import Derived.Test.YtpmkohnljngbhaaGreatDoorSrRu
namespace Go.Proofs.YtpmkohnljngbhaaGreatDoor.Sr
set_option linter.unusedVariables false
set_option linter.unusedSimpArgs false
set_option maxRecDepth 1000000
open Go.RowKit Wl Pg
theorem flat_len3 {Ts : List (List Ch)} {m : Nat} (h : ∀ cs ∈ Ts, cs.length ≤ m) : Ts.flatten.length ≤ Ts.length * m := by
  induction Ts with
  | nil => simp
  | cons a L ih =>
    have h1 := h a (by simp)
    have h2 := ih fun cs hc => h cs (by simp [hc])
    rw [List.flatten_cons, List.length_append, List.length_cons, Nat.add_mul]; omega
/-- A file with another root. -/
def withRoot (g : FV) (r : Int) : FV := ⟨g.PA, g.pc, g.ps, r, g.FA, g.fc, g.free⟩
theorem withRoot_cs {g : FV} {PA FA : Option Addr} {n pc m fc : Nat} {r0 : Int} (h : CsOf g PA n pc r0 FA m fc) (r : Int) : CsOf (withRoot g r) PA n pc r FA m fc := by
  obtain ⟨h1, h2, h3, h4, h5, h6, h7⟩ := cs_root h
  subst h2 h3 h4 h5 h6 h7
  exact cs_of (withRoot g r)
theorem withRoot_fl {w : World} {g : FV} (h : Fl w g) (r : Int) : Fl w (withRoot g r) := ⟨h.pg, h.fr⟩
theorem withRoot_bad {g : FV} {PA FA : Option Addr} {n pc m fc : Nat} {r0 : Int} (h : CsOf g PA n pc r0 FA m fc) : ¬ Vld (withRoot g (n : Int)).f := fun hv => by
  have h1 := hv.1.r2
  have h2 := (cs_root h).2.1
  have e1 : (withRoot g (n : Int)).f.pg.length = g.ps.length := by simp [FV.f, withRoot]
  have e2 : (withRoot g (n : Int)).f.root = (n : Int) := rfl
  omega
set_option maxHeartbeats 25600000 in
theorem StoreValid_walk (A : Option Addr) (n c : Nat) (X : List XV) (LA0 : Option Addr) (ln0 lc0 : Nat) (log : List UInt8) (last : Int) (sp : Bool) (w : World) (G : Hid (Gl w)) (HX : Hid (Xr w A n c X)) (LOG : Hid (Rd w 1 LA0 ln0 lc0 (bv log))) :
    Calls Tryz.prog 6 #[.slice A n c, .slice LA0 ln0 lc0, .int .i64 last, .bool sp] w fun e w' => e = .returned (.bool true) ∧ Below w.heap.size w w' := by
  have NX := Lib.hid HX.out.len
  have LL0 := Lib.hid (rd_bytes LOG.out)
  have AW := Lib.hid (awake_any w G)
  go_enter Tryz.func6, Tryz.ntmps6
  go_wp2_with fail
  go_at_call 7
  refine AW.out.mono ?_
  rintro e w1 ⟨rfl, bw⟩
  have HX1 := Lib.hid (HX.out.nx bw)
  have SL := small_any w1 HX1
  cases hs : smL X with
  | false =>
    rw [hs] at SL
    have SL := Lib.hid SL
    clear hs
    go_wp2_with fail
    go_at_call 8
    refine SL.out.mono ?_
    rintro e w2 ⟨rfl, b2⟩
    have bF := bw.trans (b2.mono bw.size)
    go_wp2_with fail
    go_ret
    exact ⟨rfl, bF⟩
  | true =>
    rw [hs] at SL
    have SL := Lib.hid SL
    have HS := smL_true hs
    have n6 : n ≤ 6 := by rw [NX.out]; exact HS.1
    have SM := Lib.hid HS.2
    clear hs HS
    by_cases hbig : 20000 < ln0
    · have d0 : decide (20000 < (ln0 : Int)) = true := decide_eq_true (by omega)
      have d0' : decide ((ln0 : Int) > 20000) = true := decide_eq_true (by omega)
      go_wp2_with fail
      go_at_call 8
      refine SL.out.mono ?_
      rintro e w2 ⟨rfl, b2⟩
      have bF := bw.trans (b2.mono bw.size)
      go_wp2_with fail
      go_ret
      exact ⟨rfl, bF⟩
    have d0 : decide (20000 < (ln0 : Int)) = false := decide_eq_false (by omega)
    have d0' : decide ((ln0 : Int) > 20000) = false := decide_eq_false (by omega)
    go_wp2_with fail
    go_at_call 8
    refine SL.out.mono ?_
    rintro e w2 ⟨rfl, b2⟩
    replace bw := bw.trans (b2.mono bw.size)
    replace HX1 := Lib.hid (HX1.out.nx b2)
    have MD := Lib.hid (made_any w2 (Lib.hid (G.out.nx bw)) HX1 (by omega) SM)
    go_wp2_with fail
    go_at_call 9
    refine MD.out.mono ?_
    rintro e w3 ⟨LA, ln, lc, rfl, S3, b3⟩
    have eN : Hid (((effs (fun _ => none) (X.map XV.t)).length : Int) = n) := Lib.hid (by rw [effs_len, List.length_map]; have := NX.out; omega)
    rw [eN.out] at S3 ⊢
    obtain ⟨Ts, hTs⟩ : ∃ Ts, effs (fun _ => none) (X.map XV.t) = Ts := ⟨_, rfl⟩
    rw [hTs] at S3
    have TL : Ts.length = n := by rw [← hTs, effs_len, List.length_map]; have := NX.out; omega
    clear hTs MD
    replace bw := bw.trans (b3.mono bw.size)
    replace HX1 := Lib.hid (HX1.out.nx b3)
    have wl3 := bw.size
    obtain ⟨q9, hq9⟩ : ∃ q9, w3.heap.size = q9 := ⟨_, rfl⟩
    obtain ⟨W4, hW4⟩ : ∃ W4, w3.alloc (.cells #[.slice none 0 0, .int .i64 (-1), .slice none 0 0, .slice LA ln lc, .int .i64 (n : Int)] 32) = W4 := ⟨_, rfl⟩
    have b4 : Below w3.heap.size w3 W4 := hW4 ▸ bal _ _
    have Z : Hid (Bx W4 q9 [.slice none 0 0, .int .i64 (-1), .slice none 0 0, .slice LA ln lc, .int .i64 (n : Int)]) := hW4 ▸ Lib.hid (Bx.put _ hq9 #[.slice none 0 0, .int .i64 (-1), .slice none 0 0, .slice LA ln lc, .int .i64 (n : Int)] 32)
    have TZ : Hid (Ty W4 q9 32) := hW4 ▸ hq9 ▸ Lib.hid (Ty.new _ _ _)
    have HW4 := Lib.hid hW4
    clear hW4
    replace bw := bw.trans (b4.mono bw.size)
    replace HX1 := Lib.hid (HX1.out.nx b4)
    replace S3 := Lib.hid (S3.out.nx b4)
    have z0 := Z.out.at_ 0 (by simp)
    have z1 := Z.out.at_ 1 (by simp)
    have z2 := Z.out.at_ 2 (by simp)
    have z3 := Z.out.at_ 3 (by simp)
    have z4 := Z.out.at_ 4 (by simp)
    simp only [List.getElem?_cons_succ, List.getElem?_cons_zero] at z0 z1 z2 z3 z4
    have hlo : w.heap.size ≤ q9 := by omega
    have FLn : Ts.flatten.length ≤ 72 := by have := flat_len3 (m := 12) (fun cs hc => (S3.out.ok cs hc).2); omega
    have CP := Lib.hid (sCp_ok (es0 := []) (J := 0) W4 (Lib.hid (G.out.nx bw)) S3 (Lib.hid (show Gok nil0.f [] 0 from gok_new)) (Lib.hid rfl) (by omega) (by omega))
    go_upto_region 8 with fail
    rw [HW4.out]
    go_wp2_with fail
    go_at_call 10
    refine CP.out.mono ?_
    rintro e w5 ⟨g, es, GA, HA, gn, gc, hn, hc, gr, rfl, S5, F5, _, b5⟩
    clear CP z0 z1 z2 z3 z4
    have Z5 := Lib.hid (Z.out.nx b5)
    have TZ5 := Lib.hid (TZ.out.nx b5)
    have bw5 := bw.trans (b5.mono bw.size)
    have CSG := S5.out.st.cs
    have Z6 := Lib.hid (res5_cells Z5.out rfl (.slice GA gn gc) (.int .i64 gr) (.slice HA hn hc) (.slice none 0 0) (.int .i64 (n : Int)))
    have K6 := Lib.hid (kp_set5 w5 q9 (.slice GA gn gc) (.int .i64 gr) (.slice HA hn hc) (.slice none 0 0) (.int .i64 (n : Int)))
    have z0 := Z5.out.at_ 0 (by simp)
    have z1 := Z5.out.at_ 1 (by simp)
    have z2 := Z5.out.at_ 2 (by simp)
    have z3 := Z5.out.at_ 3 (by simp)
    have z4 := Z5.out.at_ 4 (by simp)
    simp only [List.getElem?_cons_succ, List.getElem?_cons_zero] at z0 z1 z2 z3 z4
    have f0 := Z5.out.fz 0 (by simp)
    have f1 := Z5.out.fz 1 (by simp)
    have f2 := Z5.out.fz 2 (by simp)
    have f3 := Z5.out.fz 3 (by simp)
    have f4 := Z5.out.fz 4 (by simp)
    go_upto_region 9 with fail
    obtain ⟨W6, hW6⟩ : ∃ u, (((((w5.setCell ⟨q9, 0, none⟩ (.slice GA gn gc)).setCell ⟨q9, 1, none⟩ (.int .i64 gr)).setCell ⟨q9, 2, none⟩ (.slice HA hn hc)).setCell ⟨q9, 3, none⟩ (.slice none 0 0)).setCell ⟨q9, 4, none⟩ (.int .i64 (n : Int))) = u := ⟨_, rfl⟩
    rw [hW6] at Z6 K6 ⊢
    clear hW6 z0 z1 z2 z3 z4 f0 f1 f2 f3 f4
    have Z8 : Hid (Bx ((W6.setCell ⟨q9, 3, none⟩ (.slice LA0 ln0 lc0)).setCell ⟨q9, 4, none⟩ (.int .i64 last)) q9 [.slice GA gn gc, .int .i64 gr, .slice HA hn hc, .slice LA0 ln0 lc0, .int .i64 last]) := Lib.hid ((Z6.out.set (j := 3) (by simp) _).set (j := 4) (by simp) _)
    have K8 : Hid (Kp w5 ((W6.setCell ⟨q9, 3, none⟩ (.slice LA0 ln0 lc0)).setCell ⟨q9, 4, none⟩ (.int .i64 last)) (· = q9)) := Lib.hid ((K6.out.trans (Kp.of_set (X := (· = q9)) W6 ⟨q9, 3, none⟩ (.slice LA0 ln0 lc0) rfl) fun _ _ e => e).trans (Kp.of_set (X := (· = q9)) _ ⟨q9, 4, none⟩ (.int .i64 last) rfl) fun _ _ e => e)
    have z0 := Z6.out.at_ 0 (by simp)
    have z1 := Z6.out.at_ 1 (by simp)
    have z2 := Z6.out.at_ 2 (by simp)
    have z3 := Z6.out.at_ 3 (by simp)
    have z4 := Z6.out.at_ 4 (by simp)
    simp only [List.getElem?_cons_succ, List.getElem?_cons_zero] at z0 z1 z2 z3 z4
    have f0 := Z6.out.fz 0 (by simp)
    have f1 := Z6.out.fz 1 (by simp)
    have f2 := Z6.out.fz 2 (by simp)
    have f3 := Z6.out.fz 3 (by simp)
    have f4 := Z6.out.fz 4 (by simp)
    go_upto_region 12 with fail
    obtain ⟨W8, hW8⟩ : ∃ u, ((W6.setCell ⟨q9, 3, none⟩ (.slice LA0 ln0 lc0)).setCell ⟨q9, 4, none⟩ (.int .i64 last)) = u := ⟨_, rfl⟩
    rw [hW8] at Z8 K8 ⊢
    clear hW8 z0 z1 z2 z3 z4 f0 f1 f2 f3 f4
    have bw8 : Below w.heap.size w W8 := bw5.trans (K8.out.low (by have := bw5.size; omega) fun i e => by omega)
    have FL8 := Lib.hid (flk F5.out TZ5.out K8.out)
    have z0 := Z8.out.at_ 0 (by simp)
    have z1 := Z8.out.at_ 1 (by simp)
    have z2 := Z8.out.at_ 2 (by simp)
    have z3 := Z8.out.at_ 3 (by simp)
    have z4 := Z8.out.at_ 4 (by simp)
    simp only [List.getElem?_cons_succ, List.getElem?_cons_zero] at z0 z1 z2 z3 z4
    by_cases hsp : sp = true ∧ 0 < gn
    · obtain ⟨rfl, hg0⟩ := hsp
      have d1 : decide (0 < (gn : Int)) = true := decide_eq_true (by omega)
      have d1' : decide ((gn : Int) > 0) = true := decide_eq_true (by omega)
      have f0 := Z8.out.fz 0 (by simp)
      have f1 := Z8.out.fz 1 (by simp)
      have f2 := Z8.out.fz 2 (by simp)
      have f3 := Z8.out.fz 3 (by simp)
      have f4 := Z8.out.fz 4 (by simp)
      have ZV : Hid (Bx (W8.setCell ⟨q9, 1, none⟩ (.int .i64 (gn : Int))) q9 [.slice GA gn gc, .int .i64 (gn : Int), .slice HA hn hc, .slice LA0 ln0 lc0, .int .i64 last]) := Lib.hid (Z8.out.set (j := 1) (by simp) _)
      have KV : Hid (Kp w5 (W8.setCell ⟨q9, 1, none⟩ (.int .i64 (gn : Int))) (· = q9)) := Lib.hid (K8.out.trans (Kp.of_set (X := (· = q9)) W8 ⟨q9, 1, none⟩ (.int .i64 (gn : Int)) rfl) fun _ _ e => e)
      go_upto_region 14 with fail
      obtain ⟨WV, hWV⟩ : ∃ u, W8.setCell ⟨q9, 1, none⟩ (.int .i64 (gn : Int)) = u := ⟨_, rfl⟩
      rw [hWV] at ZV KV ⊢
      clear hWV z0 z1 z2 z3 z4 f0 f1 f2 f3 f4
      have bwV : Below w.heap.size w WV := bw5.trans (KV.out.low (by have := bw5.size; omega) fun i e => by omega)
      have FLV := Lib.hid (withRoot_fl (flk F5.out TZ5.out KV.out) (gn : Int))
      have CSV := withRoot_cs CSG (gn : Int)
      obtain ⟨fv, hfv⟩ : ∃ fv, withRoot g (gn : Int) = fv := ⟨_, rfl⟩
      rw [hfv] at FLV CSV
      clear hfv
      have STV : Hid (∀ U, Below WV.heap.size WV U → Sto U fv log GA gn gc (gn : Int) HA hn hc LA0 ln0 lc0) := Lib.hid fun U hU => ⟨CSV, FLV.out.below hU, LL0.out, (LOG.out.nx bwV).below hU, by omega⟩
      have GV := Lib.hid (G.out.nx bwV)
      have SVI : Hid (Svd fv log last ↔ vok log last = true ∧ Vld fv.f) := Lib.hid (by
        rw [vok_iff]; unfold Svd
        exact ⟨fun ⟨a, b, c, d⟩ => ⟨⟨a, b, d⟩, c⟩, fun ⟨⟨a, b, d⟩, c⟩ => ⟨a, b, c, d⟩⟩)
      have TR := rTrans_any (last := last) WV LL0 (Lib.hid (LOG.out.nx bwV)) (by omega)
      have BG : Hid (∀ U, Below WV.heap.size WV U → Calls Tryz.prog 24 #[.agg #[.slice GA gn gc, .int .i64 (gn : Int), .slice HA hn hc, .slice LA0 ln0 lc0, .int .i64 last]] U fun e w' => ((Svd fv log last ∧ e = .returned (.tuple #[.agg #[.slice GA gn gc, .int .i64 (gn : Int), .slice HA hn hc, .slice LA0 ln0 lc0, .int .i64 last, .slice none 0 0], .int .i64 0])) ∨ (¬ Svd fv log last ∧ e = .returned (.tuple #[.agg #[.slice none 0 0, .int .i64 0, .slice none 0 0, .slice none 0 0, .int .i64 0, .slice none 0 0], .int .i64 16]))) ∧ Below WV.heap.size WV w') := Lib.hid fun U hU =>
        (sBegin_any U (Lib.hid (GV.out.nx hU)) (Lib.hid (STV.out U hU))).mono fun e w' ⟨h1, h2⟩ => ⟨h1, hU.trans (h2.mono hU.size)⟩
      have VD : Hid (∀ U, Below WV.heap.size WV U → Calls Tryz.prog 13 #[.agg #[.slice GA gn gc, .int .i64 (gn : Int), .slice HA hn hc, .slice LA0 ln0 lc0, .int .i64 last]] U fun e w' => ∃ b, e = .returned (.bool b) ∧ (b = true ↔ Svd fv log last) ∧ Below WV.heap.size WV w') := Lib.hid fun U hU =>
        (sValid_any U (Lib.hid (GV.out.nx hU)) (Lib.hid (STV.out U hU))).mono fun e w' ⟨b, h1, h2, h3⟩ => ⟨b, h1, h2, hU.trans (h3.mono hU.size)⟩
      have z0 := ZV.out.at_ 0 (by simp)
      have z1 := ZV.out.at_ 1 (by simp)
      have z2 := ZV.out.at_ 2 (by simp)
      have z3 := ZV.out.at_ 3 (by simp)
      have z4 := ZV.out.at_ 4 (by simp)
      simp only [List.getElem?_cons_succ, List.getElem?_cons_zero] at z0 z1 z2 z3 z4
      cases hvk : vok log last with
      | false =>
        rw [hvk] at TR
        have TR := Lib.hid TR
        have NS : Hid (¬ Svd fv log last) := Lib.hid fun h => by have := (SVI.out.1 h).1; rw [hvk] at this; cases this
        clear hvk
        go_wp2_with fail
        go_at_call 22
        refine TR.out.mono ?_
        rintro e w14 ⟨A14, n14, c14, rfl, b14⟩
        clear z0 z1 z2 z3 z4
        have Z14 := Lib.hid (ZV.out.nx b14)
        have z0 := Z14.out.at_ 0 (by simp)
        have z1 := Z14.out.at_ 1 (by simp)
        have z2 := Z14.out.at_ 2 (by simp)
        have z3 := Z14.out.at_ 3 (by simp)
        have z4 := Z14.out.at_ 4 (by simp)
        simp only [List.getElem?_cons_succ, List.getElem?_cons_zero] at z0 z1 z2 z3 z4
        go_wp2_with fail
        go_at_call 24
        refine (BG.out _ b14).mono ?_
        rintro e w16 ⟨⟨hS, _⟩ | ⟨_, rfl⟩, b16⟩
        case inl => exact absurd hS NS.out
        clear z0 z1 z2 z3 z4
        have Z16 := Lib.hid (ZV.out.nx b16)
        obtain ⟨q15, hq15⟩ : ∃ q15, w16.heap.size = q15 := ⟨_, rfl⟩
        obtain ⟨W17, hW17⟩ : ∃ W17, w16.alloc (.cells #[.slice none 0 0, .int .i64 0, .slice none 0 0, .slice none 0 0, .int .i64 0, .slice none 0 0] 62) = W17 := ⟨_, rfl⟩
        have b17 : Below w16.heap.size w16 W17 := hW17 ▸ bal _ _
        have Q : Hid (Bx W17 q15 [.slice none 0 0, .int .i64 0, .slice none 0 0, .slice none 0 0, .int .i64 0, .slice none 0 0]) := hW17 ▸ Lib.hid (Bx.put _ hq15 #[.slice none 0 0, .int .i64 0, .slice none 0 0, .slice none 0 0, .int .i64 0, .slice none 0 0] 62)
        have TQ : Hid (Ty W17 q15 62) := hW17 ▸ hq15 ▸ Lib.hid (Ty.new _ _ _)
        have HW17 := Lib.hid hW17
        clear hW17
        have b17 := b16.trans (b17.mono b16.size)
        have Z17 := Lib.hid (ZV.out.nx b17)
        have z0 := Z17.out.at_ 0 (by simp)
        have z1 := Z17.out.at_ 1 (by simp)
        have z2 := Z17.out.at_ 2 (by simp)
        have z3 := Z17.out.at_ 3 (by simp)
        have z4 := Z17.out.at_ 4 (by simp)
        simp only [List.getElem?_cons_succ, List.getElem?_cons_zero] at z0 z1 z2 z3 z4
        go_upto_region 17 with fail
        rw [HW17.out]
        go_wp2_with fail
        go_at_call 13
        refine (VD.out _ b17).mono ?_
        rintro e w18 ⟨vb, rfl, hvb, b18⟩
        obtain rfl : vb = false := by
          cases vb with
          | false => rfl
          | true => exact absurd (hvb.1 rfl) NS.out
        have bF := bwV.trans (b18.mono bwV.size)
        clear hvb z0 z1 z2 z3 z4
        go_wp2_with fail
        go_ret
        exact ⟨rfl, bF⟩
      | true =>
        rw [hvk] at TR
        have TR := Lib.hid TR
        have HVK := Lib.hid hvk
        clear hvk
        go_wp2_with fail
        go_at_call 22
        refine TR.out.mono ?_
        rintro e w14 ⟨A14, n14, c14, rfl, b14⟩
        clear z0 z1 z2 z3 z4
        have Z14 := Lib.hid (ZV.out.nx b14)
        have PV := Lib.hid (Valid_cs CSV w14 (Lib.hid (GV.out.nx b14)) (Lib.hid (FLV.out.below b14)))
        have z0 := Z14.out.at_ 0 (by simp)
        have z1 := Z14.out.at_ 1 (by simp)
        have z2 := Z14.out.at_ 2 (by simp)
        have z3 := Z14.out.at_ 3 (by simp)
        have z4 := Z14.out.at_ 4 (by simp)
        simp only [List.getElem?_cons_succ, List.getElem?_cons_zero] at z0 z1 z2 z3 z4
        go_wp2_with fail
        go_at_call 23
        refine PV.out.mono ?_
        rintro e w15 ⟨pb, rfl, hpb, b15⟩
        have b15 := b14.trans (b15.mono b14.size)
        clear z0 z1 z2 z3 z4
        have Z15 := Lib.hid (ZV.out.nx b15)
        have z0 := Z15.out.at_ 0 (by simp)
        have z1 := Z15.out.at_ 1 (by simp)
        have z2 := Z15.out.at_ 2 (by simp)
        have z3 := Z15.out.at_ 3 (by simp)
        have z4 := Z15.out.at_ 4 (by simp)
        simp only [List.getElem?_cons_succ, List.getElem?_cons_zero] at z0 z1 z2 z3 z4
        cases pb with
        | false =>
          have NS : Hid (¬ Svd fv log last) := Lib.hid fun h => by have := hpb.2 (SVI.out.1 h).2; cases this
          clear hpb
          go_wp2_with fail
          go_at_call 24
          refine (BG.out _ b15).mono ?_
          rintro e w16 ⟨⟨hS, _⟩ | ⟨_, rfl⟩, b16⟩
          case inl => exact absurd hS NS.out
          clear z0 z1 z2 z3 z4
          have Z16 := Lib.hid (ZV.out.nx b16)
          obtain ⟨q15, hq15⟩ : ∃ q15, w16.heap.size = q15 := ⟨_, rfl⟩
          obtain ⟨W17, hW17⟩ : ∃ W17, w16.alloc (.cells #[.slice none 0 0, .int .i64 0, .slice none 0 0, .slice none 0 0, .int .i64 0, .slice none 0 0] 62) = W17 := ⟨_, rfl⟩
          have b17 : Below w16.heap.size w16 W17 := hW17 ▸ bal _ _
          have Q : Hid (Bx W17 q15 [.slice none 0 0, .int .i64 0, .slice none 0 0, .slice none 0 0, .int .i64 0, .slice none 0 0]) := hW17 ▸ Lib.hid (Bx.put _ hq15 #[.slice none 0 0, .int .i64 0, .slice none 0 0, .slice none 0 0, .int .i64 0, .slice none 0 0] 62)
          have TQ : Hid (Ty W17 q15 62) := hW17 ▸ hq15 ▸ Lib.hid (Ty.new _ _ _)
          have HW17 := Lib.hid hW17
          clear hW17
          have b17 := b16.trans (b17.mono b16.size)
          have Z17 := Lib.hid (ZV.out.nx b17)
          have z0 := Z17.out.at_ 0 (by simp)
          have z1 := Z17.out.at_ 1 (by simp)
          have z2 := Z17.out.at_ 2 (by simp)
          have z3 := Z17.out.at_ 3 (by simp)
          have z4 := Z17.out.at_ 4 (by simp)
          simp only [List.getElem?_cons_succ, List.getElem?_cons_zero] at z0 z1 z2 z3 z4
          go_upto_region 17 with fail
          rw [HW17.out]
          go_wp2_with fail
          go_at_call 13
          refine (VD.out _ b17).mono ?_
          rintro e w18 ⟨vb, rfl, hvb, b18⟩
          obtain rfl : vb = false := by
            cases vb with
            | false => rfl
            | true => exact absurd (hvb.1 rfl) NS.out
          have bF := bwV.trans (b18.mono bwV.size)
          clear hvb z0 z1 z2 z3 z4
          go_wp2_with fail
          go_ret
          exact ⟨rfl, bF⟩
        | true =>
          have YS : Hid (Svd fv log last) := Lib.hid (SVI.out.2 ⟨HVK.out, hpb.1 rfl⟩)
          clear hpb
          go_wp2_with fail
          go_at_call 24
          refine (BG.out _ b15).mono ?_
          rintro e w16 ⟨⟨_, rfl⟩ | ⟨hS, _⟩, b16⟩
          case inr => exact absurd YS.out hS
          clear z0 z1 z2 z3 z4
          have Z16 := Lib.hid (ZV.out.nx b16)
          obtain ⟨q15, hq15⟩ : ∃ q15, w16.heap.size = q15 := ⟨_, rfl⟩
          obtain ⟨W17, hW17⟩ : ∃ W17, w16.alloc (.cells #[.slice GA gn gc, .int .i64 (gn : Int), .slice HA hn hc, .slice LA0 ln0 lc0, .int .i64 last, .slice none 0 0] 62) = W17 := ⟨_, rfl⟩
          have b17 : Below w16.heap.size w16 W17 := hW17 ▸ bal _ _
          have Q : Hid (Bx W17 q15 [.slice GA gn gc, .int .i64 (gn : Int), .slice HA hn hc, .slice LA0 ln0 lc0, .int .i64 last, .slice none 0 0]) := hW17 ▸ Lib.hid (Bx.put _ hq15 #[.slice GA gn gc, .int .i64 (gn : Int), .slice HA hn hc, .slice LA0 ln0 lc0, .int .i64 last, .slice none 0 0] 62)
          have TQ : Hid (Ty W17 q15 62) := hW17 ▸ hq15 ▸ Lib.hid (Ty.new _ _ _)
          have HW17 := Lib.hid hW17
          clear hW17
          have b17 := b16.trans (b17.mono b16.size)
          have Z17 := Lib.hid (ZV.out.nx b17)
          have z0 := Z17.out.at_ 0 (by simp)
          have z1 := Z17.out.at_ 1 (by simp)
          have z2 := Z17.out.at_ 2 (by simp)
          have z3 := Z17.out.at_ 3 (by simp)
          have z4 := Z17.out.at_ 4 (by simp)
          simp only [List.getElem?_cons_succ, List.getElem?_cons_zero] at z0 z1 z2 z3 z4
          go_upto_region 17 with fail
          rw [HW17.out]
          go_wp2_with fail
          go_at_call 13
          refine (VD.out _ b17).mono ?_
          rintro e w18 ⟨vb, rfl, hvb, b18⟩
          obtain rfl : vb = true := hvb.2 YS.out
          have bF := bwV.trans (b18.mono bwV.size)
          clear hvb z0 z1 z2 z3 z4
          go_wp2_with fail
          go_ret
          exact ⟨rfl, bF⟩
    · obtain ⟨WV, rfl⟩ : ∃ u, u = W8 := ⟨_, rfl⟩
      have bwV := bw8
      have FLV := FL8
      have ZV := Z8
      have CSV := CSG
      cases sp with
      | false =>
        go_upto_region 14 with fail
        clear z0 z1 z2 z3 z4
        have STV : Hid (∀ U, Below WV.heap.size WV U → Sto U g log GA gn gc gr HA hn hc LA0 ln0 lc0) := Lib.hid fun U hU => ⟨CSV, FLV.out.below hU, LL0.out, (LOG.out.nx bwV).below hU, by omega⟩
        have GV := Lib.hid (G.out.nx bwV)
        have SVI : Hid (Svd g log last ↔ vok log last = true ∧ Vld g.f) := Lib.hid (by
          rw [vok_iff]; unfold Svd
          exact ⟨fun ⟨a, b, c, d⟩ => ⟨⟨a, b, d⟩, c⟩, fun ⟨⟨a, b, d⟩, c⟩ => ⟨a, b, c, d⟩⟩)
        have TR := rTrans_any (last := last) WV LL0 (Lib.hid (LOG.out.nx bwV)) (by omega)
        have BG : Hid (∀ U, Below WV.heap.size WV U → Calls Tryz.prog 24 #[.agg #[.slice GA gn gc, .int .i64 gr, .slice HA hn hc, .slice LA0 ln0 lc0, .int .i64 last]] U fun e w' => ((Svd g log last ∧ e = .returned (.tuple #[.agg #[.slice GA gn gc, .int .i64 gr, .slice HA hn hc, .slice LA0 ln0 lc0, .int .i64 last, .slice none 0 0], .int .i64 0])) ∨ (¬ Svd g log last ∧ e = .returned (.tuple #[.agg #[.slice none 0 0, .int .i64 0, .slice none 0 0, .slice none 0 0, .int .i64 0, .slice none 0 0], .int .i64 16]))) ∧ Below WV.heap.size WV w') := Lib.hid fun U hU =>
          (sBegin_any U (Lib.hid (GV.out.nx hU)) (Lib.hid (STV.out U hU))).mono fun e w' ⟨h1, h2⟩ => ⟨h1, hU.trans (h2.mono hU.size)⟩
        have VD : Hid (∀ U, Below WV.heap.size WV U → Calls Tryz.prog 13 #[.agg #[.slice GA gn gc, .int .i64 gr, .slice HA hn hc, .slice LA0 ln0 lc0, .int .i64 last]] U fun e w' => ∃ b, e = .returned (.bool b) ∧ (b = true ↔ Svd g log last) ∧ Below WV.heap.size WV w') := Lib.hid fun U hU =>
          (sValid_any U (Lib.hid (GV.out.nx hU)) (Lib.hid (STV.out U hU))).mono fun e w' ⟨b, h1, h2, h3⟩ => ⟨b, h1, h2, hU.trans (h3.mono hU.size)⟩
        have z0 := ZV.out.at_ 0 (by simp)
        have z1 := ZV.out.at_ 1 (by simp)
        have z2 := ZV.out.at_ 2 (by simp)
        have z3 := ZV.out.at_ 3 (by simp)
        have z4 := ZV.out.at_ 4 (by simp)
        simp only [List.getElem?_cons_succ, List.getElem?_cons_zero] at z0 z1 z2 z3 z4
        cases hvk : vok log last with
        | false =>
          rw [hvk] at TR
          have TR := Lib.hid TR
          have NS : Hid (¬ Svd g log last) := Lib.hid fun h => by have := (SVI.out.1 h).1; rw [hvk] at this; cases this
          clear hvk
          go_wp2_with fail
          go_at_call 22
          refine TR.out.mono ?_
          rintro e w14 ⟨A14, n14, c14, rfl, b14⟩
          clear z0 z1 z2 z3 z4
          have Z14 := Lib.hid (ZV.out.nx b14)
          have z0 := Z14.out.at_ 0 (by simp)
          have z1 := Z14.out.at_ 1 (by simp)
          have z2 := Z14.out.at_ 2 (by simp)
          have z3 := Z14.out.at_ 3 (by simp)
          have z4 := Z14.out.at_ 4 (by simp)
          simp only [List.getElem?_cons_succ, List.getElem?_cons_zero] at z0 z1 z2 z3 z4
          go_wp2_with fail
          go_at_call 24
          refine (BG.out _ b14).mono ?_
          rintro e w16 ⟨⟨hS, _⟩ | ⟨_, rfl⟩, b16⟩
          case inl => exact absurd hS NS.out
          clear z0 z1 z2 z3 z4
          have Z16 := Lib.hid (ZV.out.nx b16)
          obtain ⟨q15, hq15⟩ : ∃ q15, w16.heap.size = q15 := ⟨_, rfl⟩
          obtain ⟨W17, hW17⟩ : ∃ W17, w16.alloc (.cells #[.slice none 0 0, .int .i64 0, .slice none 0 0, .slice none 0 0, .int .i64 0, .slice none 0 0] 62) = W17 := ⟨_, rfl⟩
          have b17 : Below w16.heap.size w16 W17 := hW17 ▸ bal _ _
          have Q : Hid (Bx W17 q15 [.slice none 0 0, .int .i64 0, .slice none 0 0, .slice none 0 0, .int .i64 0, .slice none 0 0]) := hW17 ▸ Lib.hid (Bx.put _ hq15 #[.slice none 0 0, .int .i64 0, .slice none 0 0, .slice none 0 0, .int .i64 0, .slice none 0 0] 62)
          have TQ : Hid (Ty W17 q15 62) := hW17 ▸ hq15 ▸ Lib.hid (Ty.new _ _ _)
          have HW17 := Lib.hid hW17
          clear hW17
          have b17 := b16.trans (b17.mono b16.size)
          have Z17 := Lib.hid (ZV.out.nx b17)
          have z0 := Z17.out.at_ 0 (by simp)
          have z1 := Z17.out.at_ 1 (by simp)
          have z2 := Z17.out.at_ 2 (by simp)
          have z3 := Z17.out.at_ 3 (by simp)
          have z4 := Z17.out.at_ 4 (by simp)
          simp only [List.getElem?_cons_succ, List.getElem?_cons_zero] at z0 z1 z2 z3 z4
          go_upto_region 17 with fail
          rw [HW17.out]
          go_wp2_with fail
          go_at_call 13
          refine (VD.out _ b17).mono ?_
          rintro e w18 ⟨vb, rfl, hvb, b18⟩
          obtain rfl : vb = false := by
            cases vb with
            | false => rfl
            | true => exact absurd (hvb.1 rfl) NS.out
          have bF := bwV.trans (b18.mono bwV.size)
          clear hvb z0 z1 z2 z3 z4
          go_wp2_with fail
          go_ret
          exact ⟨rfl, bF⟩
        | true =>
          rw [hvk] at TR
          have TR := Lib.hid TR
          have HVK := Lib.hid hvk
          clear hvk
          go_wp2_with fail
          go_at_call 22
          refine TR.out.mono ?_
          rintro e w14 ⟨A14, n14, c14, rfl, b14⟩
          clear z0 z1 z2 z3 z4
          have Z14 := Lib.hid (ZV.out.nx b14)
          have PV := Lib.hid (Valid_cs CSV w14 (Lib.hid (GV.out.nx b14)) (Lib.hid (FLV.out.below b14)))
          have z0 := Z14.out.at_ 0 (by simp)
          have z1 := Z14.out.at_ 1 (by simp)
          have z2 := Z14.out.at_ 2 (by simp)
          have z3 := Z14.out.at_ 3 (by simp)
          have z4 := Z14.out.at_ 4 (by simp)
          simp only [List.getElem?_cons_succ, List.getElem?_cons_zero] at z0 z1 z2 z3 z4
          go_wp2_with fail
          go_at_call 23
          refine PV.out.mono ?_
          rintro e w15 ⟨pb, rfl, hpb, b15⟩
          have b15 := b14.trans (b15.mono b14.size)
          clear z0 z1 z2 z3 z4
          have Z15 := Lib.hid (ZV.out.nx b15)
          have z0 := Z15.out.at_ 0 (by simp)
          have z1 := Z15.out.at_ 1 (by simp)
          have z2 := Z15.out.at_ 2 (by simp)
          have z3 := Z15.out.at_ 3 (by simp)
          have z4 := Z15.out.at_ 4 (by simp)
          simp only [List.getElem?_cons_succ, List.getElem?_cons_zero] at z0 z1 z2 z3 z4
          cases pb with
          | false =>
            have NS : Hid (¬ Svd g log last) := Lib.hid fun h => by have := hpb.2 (SVI.out.1 h).2; cases this
            clear hpb
            go_wp2_with fail
            go_at_call 24
            refine (BG.out _ b15).mono ?_
            rintro e w16 ⟨⟨hS, _⟩ | ⟨_, rfl⟩, b16⟩
            case inl => exact absurd hS NS.out
            clear z0 z1 z2 z3 z4
            have Z16 := Lib.hid (ZV.out.nx b16)
            obtain ⟨q15, hq15⟩ : ∃ q15, w16.heap.size = q15 := ⟨_, rfl⟩
            obtain ⟨W17, hW17⟩ : ∃ W17, w16.alloc (.cells #[.slice none 0 0, .int .i64 0, .slice none 0 0, .slice none 0 0, .int .i64 0, .slice none 0 0] 62) = W17 := ⟨_, rfl⟩
            have b17 : Below w16.heap.size w16 W17 := hW17 ▸ bal _ _
            have Q : Hid (Bx W17 q15 [.slice none 0 0, .int .i64 0, .slice none 0 0, .slice none 0 0, .int .i64 0, .slice none 0 0]) := hW17 ▸ Lib.hid (Bx.put _ hq15 #[.slice none 0 0, .int .i64 0, .slice none 0 0, .slice none 0 0, .int .i64 0, .slice none 0 0] 62)
            have TQ : Hid (Ty W17 q15 62) := hW17 ▸ hq15 ▸ Lib.hid (Ty.new _ _ _)
            have HW17 := Lib.hid hW17
            clear hW17
            have b17 := b16.trans (b17.mono b16.size)
            have Z17 := Lib.hid (ZV.out.nx b17)
            have z0 := Z17.out.at_ 0 (by simp)
            have z1 := Z17.out.at_ 1 (by simp)
            have z2 := Z17.out.at_ 2 (by simp)
            have z3 := Z17.out.at_ 3 (by simp)
            have z4 := Z17.out.at_ 4 (by simp)
            simp only [List.getElem?_cons_succ, List.getElem?_cons_zero] at z0 z1 z2 z3 z4
            go_upto_region 17 with fail
            rw [HW17.out]
            go_wp2_with fail
            go_at_call 13
            refine (VD.out _ b17).mono ?_
            rintro e w18 ⟨vb, rfl, hvb, b18⟩
            obtain rfl : vb = false := by
              cases vb with
              | false => rfl
              | true => exact absurd (hvb.1 rfl) NS.out
            have bF := bwV.trans (b18.mono bwV.size)
            clear hvb z0 z1 z2 z3 z4
            go_wp2_with fail
            go_ret
            exact ⟨rfl, bF⟩
          | true =>
            have YS : Hid (Svd g log last) := Lib.hid (SVI.out.2 ⟨HVK.out, hpb.1 rfl⟩)
            clear hpb
            go_wp2_with fail
            go_at_call 24
            refine (BG.out _ b15).mono ?_
            rintro e w16 ⟨⟨_, rfl⟩ | ⟨hS, _⟩, b16⟩
            case inr => exact absurd YS.out hS
            clear z0 z1 z2 z3 z4
            have Z16 := Lib.hid (ZV.out.nx b16)
            obtain ⟨q15, hq15⟩ : ∃ q15, w16.heap.size = q15 := ⟨_, rfl⟩
            obtain ⟨W17, hW17⟩ : ∃ W17, w16.alloc (.cells #[.slice GA gn gc, .int .i64 gr, .slice HA hn hc, .slice LA0 ln0 lc0, .int .i64 last, .slice none 0 0] 62) = W17 := ⟨_, rfl⟩
            have b17 : Below w16.heap.size w16 W17 := hW17 ▸ bal _ _
            have Q : Hid (Bx W17 q15 [.slice GA gn gc, .int .i64 gr, .slice HA hn hc, .slice LA0 ln0 lc0, .int .i64 last, .slice none 0 0]) := hW17 ▸ Lib.hid (Bx.put _ hq15 #[.slice GA gn gc, .int .i64 gr, .slice HA hn hc, .slice LA0 ln0 lc0, .int .i64 last, .slice none 0 0] 62)
            have TQ : Hid (Ty W17 q15 62) := hW17 ▸ hq15 ▸ Lib.hid (Ty.new _ _ _)
            have HW17 := Lib.hid hW17
            clear hW17
            have b17 := b16.trans (b17.mono b16.size)
            have Z17 := Lib.hid (ZV.out.nx b17)
            have z0 := Z17.out.at_ 0 (by simp)
            have z1 := Z17.out.at_ 1 (by simp)
            have z2 := Z17.out.at_ 2 (by simp)
            have z3 := Z17.out.at_ 3 (by simp)
            have z4 := Z17.out.at_ 4 (by simp)
            simp only [List.getElem?_cons_succ, List.getElem?_cons_zero] at z0 z1 z2 z3 z4
            go_upto_region 17 with fail
            rw [HW17.out]
            go_wp2_with fail
            go_at_call 13
            refine (VD.out _ b17).mono ?_
            rintro e w18 ⟨vb, rfl, hvb, b18⟩
            obtain rfl : vb = true := hvb.2 YS.out
            have bF := bwV.trans (b18.mono bwV.size)
            clear hvb z0 z1 z2 z3 z4
            go_wp2_with fail
            go_ret
            exact ⟨rfl, bF⟩
      | true =>
        have hg0 : ¬ 0 < gn := fun h => hsp ⟨rfl, h⟩
        have d1 : decide (0 < (gn : Int)) = false := decide_eq_false (by omega)
        have d1' : decide ((gn : Int) > 0) = false := decide_eq_false (by omega)
        clear hsp
        go_upto_region 14 with fail
        clear z0 z1 z2 z3 z4
        have STV : Hid (∀ U, Below WV.heap.size WV U → Sto U g log GA gn gc gr HA hn hc LA0 ln0 lc0) := Lib.hid fun U hU => ⟨CSV, FLV.out.below hU, LL0.out, (LOG.out.nx bwV).below hU, by omega⟩
        have GV := Lib.hid (G.out.nx bwV)
        have SVI : Hid (Svd g log last ↔ vok log last = true ∧ Vld g.f) := Lib.hid (by
          rw [vok_iff]; unfold Svd
          exact ⟨fun ⟨a, b, c, d⟩ => ⟨⟨a, b, d⟩, c⟩, fun ⟨⟨a, b, d⟩, c⟩ => ⟨a, b, c, d⟩⟩)
        have TR := rTrans_any (last := last) WV LL0 (Lib.hid (LOG.out.nx bwV)) (by omega)
        have BG : Hid (∀ U, Below WV.heap.size WV U → Calls Tryz.prog 24 #[.agg #[.slice GA gn gc, .int .i64 gr, .slice HA hn hc, .slice LA0 ln0 lc0, .int .i64 last]] U fun e w' => ((Svd g log last ∧ e = .returned (.tuple #[.agg #[.slice GA gn gc, .int .i64 gr, .slice HA hn hc, .slice LA0 ln0 lc0, .int .i64 last, .slice none 0 0], .int .i64 0])) ∨ (¬ Svd g log last ∧ e = .returned (.tuple #[.agg #[.slice none 0 0, .int .i64 0, .slice none 0 0, .slice none 0 0, .int .i64 0, .slice none 0 0], .int .i64 16]))) ∧ Below WV.heap.size WV w') := Lib.hid fun U hU =>
          (sBegin_any U (Lib.hid (GV.out.nx hU)) (Lib.hid (STV.out U hU))).mono fun e w' ⟨h1, h2⟩ => ⟨h1, hU.trans (h2.mono hU.size)⟩
        have VD : Hid (∀ U, Below WV.heap.size WV U → Calls Tryz.prog 13 #[.agg #[.slice GA gn gc, .int .i64 gr, .slice HA hn hc, .slice LA0 ln0 lc0, .int .i64 last]] U fun e w' => ∃ b, e = .returned (.bool b) ∧ (b = true ↔ Svd g log last) ∧ Below WV.heap.size WV w') := Lib.hid fun U hU =>
          (sValid_any U (Lib.hid (GV.out.nx hU)) (Lib.hid (STV.out U hU))).mono fun e w' ⟨b, h1, h2, h3⟩ => ⟨b, h1, h2, hU.trans (h3.mono hU.size)⟩
        have z0 := ZV.out.at_ 0 (by simp)
        have z1 := ZV.out.at_ 1 (by simp)
        have z2 := ZV.out.at_ 2 (by simp)
        have z3 := ZV.out.at_ 3 (by simp)
        have z4 := ZV.out.at_ 4 (by simp)
        simp only [List.getElem?_cons_succ, List.getElem?_cons_zero] at z0 z1 z2 z3 z4
        cases hvk : vok log last with
        | false =>
          rw [hvk] at TR
          have TR := Lib.hid TR
          have NS : Hid (¬ Svd g log last) := Lib.hid fun h => by have := (SVI.out.1 h).1; rw [hvk] at this; cases this
          clear hvk
          go_wp2_with fail
          go_at_call 22
          refine TR.out.mono ?_
          rintro e w14 ⟨A14, n14, c14, rfl, b14⟩
          clear z0 z1 z2 z3 z4
          have Z14 := Lib.hid (ZV.out.nx b14)
          have z0 := Z14.out.at_ 0 (by simp)
          have z1 := Z14.out.at_ 1 (by simp)
          have z2 := Z14.out.at_ 2 (by simp)
          have z3 := Z14.out.at_ 3 (by simp)
          have z4 := Z14.out.at_ 4 (by simp)
          simp only [List.getElem?_cons_succ, List.getElem?_cons_zero] at z0 z1 z2 z3 z4
          go_wp2_with fail
          go_at_call 24
          refine (BG.out _ b14).mono ?_
          rintro e w16 ⟨⟨hS, _⟩ | ⟨_, rfl⟩, b16⟩
          case inl => exact absurd hS NS.out
          clear z0 z1 z2 z3 z4
          have Z16 := Lib.hid (ZV.out.nx b16)
          obtain ⟨q15, hq15⟩ : ∃ q15, w16.heap.size = q15 := ⟨_, rfl⟩
          obtain ⟨W17, hW17⟩ : ∃ W17, w16.alloc (.cells #[.slice none 0 0, .int .i64 0, .slice none 0 0, .slice none 0 0, .int .i64 0, .slice none 0 0] 62) = W17 := ⟨_, rfl⟩
          have b17 : Below w16.heap.size w16 W17 := hW17 ▸ bal _ _
          have Q : Hid (Bx W17 q15 [.slice none 0 0, .int .i64 0, .slice none 0 0, .slice none 0 0, .int .i64 0, .slice none 0 0]) := hW17 ▸ Lib.hid (Bx.put _ hq15 #[.slice none 0 0, .int .i64 0, .slice none 0 0, .slice none 0 0, .int .i64 0, .slice none 0 0] 62)
          have TQ : Hid (Ty W17 q15 62) := hW17 ▸ hq15 ▸ Lib.hid (Ty.new _ _ _)
          have HW17 := Lib.hid hW17
          clear hW17
          have b17 := b16.trans (b17.mono b16.size)
          have Z17 := Lib.hid (ZV.out.nx b17)
          have z0 := Z17.out.at_ 0 (by simp)
          have z1 := Z17.out.at_ 1 (by simp)
          have z2 := Z17.out.at_ 2 (by simp)
          have z3 := Z17.out.at_ 3 (by simp)
          have z4 := Z17.out.at_ 4 (by simp)
          simp only [List.getElem?_cons_succ, List.getElem?_cons_zero] at z0 z1 z2 z3 z4
          go_upto_region 17 with fail
          rw [HW17.out]
          go_wp2_with fail
          go_at_call 13
          refine (VD.out _ b17).mono ?_
          rintro e w18 ⟨vb, rfl, hvb, b18⟩
          obtain rfl : vb = false := by
            cases vb with
            | false => rfl
            | true => exact absurd (hvb.1 rfl) NS.out
          have bF := bwV.trans (b18.mono bwV.size)
          clear hvb z0 z1 z2 z3 z4
          go_wp2_with fail
          go_ret
          exact ⟨rfl, bF⟩
        | true =>
          rw [hvk] at TR
          have TR := Lib.hid TR
          have HVK := Lib.hid hvk
          clear hvk
          go_wp2_with fail
          go_at_call 22
          refine TR.out.mono ?_
          rintro e w14 ⟨A14, n14, c14, rfl, b14⟩
          clear z0 z1 z2 z3 z4
          have Z14 := Lib.hid (ZV.out.nx b14)
          have PV := Lib.hid (Valid_cs CSV w14 (Lib.hid (GV.out.nx b14)) (Lib.hid (FLV.out.below b14)))
          have z0 := Z14.out.at_ 0 (by simp)
          have z1 := Z14.out.at_ 1 (by simp)
          have z2 := Z14.out.at_ 2 (by simp)
          have z3 := Z14.out.at_ 3 (by simp)
          have z4 := Z14.out.at_ 4 (by simp)
          simp only [List.getElem?_cons_succ, List.getElem?_cons_zero] at z0 z1 z2 z3 z4
          go_wp2_with fail
          go_at_call 23
          refine PV.out.mono ?_
          rintro e w15 ⟨pb, rfl, hpb, b15⟩
          have b15 := b14.trans (b15.mono b14.size)
          clear z0 z1 z2 z3 z4
          have Z15 := Lib.hid (ZV.out.nx b15)
          have z0 := Z15.out.at_ 0 (by simp)
          have z1 := Z15.out.at_ 1 (by simp)
          have z2 := Z15.out.at_ 2 (by simp)
          have z3 := Z15.out.at_ 3 (by simp)
          have z4 := Z15.out.at_ 4 (by simp)
          simp only [List.getElem?_cons_succ, List.getElem?_cons_zero] at z0 z1 z2 z3 z4
          cases pb with
          | false =>
            have NS : Hid (¬ Svd g log last) := Lib.hid fun h => by have := hpb.2 (SVI.out.1 h).2; cases this
            clear hpb
            go_wp2_with fail
            go_at_call 24
            refine (BG.out _ b15).mono ?_
            rintro e w16 ⟨⟨hS, _⟩ | ⟨_, rfl⟩, b16⟩
            case inl => exact absurd hS NS.out
            clear z0 z1 z2 z3 z4
            have Z16 := Lib.hid (ZV.out.nx b16)
            obtain ⟨q15, hq15⟩ : ∃ q15, w16.heap.size = q15 := ⟨_, rfl⟩
            obtain ⟨W17, hW17⟩ : ∃ W17, w16.alloc (.cells #[.slice none 0 0, .int .i64 0, .slice none 0 0, .slice none 0 0, .int .i64 0, .slice none 0 0] 62) = W17 := ⟨_, rfl⟩
            have b17 : Below w16.heap.size w16 W17 := hW17 ▸ bal _ _
            have Q : Hid (Bx W17 q15 [.slice none 0 0, .int .i64 0, .slice none 0 0, .slice none 0 0, .int .i64 0, .slice none 0 0]) := hW17 ▸ Lib.hid (Bx.put _ hq15 #[.slice none 0 0, .int .i64 0, .slice none 0 0, .slice none 0 0, .int .i64 0, .slice none 0 0] 62)
            have TQ : Hid (Ty W17 q15 62) := hW17 ▸ hq15 ▸ Lib.hid (Ty.new _ _ _)
            have HW17 := Lib.hid hW17
            clear hW17
            have b17 := b16.trans (b17.mono b16.size)
            have Z17 := Lib.hid (ZV.out.nx b17)
            have z0 := Z17.out.at_ 0 (by simp)
            have z1 := Z17.out.at_ 1 (by simp)
            have z2 := Z17.out.at_ 2 (by simp)
            have z3 := Z17.out.at_ 3 (by simp)
            have z4 := Z17.out.at_ 4 (by simp)
            simp only [List.getElem?_cons_succ, List.getElem?_cons_zero] at z0 z1 z2 z3 z4
            go_upto_region 17 with fail
            rw [HW17.out]
            go_wp2_with fail
            go_at_call 13
            refine (VD.out _ b17).mono ?_
            rintro e w18 ⟨vb, rfl, hvb, b18⟩
            obtain rfl : vb = false := by
              cases vb with
              | false => rfl
              | true => exact absurd (hvb.1 rfl) NS.out
            have bF := bwV.trans (b18.mono bwV.size)
            clear hvb z0 z1 z2 z3 z4
            go_wp2_with fail
            go_ret
            exact ⟨rfl, bF⟩
          | true =>
            have YS : Hid (Svd g log last) := Lib.hid (SVI.out.2 ⟨HVK.out, hpb.1 rfl⟩)
            clear hpb
            go_wp2_with fail
            go_at_call 24
            refine (BG.out _ b15).mono ?_
            rintro e w16 ⟨⟨_, rfl⟩ | ⟨hS, _⟩, b16⟩
            case inr => exact absurd YS.out hS
            clear z0 z1 z2 z3 z4
            have Z16 := Lib.hid (ZV.out.nx b16)
            obtain ⟨q15, hq15⟩ : ∃ q15, w16.heap.size = q15 := ⟨_, rfl⟩
            obtain ⟨W17, hW17⟩ : ∃ W17, w16.alloc (.cells #[.slice GA gn gc, .int .i64 gr, .slice HA hn hc, .slice LA0 ln0 lc0, .int .i64 last, .slice none 0 0] 62) = W17 := ⟨_, rfl⟩
            have b17 : Below w16.heap.size w16 W17 := hW17 ▸ bal _ _
            have Q : Hid (Bx W17 q15 [.slice GA gn gc, .int .i64 gr, .slice HA hn hc, .slice LA0 ln0 lc0, .int .i64 last, .slice none 0 0]) := hW17 ▸ Lib.hid (Bx.put _ hq15 #[.slice GA gn gc, .int .i64 gr, .slice HA hn hc, .slice LA0 ln0 lc0, .int .i64 last, .slice none 0 0] 62)
            have TQ : Hid (Ty W17 q15 62) := hW17 ▸ hq15 ▸ Lib.hid (Ty.new _ _ _)
            have HW17 := Lib.hid hW17
            clear hW17
            have b17 := b16.trans (b17.mono b16.size)
            have Z17 := Lib.hid (ZV.out.nx b17)
            have z0 := Z17.out.at_ 0 (by simp)
            have z1 := Z17.out.at_ 1 (by simp)
            have z2 := Z17.out.at_ 2 (by simp)
            have z3 := Z17.out.at_ 3 (by simp)
            have z4 := Z17.out.at_ 4 (by simp)
            simp only [List.getElem?_cons_succ, List.getElem?_cons_zero] at z0 z1 z2 z3 z4
            go_upto_region 17 with fail
            rw [HW17.out]
            go_wp2_with fail
            go_at_call 13
            refine (VD.out _ b17).mono ?_
            rintro e w18 ⟨vb, rfl, hvb, b18⟩
            obtain rfl : vb = true := hvb.2 YS.out
            have bF := bwV.trans (b18.mono bwV.size)
            clear hvb z0 z1 z2 z3 z4
            go_wp2_with fail
            go_ret
            exact ⟨rfl, bF⟩
end Go.Proofs.YtpmkohnljngbhaaGreatDoor.Sr
