/- The law: StoreLogs. -/
import Derived.Test.YtpmkohnljngbhaaGreatDoorSrZ4
import Derived.Test.YtpmkohnljngbhaaGreatDoorSrZ5
namespace Go.Proofs.YtpmkohnljngbhaaGreatDoor.Sr
set_option linter.unusedVariables false
set_option linter.unusedSimpArgs false
set_option maxRecDepth 1000000
open Go.RowKit Wl Pg
theorem flat_len6 {Ts : List (List Ch)} {m : Nat} (h : ∀ cs ∈ Ts, cs.length ≤ m) : Ts.flatten.length ≤ Ts.length * m := by
  induction Ts with
  | nil => simp
  | cons a L ih =>
    have h1 := h a (by simp)
    have h2 := ih fun cs hc => h cs (by simp [hc])
    rw [List.flatten_cons, List.length_append, List.length_cons, Nat.add_mul]; omega
theorem effs_drop : ∀ (L : List (List Ch)) (b : Ent) (k : Nat), (effs b L).drop k = effs (app b (L.take k).flatten) (L.drop k)
  | [], b, k => by simp [effs]
  | t :: L, b, 0 => rfl
  | t :: L, b, k + 1 => by
    show (eff b t :: effs (app b t) L).drop (k + 1) = effs (app b (t :: L.take k).flatten) (L.drop k)
    rw [List.drop_succ_cons, effs_drop L, List.flatten_cons, app_app]
theorem effs_small {L : List (List Ch)} : ∀ {b : Ent}, (∀ t ∈ L, t.length ≤ 12) → ∀ t ∈ effs b L, t.length ≤ 12 := by
  induction L with
  | nil => intro b _ t ht; cases ht
  | cons x L ih =>
    intro b h t ht
    rcases List.mem_cons.1 ht with rfl | ht
    · exact Nat.le_trans (eff_len _ _) (h x (by simp))
    · exact ih (fun y hy => h y (by simp [hy])) t ht
theorem ef_small {w wr : World} {qe n : Nat} {L X : List XV} (h : Ef w wr qe n L) (e : L.map XV.t = effs (fun _ => none) (X.map XV.t)) (SM : ∀ x ∈ X, x.l.length ≤ 12 ∧ ∀ y ∈ x.l, y.ch.ok = true) : ∀ x ∈ L, x.l.length ≤ 12 ∧ ∀ y ∈ x.l, y.ch.ok = true := fun x hx => by
  have h1 : x.t ∈ effs (fun _ => none) (X.map XV.t) := by rw [← e]; exact List.mem_map_of_mem hx
  have h2 := effs_small (fun t ht => by
    obtain ⟨z, hz, rfl⟩ := List.mem_map.1 ht
    show (z.l.map CV.ch).length ≤ 12
    rw [List.length_map]; exact (SM z hz).1) _ h1
  refine ⟨?_, fun y hy => (h.dt x hx y hy).2⟩
  have : x.t.length = x.l.length := by unfold XV.t; rw [List.length_map]
  omega
/-- A list from a place on. -/
def sub0 (A : Option Addr) (c k : Nat) : Option Addr := if c = k then A else A.map (·.add k)
theorem Xr.from_ {w : World} {A : Option Addr} {n c : Nat} {X : List XV} (h : Xr w A n c X) {k : Nat} (hk : k ≤ n) : Xr w (sub0 A c k) (n - k) (c - k) (X.drop k) := by
  have hl := h.len
  have hnc := h.row.nc
  have h63 := h.row.c63
  refine ⟨⟨by rw [xvs_len, List.length_drop]; omega, by omega, fun e => ?_, by omega, fun h0 => ?_⟩, fun x hx => h.dat x (List.mem_of_mem_drop hx)⟩
  · unfold sub0 at e
    split at e
    · omega
    · rcases A with _ | a
      · have := h.row.nil rfl; omega
      · cases e
  · obtain ⟨g, o, rfl, hg, hc⟩ := h.row.at_ (by omega)
    refine ⟨g, o + k, by unfold sub0; rw [if_neg (by omega)]; simp [go_sem], hg, fun j hj => ?_⟩
    rw [Nat.add_assoc, hc (k + j) (by omega)]
    unfold xvs
    rw [List.map_drop, List.getElem?_drop]
theorem sl_from (A : Option Addr) (n c k : Nat) (hk : k ≤ n) (w : World) : (Instr.sliceAt 22 (.slice A n c) (some (.int .i64 (k : Int))) none none).run Tryz.prog w = .ok (.slice (sub0 A c k) (n - k) (c - k)) w := by
  have e1 := run_sliceAt_slice (P := Tryz.prog) w 22 (.slice A n c) (some (.int .i64 (k : Int))) none none Tryz.underlying22
  have e2 := run_slice_l (P := Tryz.prog) w 22 A n c Tryz.underlying22 .i64 (k : Int) (by omega) (by omega)
  rw [e1, e2]
  simp [go_sem, sliced, sub0]
set_option maxHeartbeats 25600000 in
theorem StoreLogs_walk (A : Option Addr) (n c : Nat) (X : List XV) (at_ : Int) (w : World) (G : Hid (Gl w)) (HX : Hid (Xr w A n c X)) (at0 : 0 ≤ at_) (at1 : at_ ≤ 255) :
    Calls Tryz.prog 5 #[.slice A n c, .int .u8 at_] w fun e w' => e = .returned (.bool true) ∧ Below w.heap.size w w' := by
  have NX := Lib.hid HX.out.len
  have AW := Lib.hid (awake_any w G)
  go_enter Tryz.func5, Tryz.ntmps5
  go_wp2_with fail
  go_at_call 7
  refine AW.out.mono ?_
  rintro e w1 ⟨rfl, bw⟩
  have HX1 := Lib.hid (HX.out.nx bw)
  have SL := small_any w1 HX1
  cases hs : smL X with
  | false =>
    rw [hs] at SL
    have SL := Lib.hid SL
    clear hs
    go_wp2_with fail
    go_at_call 8
    refine SL.out.mono ?_
    rintro e w2 ⟨rfl, b2⟩
    have bF := bw.trans (b2.mono bw.size)
    go_wp2_with fail
    go_ret
    exact ⟨rfl, bF⟩
  | true =>
    rw [hs] at SL
    have SL := Lib.hid SL
    have HS := smL_true hs
    have n6 : n ≤ 6 := by rw [NX.out]; exact HS.1
    have SM := Lib.hid HS.2
    clear hs HS
    go_wp2_with fail
    go_at_call 8
    refine SL.out.mono ?_
    rintro e w2 ⟨rfl, b2⟩
    replace bw := bw.trans (b2.mono bw.size)
    replace HX1 := Lib.hid (HX1.out.nx b2)
    have EE := Lib.hid (effective_any w2 HX1 (by omega) SM)
    go_wp2_with fail
    go_at_call 20
    refine EE.out.mono ?_
    rintro e w3 ⟨L, rfl, HL, EF, b3⟩
    obtain ⟨qe, hqe⟩ : ∃ qe, w2.heap.size = qe := ⟨_, rfl⟩
    rw [hqe] at EF ⊢
    have SML := Lib.hid (ef_small EF.out HL.out SM.out)
    have LX := Lib.hid (EF.out.xr b3)
    clear EE EF hqe
    replace bw := bw.trans (b3.mono bw.size)
    replace HX1 := Lib.hid (HX1.out.nx b3)
    have MD := Lib.hid (made_any w3 (Lib.hid (G.out.nx bw)) HX1 (by omega) SM)
    go_wp2_with fail
    go_at_call 9
    refine MD.out.mono ?_
    rintro e w4 ⟨LA, ln, lc, rfl, S4, b4⟩
    have eN : Hid (((effs (fun _ => none) (X.map XV.t)).length : Int) = n) := Lib.hid (by rw [effs_len, List.length_map]; have := NX.out; omega)
    rw [eN.out] at S4 ⊢
    obtain ⟨Ts, hTs⟩ : ∃ Ts, effs (fun _ => none) (X.map XV.t) = Ts := ⟨_, rfl⟩
    rw [hTs] at S4 HL
    have HTS := Lib.hid hTs
    clear hTs MD
    replace bw := bw.trans (b4.mono bw.size)
    replace HX1 := Lib.hid (HX1.out.nx b4)
    replace LX := Lib.hid (LX.out.nx b4)
    obtain ⟨q6, hq6⟩ : ∃ q6, w4.heap.size = q6 := ⟨_, rfl⟩
    obtain ⟨W5, hW5⟩ : ∃ W5, w4.alloc (.cells #[.slice none 0 0, .int .i64 (-1), .slice none 0 0, .slice LA ln lc, .int .i64 (n : Int)] 32) = W5 := ⟨_, rfl⟩
    have b5 : Below w4.heap.size w4 W5 := hW5 ▸ bal _ _
    have Z : Hid (Bx W5 q6 [.slice none 0 0, .int .i64 (-1), .slice none 0 0, .slice LA ln lc, .int .i64 (n : Int)]) := hW5 ▸ Lib.hid (Bx.put _ hq6 #[.slice none 0 0, .int .i64 (-1), .slice none 0 0, .slice LA ln lc, .int .i64 (n : Int)] 32)
    have TZ : Hid (Ty W5 q6 32) := hW5 ▸ hq6 ▸ Lib.hid (Ty.new _ _ _)
    have HW5 := Lib.hid hW5
    clear hW5
    replace bw := bw.trans (b5.mono bw.size)
    replace HX1 := Lib.hid (HX1.out.nx b5)
    replace S4 := Lib.hid (S4.out.nx b5)
    replace LX := Lib.hid (LX.out.nx b5)
    have SK : Hid (∀ U, Below W5.heap.size W5 U → U.cell? ⟨q6, 3, none⟩ = some (.slice LA ln lc)) := Lib.hid fun U hU => by
      have X := Lib.hid (Z.out.nx hU)
      have s0 := X.out.at_ 0 (by simp)
      have s1 := X.out.at_ 1 (by simp)
      have s2 := X.out.at_ 2 (by simp)
      have s3 := X.out.at_ 3 (by simp)
      have s4 := X.out.at_ 4 (by simp)
      simp only [List.getElem?_cons_succ, List.getElem?_cons_zero] at s0 s1 s2 s3 s4
      exact s3
    have LG5 := Lib.hid S4.out.st.lg
    have VD : Hid (Below W5.heap.size W5 W5.drew) := Lib.hid (Below.refl _ _).drew
    have LO : Hid (∀ U, Below W5.heap.size W5 U → Calls Tryz.prog 21 #[.slice (some ⟨qe, 0, none⟩) n n, .int .i64 1] U fun e w' => ∃ (OA : Option Addr) (on oc : Nat), e = .returned (.slice OA on oc) ∧ Hid (Rd w' 1 OA on oc (bv (logL 1 Ts))) ∧ Below W5.heap.size W5 w') := Lib.hid fun U hU => by
      have h := rLog_any 1 U (Lib.hid (LX.out.nx hU)) (by omega) SML (by omega) (by omega)
      rw [HL.out] at h
      exact h.mono fun e w' ⟨OA, on, oc, h1, h2, h3⟩ => ⟨OA, on, oc, h1, h2, hU.trans (h3.mono hU.size)⟩
    have EQ : Hid (∀ U OA on oc, Below W5.heap.size W5 U → Hid (Rd U 1 OA on oc (bv (logL 1 Ts))) → Calls Tryz.prog 18 #[.slice LA ln lc, .slice OA on oc] U fun e w' => e = .returned (.bool true) ∧ Below W5.heap.size W5 w') := Lib.hid fun U OA on oc hU hO => by
      have h := Pg.Equal_any U (Lib.hid (LG5.out.nx hU)) hO
      rw [Pg.eqB_self] at h
      exact h.mono fun e w' ⟨h1, h2⟩ => ⟨h1, h2 ▸ hU⟩
    have s3 := SK.out _ (Below.refl _ _)
    go_upto_region 7 with fail
    rw [HW5.out]
    go_region_held_law (fun w' => w'.cell? ⟨q6, 3, none⟩ = some (.slice LA ln lc)) (first | exact SK.out _ VD.out | exact SK.out _ V6.out | exact SK.out _ V7.out)
      (first
        | (go_simp
           go_at_call 21
           refine (LO.out _ VD.out).mono ?_
           rintro e w6 ⟨OA, on, oc, rfl, OR, v6⟩
           have V6 := Lib.hid v6
           clear v6
           dsimp only)
        | (go_simp
           go_at_call 18
           refine (EQ.out _ _ _ _ V6.out OR).mono ?_
           rintro e w7 ⟨rfl, v7⟩
           have V7 := Lib.hid v7
           clear v7
           dsimp only))
    all_goals
      have b57 := V7.out
      have bw7 := bw.trans (b57.mono bw.size)
      have HX7 := Lib.hid (HX1.out.nx b57)
      have LX7 := Lib.hid (LX.out.nx b57)
      clear V6 V7 OR LO EQ SK LG5 VD s3 S4
      obtain ⟨k, hk, hkn⟩ : ∃ k : Nat, at_.tmod ((n : Int) + 1) = k ∧ k ≤ n := ⟨(at_.tmod ((n : Int) + 1)).toNat, by rw [Int.tmod_eq_emod_of_nonneg at0]; have := Int.emod_nonneg at_ (show (n : Int) + 1 ≠ 0 by omega); omega, by rw [Int.tmod_eq_emod_of_nonneg at0]; have := Int.emod_lt_of_pos at_ (show (0 : Int) < (n : Int) + 1 by omega); omega⟩
      have hnc := HX1.out.row.nc
      have h63 := HX1.out.row.c63
      have n10 : (n : Int) + 1 ≠ 0 := by omega
      have SF := fun w : World => sl_to A n c k (by omega) w
      have SMk : Hid (∀ x ∈ X.take k, x.l.length ≤ 12 ∧ ∀ y ∈ x.l, y.ch.ok = true) := Lib.hid fun x hx => SM.out x (List.mem_of_mem_take hx)
      have MD := Lib.hid (made_any w7 (Lib.hid (G.out.nx bw7)) (Lib.hid (HX7.out.upto hkn)) (by omega) SMk)
      go_wp2_with fail
      go_at_call 9
      refine MD.out.mono ?_
      rintro e w8 ⟨LB, lbn, lbc, rfl, S8, b8⟩
      have eN : Hid (((effs (fun _ => none) ((X.take k).map XV.t)).length : Int) = k) := Lib.hid (by rw [effs_len, List.length_map, List.length_take]; have := NX.out; omega)
      rw [eN.out] at S8 ⊢
      obtain ⟨Tk, hTk⟩ : ∃ Tk, effs (fun _ => none) ((X.take k).map XV.t) = Tk := ⟨_, rfl⟩
      rw [hTk] at S8
      have HTK := Lib.hid hTk
      have TKL : Tk.length = k := by rw [← hTk, effs_len, List.length_map, List.length_take]; have := NX.out; omega
      clear hTk MD SF eN
      have bw8 := bw7.trans (b8.mono bw7.size)
      have wl8 := bw8.size
      obtain ⟨q9, hq9⟩ : ∃ q9, w8.heap.size = q9 := ⟨_, rfl⟩
      obtain ⟨W9, hW9⟩ : ∃ W9, w8.alloc (.cells #[.slice none 0 0, .int .i64 (-1), .slice none 0 0, .slice LB lbn lbc, .int .i64 (k : Int)] 32) = W9 := ⟨_, rfl⟩
      have b9 : Below w8.heap.size w8 W9 := hW9 ▸ bal _ _
      have Y : Hid (Bx W9 q9 [.slice none 0 0, .int .i64 (-1), .slice none 0 0, .slice LB lbn lbc, .int .i64 (k : Int)]) := hW9 ▸ Lib.hid (Bx.put _ hq9 #[.slice none 0 0, .int .i64 (-1), .slice none 0 0, .slice LB lbn lbc, .int .i64 (k : Int)] 32)
      have TY : Hid (Ty W9 q9 32) := hW9 ▸ hq9 ▸ Lib.hid (Ty.new _ _ _)
      have HW9 := Lib.hid hW9
      clear hW9
      have bw9 := bw8.trans (b9.mono bw8.size)
      have S9 := Lib.hid (S8.out.nx b9)
      have FLn : Tk.flatten.length ≤ 72 := by have := flat_len6 (m := 12) (fun cs hc => (S8.out.ok cs hc).2); omega
      have CP := Lib.hid (sCp_ok (es0 := []) (J := 0) W9 (Lib.hid (G.out.nx bw9)) S9 (Lib.hid (show Gok nil0.f [] 0 from gok_new)) (Lib.hid rfl) (by omega) (by omega))
      have y0 := Y.out.at_ 0 (by simp)
      have y1 := Y.out.at_ 1 (by simp)
      have y2 := Y.out.at_ 2 (by simp)
      have y3 := Y.out.at_ 3 (by simp)
      have y4 := Y.out.at_ 4 (by simp)
      simp only [List.getElem?_cons_succ, List.getElem?_cons_zero] at y0 y1 y2 y3 y4
      go_upto_region 11 with fail
      rw [HW9.out]
      go_wp2_with fail
      go_at_call 10
      refine CP.out.mono ?_
      rintro e w10 ⟨g, es, GA, HA, gn, gc, hn, hc, gr, rfl, S10, F10, _, b10⟩
      obtain ⟨B, hB⟩ : ∃ B, app (fun _ => none) Tk.flatten = B := ⟨_, rfl⟩
      rw [hB] at S10
      have HBE := Lib.hid hB
      clear hB CP y0 y1 y2 y3 y4
      have bw10 := bw9.trans (b10.mono bw9.size)
      have wl10 := bw10.size
      obtain ⟨q10, hq10⟩ : ∃ q10, w10.heap.size = q10 := ⟨_, rfl⟩
      obtain ⟨W11, hW11⟩ : ∃ W11, w10.alloc (.cells #[.slice GA gn gc, .int .i64 gr, .slice HA hn hc, .slice none 0 0, .int .i64 (k : Int)] 32) = W11 := ⟨_, rfl⟩
      have b11 : Below w10.heap.size w10 W11 := hW11 ▸ bal _ _
      have Q : Hid (Bx W11 q10 [.slice GA gn gc, .int .i64 gr, .slice HA hn hc, .slice none 0 0, .int .i64 (k : Int)]) := hW11 ▸ Lib.hid (Bx.put _ hq10 #[.slice GA gn gc, .int .i64 gr, .slice HA hn hc, .slice none 0 0, .int .i64 (k : Int)] 32)
      have TQ : Hid (Ty W11 q10 32) := hW11 ▸ hq10 ▸ Lib.hid (Ty.new _ _ _)
      have HW11 := Lib.hid hW11
      clear hW11
      have bw11 := bw10.trans (b11.mono bw10.size)
      have b711 := b8.trans ((b9.trans ((b10.trans (b11.mono b10.size)).mono b9.size)).mono b8.size)
      have S11 := Lib.hid (S10.out.nx b11)
      have F11 := Lib.hid (flt_nx F10.out b11)
      have HX11 := Lib.hid (HX7.out.nx b711)
      have LX11 := Lib.hid (LX7.out.nx b711)
      have G11 := Lib.hid (G.out.nx bw11)
      have hlo : w.heap.size ≤ q10 := by omega
      obtain ⟨Us, hUs⟩ : ∃ Us, effs B ((X.drop k).map XV.t) = Us := ⟨_, rfl⟩
      have UT : Hid (Ts.drop k = Us) := Lib.hid (by
        rw [← hUs, ← HTS.out, effs_drop, ← HBE.out, ← HTK.out, app_effs, List.map_take, List.map_drop])
      have HUS := Lib.hid hUs
      clear hUs
      obtain ⟨A2, hA2⟩ : ∃ A2, sub0 A c k = A2 := ⟨_, rfl⟩
      have HXd := Lib.hid (HX11.out.from_ hkn)
      rw [hA2] at HXd
      have SMd : Hid (∀ x ∈ X.drop k, x.l.length ≤ 12 ∧ ∀ y ∈ x.l, y.ch.ok = true) := Lib.hid fun x hx => SM.out x (List.mem_of_mem_drop hx)
      have SF := fun w : World => sl_from A n c k hkn w
      rw [hA2] at SF
      have HA2 := Lib.hid hA2
      clear hA2
      have eL : (k : Int) + ((n - k : Nat) : Int) = (n : Int) := by omega
      have MM : Hid (∀ U, Below W11.heap.size W11 U → Calls Tryz.prog 11 #[.agg #[.slice GA gn gc, .int .i64 gr, .slice HA hn hc, .slice none 0 0, .int .i64 (k : Int)], .slice A2 (n - k) (c - k)] U (MmPost U g B (k + 1) Us GA gn gc gr HA hn hc (n : Int) none 0)) := Lib.hid fun U hU => by
        have h := lmore_any U (Lib.hid (G11.out.nx hU)) (Lib.hid (S11.out.nx hU)) (Lib.hid (HXd.out.nx hU)) (by simp; omega) SMd
        rw [eL] at h
        rw [← HUS.out]
        exact h
      have KK : Hid (∀ U, Below W11.heap.size W11 U → Bx U q10 [.slice GA gn gc, .int .i64 gr, .slice HA hn hc, .slice none 0 0, .int .i64 (k : Int)]) := Lib.hid fun U hU => Q.out.nx hU
      have VD : Hid (Below W11.heap.size W11 W11.drew) := Lib.hid (Below.refl _ _).drew
      clear eL
      have z0 := Q.out.at_ 0 (by simp)
      have z1 := Q.out.at_ 1 (by simp)
      have z2 := Q.out.at_ 2 (by simp)
      have z3 := Q.out.at_ 3 (by simp)
      have z4 := Q.out.at_ 4 (by simp)
      simp only [List.getElem?_cons_succ, List.getElem?_cons_zero] at z0 z1 z2 z3 z4
      go_upto_region 14 with fail
      rw [HW11.out]
      go_region_law
        (first
          | (go_simp
             go_at_call 11
             refine (MM.out _ VD.out).mono ?_
             rintro e w12 ⟨LC, lcn, lcc, rfl, S12, NA12, b12⟩
             have v12 := VD.out.trans (b12.mono VD.out.size)
             have X12 := KK.out _ v12
             have s0 := X12.at_ 0 (by simp)
             have s1 := X12.at_ 1 (by simp)
             have s2 := X12.at_ 2 (by simp)
             have s3 := X12.at_ 3 (by simp)
             have s4 := X12.at_ 4 (by simp)
             simp only [List.getElem?_cons_succ, List.getElem?_cons_zero] at s0 s1 s2 s3 s4
             have f0 := X12.fz 0 (by simp)
             have f1 := X12.fz 1 (by simp)
             have f2 := X12.fz 2 (by simp)
             have f3 := X12.fz 3 (by simp)
             have f4 := X12.fz 4 (by simp)
             have V12 := Lib.hid v12
             clear v12
             dsimp only))
      all_goals
        have q10l := Q.out.lt
        have NB : Hid (0 < lcn → blk LC ≠ some q10) := Lib.hid fun h0 e => by
          rcases NA12.out with ⟨_, h⟩ | h
          · omega
          · have h1 := h _ e
            have h2 := VD.out.size
            omega
        have hW5 : W5.heap.size ≤ q10 := by have := b57.size; have := b8.size; have := b9.size; have := b10.size; omega
        have b512 : Below W5.heap.size W5 w12 := b57.trans ((b711.trans (V12.out.mono b711.size)).mono b57.size)
        have Z13 := Lib.hid (res5_cells X12 rfl (.slice GA gn gc) (.int .i64 gr) (.slice HA hn hc) (.slice LC lcn lcc) (.int .i64 (n : Int)))
        have K13 := Lib.hid ((Kp.of_below V12.out (· = q10)).trans (kp_set5 w12 q10 (.slice GA gn gc) (.int .i64 gr) (.slice HA hn hc) (.slice LC lcn lcc) (.int .i64 (n : Int))) fun _ _ e => e)
        have L13 := Lib.hid (rd_res5 (R := q10) (a := .slice GA gn gc) (b := .int .i64 gr) (d := .slice HA hn hc) (e := .slice LC lcn lcc) (f := .int .i64 (n : Int)) S12.out.st.lg NB.out)
        have bw13 := res5_below (R := q10) (a := .slice GA gn gc) (b := .int .i64 gr) (c := .slice HA hn hc) (d := .slice LC lcn lcc) (e := .int .i64 (n : Int)) (bw11.trans (V12.out.mono bw11.size)) hlo
        have b513 := res5_below (R := q10) (a := .slice GA gn gc) (b := .int .i64 gr) (c := .slice HA hn hc) (d := .slice LC lcn lcc) (e := .int .i64 (n : Int)) b512 hW5
        clear X12 s0 s1 s2 s3 s4 z0 z1 z2 z3 z4 SF
        go_upto_region 15 with fail
        obtain ⟨W13, hW13⟩ : ∃ u, (((((w12.setCell ⟨q10, 0, none⟩ (.slice GA gn gc)).setCell ⟨q10, 1, none⟩ (.int .i64 gr)).setCell ⟨q10, 2, none⟩ (.slice HA hn hc)).setCell ⟨q10, 3, none⟩ (.slice LC lcn lcc)).setCell ⟨q10, 4, none⟩ (.int .i64 (n : Int))) = u := ⟨_, rfl⟩
        rw [hW13] at Z13 K13 L13 bw13 b513 ⊢
        clear hW13 f0 f1 f2 f3 f4
        have S13 := Lib.hid (S12.out.move (flk F11.out TQ.out K13.out) L13.out)
        have HX13 := Lib.hid (HX.out.nx bw13)
        have G13 := Lib.hid (G.out.nx bw13)
        obtain ⟨A3, hA3⟩ : ∃ A3, sub0 (some ⟨qe, 0, none⟩) n k = A3 := ⟨_, rfl⟩
        have LXd := Lib.hid ((LX.out.nx b513).from_ hkn)
        have SF2 := fun w : World => sl_from (some ⟨qe, 0, none⟩) n n k hkn w
        rw [hA3] at LXd SF2
        clear hA3
        have LU : Hid ((L.drop k).map XV.t = Us) := Lib.hid (by rw [List.map_drop, HL.out, UT.out])
        have SMLd : Hid (∀ x ∈ L.drop k, x.l.length ≤ 12 ∧ ∀ y ∈ x.l, y.ch.ok = true) := Lib.hid fun x hx => SML.out x (List.mem_of_mem_drop hx)
        have VE : Hid (Below W13.heap.size W13 W13.drew) := Lib.hid (Below.refl _ _).drew
        have LO : Hid (∀ U, Below W13.heap.size W13 U → Calls Tryz.prog 21 #[.slice A3 (n - k) (n - k), .int .i64 ((k : Int) + 1)] U fun e w' => ∃ (OA : Option Addr) (on oc : Nat), e = .returned (.slice OA on oc) ∧ Hid (Rd w' 1 OA on oc (bv (logL (k + 1) Us))) ∧ Below W13.heap.size W13 w') := Lib.hid fun U hU => by
          have h := rLog_any ((k : Int) + 1) U (Lib.hid (LXd.out.nx hU)) (by omega) SMLd (by omega) (by omega)
          rw [LU.out] at h
          exact h.mono fun e w' ⟨OA, on, oc, h1, h2, h3⟩ => ⟨OA, on, oc, h1, h2, hU.trans (h3.mono hU.size)⟩
        have EQ : Hid (∀ U OA on oc, Below W13.heap.size W13 U → Hid (Rd U 1 OA on oc (bv (logL (k + 1) Us))) → Calls Tryz.prog 18 #[.slice LC lcn lcc, .slice OA on oc] U fun e w' => e = .returned (.bool true) ∧ Below W13.heap.size W13 w') := Lib.hid fun U OA on oc hU hO => by
          have h := Pg.Equal_any U (Lib.hid (L13.out.nx hU)) hO
          rw [Pg.eqB_self] at h
          exact h.mono fun e w' ⟨h1, h2⟩ => ⟨h1, h2 ▸ hU⟩
        have ML : Hid (∀ U, Below W13.heap.size W13 U → Calls Tryz.prog 15 #[.slice A n c] U (fun e w' => ∃ A' n' c' M, e = .returned (.slice A' n' c') ∧ Hid (M.map CV.ch = mdl (X.map XV.t).flatten) ∧ Hid (Cr w' A' n' c' M) ∧ Below W13.heap.size W13 w')) := Lib.hid fun U hU =>
          (model_any U (Lib.hid (HX13.out.nx hU)) (by omega) SM).mono fun e w' ⟨A', n', c', M, h1, h2, h3, h4, h5⟩ => ⟨A', n', c', M, h1, h2, h3, hU.trans (h5.mono hU.size)⟩
        have TE : Hid (app (fun _ => none) (X.map XV.t).flatten = app B Us.flatten) := Lib.hid (by
          rw [← HUS.out, app_effs, ← HBE.out, ← HTK.out, app_effs, ← app_app, ← List.flatten_append, ← List.map_append, List.take_append_drop])
        have RS : Hid (∀ U A' n' c' M, Below W13.heap.size W13 U → Hid (M.map CV.ch = mdl (X.map XV.t).flatten) → Hid (Cr U A' n' c' M) → Calls Tryz.prog 14 #[.agg #[.slice GA gn gc, .int .i64 gr, .slice HA hn hc, .slice LC lcn lcc, .int .i64 (n : Int)], .slice A' n' c', .slice A n c] U (fun e w' => e = .returned (.bool true) ∧ Below W13.heap.size W13 w')) := Lib.hid fun U A' n' c' M hU hM hC =>
          (reads_any U (Lib.hid (G13.out.nx hU)) (Lib.hid (S13.out.nx hU)) hC (Lib.hid fun key => by rw [hM.out, mfd_mdl, TE.out]) (Lib.hid (HX13.out.nx hU)) SM).mono fun e w' ⟨h1, h2⟩ => ⟨h1, hU.trans (h2.mono hU.size)⟩
        have SK : Hid (∀ w', Below W13.heap.size W13 w' → w'.cell? ⟨q10, 0, none⟩ = some (.slice GA gn gc) ∧ w'.cell? ⟨q10, 1, none⟩ = some (.int .i64 gr) ∧ w'.cell? ⟨q10, 2, none⟩ = some (.slice HA hn hc) ∧ w'.cell? ⟨q10, 3, none⟩ = some (.slice LC lcn lcc) ∧ w'.cell? ⟨q10, 4, none⟩ = some (.int .i64 (n : Int))) := Lib.hid fun U hU => by
          have X := Z13.out.nx hU
          have s0 := X.at_ 0 (by simp)
          have s1 := X.at_ 1 (by simp)
          have s2 := X.at_ 2 (by simp)
          have s3 := X.at_ 3 (by simp)
          have s4 := X.at_ 4 (by simp)
          simp only [List.getElem?_cons_succ, List.getElem?_cons_zero] at s0 s1 s2 s3 s4
          exact ⟨s0, s1, s2, s3, s4⟩
        obtain ⟨s0, s1, s2, s3, s4⟩ := SK.out _ (Below.refl _ _)
        have wk : IntKind.i64.wrap ((k : Int) + 1) = (k : Int) + 1 := by rw [IntKind.wrap_i64]; omega
        clear MM KK VD NA12 V12 S12 S11 F11 S10 F10 S9 S8
        dsimp only [Act.put, List.getElem_toArray, List.getElem_cons_succ, List.getElem_cons_zero, List.setIfInBounds_toArray, List.set_cons_zero, List.set_cons_succ]
        go_region_held_law (fun w' => w'.cell? ⟨q10, 0, none⟩ = some (.slice GA gn gc) ∧ w'.cell? ⟨q10, 1, none⟩ = some (.int .i64 gr) ∧ w'.cell? ⟨q10, 2, none⟩ = some (.slice HA hn hc) ∧ w'.cell? ⟨q10, 3, none⟩ = some (.slice LC lcn lcc) ∧ w'.cell? ⟨q10, 4, none⟩ = some (.int .i64 (n : Int))) (first | exact SK.out _ VE.out | exact SK.out _ V6.out | exact SK.out _ V7.out | exact SK.out _ V8.out | exact SK.out _ V9.out)
          (first
            | (go_simp
               go_at_call 21
               refine (LO.out _ VE.out).mono ?_
               rintro e w20 ⟨OA, on, oc, rfl, OR, v6⟩
               have V6 := Lib.hid v6
               clear v6
               dsimp only)
            | (go_simp
               go_at_call 18
               refine (EQ.out _ _ _ _ V6.out OR).mono ?_
               rintro e w21 ⟨rfl, v7⟩
               have V7 := Lib.hid v7
               clear v7
               dsimp only)
            | (go_simp
               go_at_call 15
               refine (ML.out _ V7.out).mono ?_
               rintro e w22 ⟨A7, n7, c7, M7, rfl, hM7, C7, v8⟩
               have V8 := Lib.hid v8
               clear v8
               dsimp only)
            | (go_simp
               go_at_call 14
               refine (RS.out _ _ _ _ _ V8.out hM7 C7).mono ?_
               rintro e w23 ⟨rfl, v9⟩
               have V9 := Lib.hid v9
               clear v9
               dsimp only))
        all_goals
          have bF := bw13.trans (V9.out.mono bw13.size)
          go_wp2_with fail
          go_ret
          exact ⟨rfl, bF⟩
end Go.Proofs.YtpmkohnljngbhaaGreatDoor.Sr
