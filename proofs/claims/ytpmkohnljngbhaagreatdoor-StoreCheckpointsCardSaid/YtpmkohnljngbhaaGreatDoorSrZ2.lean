/- The law: StoreCheckpoints. -/
import Derived.Test.YtpmkohnljngbhaaGreatDoorSrZ0
namespace Go.Proofs.YtpmkohnljngbhaaGreatDoor.Pg
set_option linter.unusedVariables false
set_option linter.unusedSimpArgs false
set_option maxRecDepth 1000000
open Go.RowKit Wl
theorem evc_len : ∀ l : List EV, (evc l).length = l.length * 2
  | [] => rfl
  | x :: l => by
    have := evc_len l
    simp only [evc, List.flatMap_cons, List.length_append] at this ⊢
    rw [this]; simp [EV.cs]; omega
theorem evc_cons (x : EV) (l : List EV) : evc (x :: l) = .slice x.A x.k.length x.c :: .slice x.B x.v.length x.d :: evc l := rfl
theorem evc_get : ∀ (l : List EV) (k : Nat) (x : EV), l[k]? = some x → (evc l)[k * 2]? = some (.slice x.A x.k.length x.c) ∧ (evc l)[k * 2 + 1]? = some (.slice x.B x.v.length x.d)
  | [], k, x, h => by simp at h
  | y :: l, 0, x, h => by
    obtain rfl : y = x := by simpa using h
    simp [evc_cons]
  | y :: l, k + 1, x, h => by
    have ih := evc_get l k x (by simpa using h)
    rw [evc_cons, show (k + 1) * 2 = k * 2 + 1 + 1 by omega, show k * 2 + 1 + 1 + 1 = k * 2 + 1 + 1 + 1 from rfl]
    simp only [List.getElem?_cons_succ]
    exact ih
theorem Er.len {w : World} {A : Option Addr} {n c : Nat} {l : List EV} (h : Er w A n c l) : n = l.length := by
  have := h.row.len; rw [evc_len] at this; omega
theorem Er.item {w : World} {n c k : Nat} {A : Option Addr} {l : List EV} (h : Er w A n c l) (hk : k < n) :
    ∃ g o x, A = some ⟨g, o, none⟩ ∧ g < w.heap.size ∧ l[k]? = some x ∧ w.cell? ⟨g, o + k * 2, none⟩ = some (.slice x.A x.k.length x.c) ∧ w.cell? ⟨g, o + k * 2 + 1, none⟩ = some (.slice x.B x.v.length x.d) := by
  obtain ⟨g, o, e, hb, hc⟩ := h.row.at_ (by omega)
  have hl := h.len
  have hx : l[k]? = some (l[k]'(by omega)) := List.getElem?_eq_getElem (by omega)
  obtain ⟨k0, k1⟩ := evc_get l k _ hx
  exact ⟨g, o, _, e, hb, hx, by rw [hc _ (by omega), k0], by rw [Nat.add_assoc, hc _ (by omega), k1]⟩
theorem Er.nx {w w' : World} {A : Option Addr} {n c : Nat} {l : List EV} (h : Er w A n c l) (b : Below w.heap.size w w') : Er w' A n c l := ⟨Rd.below h.row b, fun x hx => ⟨Rd.below (h.dat x hx).1 b, Rd.below (h.dat x hx).2 b⟩⟩
end Go.Proofs.YtpmkohnljngbhaaGreatDoor.Pg
namespace Go.Proofs.YtpmkohnljngbhaaGreatDoor.Sr
set_option maxRecDepth 1000000
open Go.RowKit Wl Pg
theorem flat_len2 {Ts : List (List Ch)} {m : Nat} (h : ∀ cs ∈ Ts, cs.length ≤ m) : Ts.flatten.length ≤ Ts.length * m := by
  induction Ts with
  | nil => simp
  | cons a L ih =>
    have h1 := h a (by simp)
    have h2 := ih fun cs hc => h cs (by simp [hc])
    rw [List.flatten_cons, List.length_append, List.length_cons, Nat.add_mul]; omega
theorem apl_nodup {M : List Ch} (c : Ch) (h : (M.map Ch.k).Nodup) : ((apl M c).map Ch.k).Nodup := by
  unfold apl
  rw [List.map_append, List.nodup_append]
  refine ⟨(h.sublist (List.Sublist.map _ List.filter_sublist)), by split <;> simp, fun x hx y hy e => ?_⟩
  subst e
  obtain ⟨z, hz, rfl⟩ := List.mem_map.1 hx
  have h1 := (List.mem_filter.1 hz).2
  simp only [decide_eq_true_eq] at h1
  split at hy
  · simp at hy
  · rw [List.map_singleton, List.mem_singleton] at hy
    exact h1 hy
theorem mdl_nodup (cs : List Ch) : ((mdl cs).map Ch.k).Nodup := by
  refine snoc_ind (P := fun cs => ((mdl cs).map Ch.k).Nodup) (by simp [mdl]) ?_ cs
  intro cs c ih
  rw [mdl_snoc]; exact apl_nodup c ih
theorem mfd_none_iff {M : List Ch} {key : List UInt8} : mfd M key = none ↔ key ∉ M.map Ch.k := by
  unfold mfd
  rw [Option.map_eq_none_iff, List.find?_eq_none]
  constructor
  · intro h hk
    obtain ⟨x, hx, e⟩ := List.mem_map.1 hk
    exact h x hx (by simpa using e)
  · intro h x hx e
    exact h (List.mem_map.2 ⟨x, hx, by simpa using e⟩)
theorem lkp_none_iff {es : List It} {key : List UInt8} : lkp es key = none ↔ key ∉ es.map It.k := by
  unfold lkp
  rw [Option.map_eq_none_iff, List.find?_eq_none]
  constructor
  · intro h hk
    obtain ⟨x, hx, e⟩ := List.mem_map.1 hk
    exact h x hx (by simpa using e)
  · intro h x hx e
    exact h (List.mem_map.2 ⟨x, hx, by simpa using e⟩)
theorem srt_nodup {es : List It} (h : Srt es) : (es.map It.k).Nodup := by
  unfold Srt at h
  rw [List.nodup_iff_pairwise_ne, List.pairwise_map]
  exact h.imp fun {a b} hab e => by rw [e, cmpB_self] at hab; omega
theorem sub_len {α : Type} [DecidableEq α] : ∀ (l m : List α), l.Nodup → (∀ x ∈ l, x ∈ m) → l.length ≤ m.length
  | [], m, _, _ => by simp
  | x :: l, m, hn, hs => by
    have hn' := List.nodup_cons.1 hn
    have hx := hs x (by simp)
    have := sub_len l (m.erase x) hn'.2 fun y hy => (List.mem_erase_of_ne (fun e => hn'.1 (by rw [← e]; exact hy))).2 (hs y (List.mem_cons_of_mem _ hy))
    rw [List.length_erase_of_mem hx] at this
    have := List.length_pos_of_mem hx
    simp only [List.length_cons]; omega
theorem ent_len {M : List Ch} {es : List It} (hs : Srt es) (hn : (M.map Ch.k).Nodup) (h : ∀ key, mfd M key = lkp es key) : M.length = es.length := by
  have e : ∀ key, key ∈ M.map Ch.k ↔ key ∈ es.map It.k := fun key => by
    have h1 := mfd_none_iff (M := M) (key := key)
    have h2 := lkp_none_iff (es := es) (key := key)
    rw [h key] at h1
    constructor
    · intro hk; exact Decidable.byContradiction fun q => (h1.1 (h2.2 q)) hk
    · intro hk; exact Decidable.byContradiction fun q => (h2.1 (h1.2 q)) hk
  have a := sub_len _ _ hn fun x hx => (e x).1 hx
  have b := sub_len _ _ (srt_nodup hs) fun x hx => (e x).2 hx
  simp only [List.length_map] at a b
  omega
theorem rng_all (es : List It) : rng es [] [] = es := by
  unfold rng
  refine List.filter_eq_self.2 fun x _ => ?_
  unfold inR
  have : 0 ≤ cmpB x.k [] := by cases x.k <;> (unfold cmpB Lib.compareBytes; simp)
  simp [this]
theorem chk_ps {F : Fi} {ps : List Nat} {es : List It} {k : Nat} {e : Int} (h : Fok F ps es) (c : ChkO F k e) : e = 0 ∧ k = ps.length := by
  cases c with
  | bad hv => exact absurd h.vld hv
  | ok s hs hr => exact ⟨rfl, (h.at_ hr).2.length_eq⟩
theorem rng_of {F : Fi} {ps : List Nat} {es es2 : List It} {er : Int} (h : Fok F ps es) (hn : es.length ≤ 1000) (r : RngO F [] [] es2 er) : er = 0 ∧ es2 = es := by
  cases r with
  | bad hv => exact absurd h.vld hv
  | full s hs hr hl => rw [rng_all, (h.at_ hr).1] at hl; omega
  | ok s hs hr hl => rw [rng_all]; exact ⟨rfl, (h.at_ hr).1⟩
set_option maxHeartbeats 25600000 in
theorem StoreCheckpoints_walk (A : Option Addr) (n c : Nat) (X : List XV) (w : World) (G : Hid (Gl w)) (HX : Hid (Xr w A n c X)) :
    Calls Tryz.prog 4 #[.slice A n c] w fun e w' => e = .returned (.bool true) ∧ Below w.heap.size w w' := by
  have NX := Lib.hid HX.out.len
  have AW := Lib.hid (awake_any w G)
  go_enter Tryz.func4, Tryz.ntmps4
  go_wp2_with fail
  go_at_call 7
  refine AW.out.mono ?_
  rintro e w1 ⟨rfl, bw⟩
  have HX1 := Lib.hid (HX.out.nx bw)
  have SL := small_any w1 HX1
  cases hs : smL X with
  | false =>
    rw [hs] at SL
    have SL := Lib.hid SL
    clear hs
    go_wp2_with fail
    go_at_call 8
    refine SL.out.mono ?_
    rintro e w2 ⟨rfl, b2⟩
    have bF := bw.trans (b2.mono bw.size)
    go_wp2_with fail
    go_ret
    exact ⟨rfl, bF⟩
  | true =>
    rw [hs] at SL
    have SL := Lib.hid SL
    have HS := smL_true hs
    have n6 : n ≤ 6 := by rw [NX.out]; exact HS.1
    have SM := Lib.hid HS.2
    clear hs HS
    go_wp2_with fail
    go_at_call 8
    refine SL.out.mono ?_
    rintro e w2 ⟨rfl, b2⟩
    replace bw := bw.trans (b2.mono bw.size)
    replace HX1 := Lib.hid (HX1.out.nx b2)
    have MD := Lib.hid (made_any w2 (Lib.hid (G.out.nx bw)) HX1 (by omega) SM)
    go_wp2_with fail
    go_at_call 9
    refine MD.out.mono ?_
    rintro e w3 ⟨LA, ln, lc, rfl, S3, b3⟩
    have eN : Hid (((effs (fun _ => none) (X.map XV.t)).length : Int) = n) := Lib.hid (by rw [effs_len, List.length_map]; have := NX.out; omega)
    rw [eN.out] at S3 ⊢
    obtain ⟨Ts, hTs⟩ : ∃ Ts, effs (fun _ => none) (X.map XV.t) = Ts := ⟨_, rfl⟩
    rw [hTs] at S3
    have HTS := Lib.hid hTs
    have TL : Ts.length = n := by rw [← hTs, effs_len, List.length_map]; have := NX.out; omega
    clear hTs MD
    replace bw := bw.trans (b3.mono bw.size)
    replace HX1 := Lib.hid (HX1.out.nx b3)
    obtain ⟨q3, hq3⟩ : ∃ q3, w3.heap.size = q3 := ⟨_, rfl⟩
    obtain ⟨W4, hW4⟩ : ∃ W4, w3.alloc (.cells #[.slice none 0 0, .int .i64 (-1), .slice none 0 0, .slice LA ln lc, .int .i64 (n : Int)] 32) = W4 := ⟨_, rfl⟩
    have b4 : Below w3.heap.size w3 W4 := hW4 ▸ bal _ _
    have Z : Hid (Bx W4 q3 [.slice none 0 0, .int .i64 (-1), .slice none 0 0, .slice LA ln lc, .int .i64 (n : Int)]) := hW4 ▸ Lib.hid (Bx.put _ hq3 #[.slice none 0 0, .int .i64 (-1), .slice none 0 0, .slice LA ln lc, .int .i64 (n : Int)] 32)
    have TZ : Hid (Ty W4 q3 32) := hW4 ▸ hq3 ▸ Lib.hid (Ty.new _ _ _)
    have HW4 := Lib.hid hW4
    clear hW4
    replace bw := bw.trans (b4.mono bw.size)
    replace HX1 := Lib.hid (HX1.out.nx b4)
    replace S3 := Lib.hid (S3.out.nx b4)
    have z0 := Z.out.at_ 0 (by simp)
    have z1 := Z.out.at_ 1 (by simp)
    have z2 := Z.out.at_ 2 (by simp)
    have z3 := Z.out.at_ 3 (by simp)
    have z4 := Z.out.at_ 4 (by simp)
    simp only [List.getElem?_cons_succ, List.getElem?_cons_zero] at z0 z1 z2 z3 z4
    have FLn : Ts.flatten.length ≤ 72 := by have := flat_len2 (m := 12) (fun cs hc => (S3.out.ok cs hc).2); omega
    have CP := Lib.hid (sCp_ok (es0 := []) (J := 0) W4 (Lib.hid (G.out.nx bw)) S3 (Lib.hid (show Gok nil0.f [] 0 from gok_new)) (Lib.hid rfl) (by omega) (by omega))
    go_upto_region 6 with fail
    rw [HW4.out]
    go_wp2_with fail
    go_at_call 10
    refine CP.out.mono ?_
    rintro e w5 ⟨g, es, GA, HA, gn, gc, hn, hc, gr, rfl, S5, F5, GE, b5⟩
    obtain ⟨B, hB⟩ : ∃ B, app (fun _ => none) Ts.flatten = B := ⟨_, rfl⟩
    rw [hB] at S5 GE
    have HBE := Lib.hid hB
    clear hB CP z0 z1 z2 z3 z4
    replace bw := bw.trans (b5.mono bw.size)
    replace HX1 := Lib.hid (HX1.out.nx b5)
    replace S3 := Lib.hid (S3.out.nx b5)
    replace Z := Lib.hid (Z.out.nx b5)
    obtain ⟨q5, hq5⟩ : ∃ q5, w5.heap.size = q5 := ⟨_, rfl⟩
    obtain ⟨W6, hW6⟩ : ∃ W6, w5.alloc (.cells #[.slice GA gn gc, .int .i64 gr, .slice HA hn hc, .slice none 0 0, .int .i64 (n : Int)] 32) = W6 := ⟨_, rfl⟩
    have b6 : Below w5.heap.size w5 W6 := hW6 ▸ bal _ _
    have Y : Hid (Bx W6 q5 [.slice GA gn gc, .int .i64 gr, .slice HA hn hc, .slice none 0 0, .int .i64 (n : Int)]) := hW6 ▸ Lib.hid (Bx.put _ hq5 #[.slice GA gn gc, .int .i64 gr, .slice HA hn hc, .slice none 0 0, .int .i64 (n : Int)] 32)
    have TY : Hid (Ty W6 q5 32) := hW6 ▸ hq5 ▸ Lib.hid (Ty.new _ _ _)
    have HW6 := Lib.hid hW6
    clear hW6
    replace bw := bw.trans (b6.mono bw.size)
    replace HX1 := Lib.hid (HX1.out.nx b6)
    replace S3 := Lib.hid (S3.out.nx b6)
    replace Z := Lib.hid (Z.out.nx b6)
    replace S5 := Lib.hid (S5.out.nx b6)
    have MD := Lib.hid (model_any W6 HX1 (by omega) SM)
    go_upto_region 7 with fail
    rw [HW6.out]
    go_wp2_with fail
    go_at_call 15
    refine MD.out.mono ?_
    rintro e w7 ⟨BA, bn, bc, M, rfl, HM, CM, ⟨hbn, _⟩, b7⟩
    clear MD
    replace bw := bw.trans (b7.mono bw.size)
    replace HX1 := Lib.hid (HX1.out.nx b7)
    replace S3 := Lib.hid (S3.out.nx b7)
    replace Z := Lib.hid (Z.out.nx b7)
    replace S5 := Lib.hid (S5.out.nx b7)
    replace Y := Lib.hid (Y.out.nx b7)
    have G7 := Lib.hid (G.out.nx bw)
    have HMB : Hid (∀ key, mfd (M.map CV.ch) key = B key) := Lib.hid fun key => by rw [maps_ent HM.out key, HTS.out, HBE.out]
    have VA : Hid (∀ U, Below w7.heap.size w7 U → Calls Tryz.prog 13 #[.agg #[.slice GA gn gc, .int .i64 gr, .slice HA hn hc, .slice none 0 0, .int .i64 (n : Int)]] U (fun e w' => e = .returned (.bool true) ∧ Below w7.heap.size w7 w')) := Lib.hid fun U hU =>
      (Stt.valid (Lib.hid (S5.out.nx hU)) (Lib.hid (G7.out.nx hU))).mono fun e w' ⟨h1, h2⟩ => ⟨h1, hU.trans (h2.mono hU.size)⟩
    have R1 : Hid (∀ U, Below w7.heap.size w7 U → Calls Tryz.prog 14 #[.agg #[.slice GA gn gc, .int .i64 gr, .slice HA hn hc, .slice none 0 0, .int .i64 (n : Int)], .slice BA bn bc, .slice A n c] U (fun e w' => e = .returned (.bool true) ∧ Below w7.heap.size w7 w')) := Lib.hid fun U hU =>
      (reads_any U (Lib.hid (G7.out.nx hU)) (Lib.hid (S5.out.nx hU)) (Lib.hid (CM.out.nx hU)) (Lib.hid fun key => HMB.out key) (Lib.hid (HX1.out.nx hU)) SM).mono fun e w' ⟨h1, h2⟩ => ⟨h1, hU.trans (h2.mono hU.size)⟩
    have R2 : Hid (∀ U, Below w7.heap.size w7 U → Calls Tryz.prog 14 #[.agg #[.slice none 0 0, .int .i64 (-1), .slice none 0 0, .slice LA ln lc, .int .i64 (n : Int)], .slice BA bn bc, .slice A n c] U (fun e w' => e = .returned (.bool true) ∧ Below w7.heap.size w7 w')) := Lib.hid fun U hU =>
      (reads_any U (Lib.hid (G7.out.nx hU)) (Lib.hid (S3.out.nx hU)) (Lib.hid (CM.out.nx hU)) (Lib.hid fun key => by rw [HMB.out key, ← HBE.out]) (Lib.hid (HX1.out.nx hU)) SM).mono fun e w' ⟨h1, h2⟩ => ⟨h1, hU.trans (h2.mono hU.size)⟩
    have bb := Below.refl w7.heap.size w7
    have z0 := Z.out.at_ 0 (by simp)
    have z1 := Z.out.at_ 1 (by simp)
    have z2 := Z.out.at_ 2 (by simp)
    have z3 := Z.out.at_ 3 (by simp)
    have z4 := Z.out.at_ 4 (by simp)
    simp only [List.getElem?_cons_succ, List.getElem?_cons_zero] at z0 z1 z2 z3 z4
    have y0 := Y.out.at_ 0 (by simp)
    have y1 := Y.out.at_ 1 (by simp)
    have y2 := Y.out.at_ 2 (by simp)
    have y3 := Y.out.at_ 3 (by simp)
    have y4 := Y.out.at_ 4 (by simp)
    simp only [List.getElem?_cons_succ, List.getElem?_cons_zero] at y0 y1 y2 y3 y4
    go_wp2_with fail
    go_at_call 13
    refine (VA.out _ bb).mono ?_
    rintro e w8 ⟨rfl, b8⟩
    clear z0 z1 z2 z3 z4 y0 y1 y2 y3 y4
    have Z8 := Lib.hid (Z.out.nx b8)
    have Y8 := Lib.hid (Y.out.nx b8)
    have z0 := Z8.out.at_ 0 (by simp)
    have z1 := Z8.out.at_ 1 (by simp)
    have z2 := Z8.out.at_ 2 (by simp)
    have z3 := Z8.out.at_ 3 (by simp)
    have z4 := Z8.out.at_ 4 (by simp)
    simp only [List.getElem?_cons_succ, List.getElem?_cons_zero] at z0 z1 z2 z3 z4
    have y0 := Y8.out.at_ 0 (by simp)
    have y1 := Y8.out.at_ 1 (by simp)
    have y2 := Y8.out.at_ 2 (by simp)
    have y3 := Y8.out.at_ 3 (by simp)
    have y4 := Y8.out.at_ 4 (by simp)
    simp only [List.getElem?_cons_succ, List.getElem?_cons_zero] at y0 y1 y2 y3 y4
    go_wp2_with fail
    go_at_call 14
    refine (R1.out _ b8).mono ?_
    rintro e w9 ⟨rfl, b9⟩
    clear z0 z1 z2 z3 z4 y0 y1 y2 y3 y4
    have Z9 := Lib.hid (Z.out.nx b9)
    have Y9 := Lib.hid (Y.out.nx b9)
    have z0 := Z9.out.at_ 0 (by simp)
    have z1 := Z9.out.at_ 1 (by simp)
    have z2 := Z9.out.at_ 2 (by simp)
    have z3 := Z9.out.at_ 3 (by simp)
    have z4 := Z9.out.at_ 4 (by simp)
    simp only [List.getElem?_cons_succ, List.getElem?_cons_zero] at z0 z1 z2 z3 z4
    have y0 := Y9.out.at_ 0 (by simp)
    have y1 := Y9.out.at_ 1 (by simp)
    have y2 := Y9.out.at_ 2 (by simp)
    have y3 := Y9.out.at_ 3 (by simp)
    have y4 := Y9.out.at_ 4 (by simp)
    simp only [List.getElem?_cons_succ, List.getElem?_cons_zero] at y0 y1 y2 y3 y4
    go_wp2_with fail
    go_at_call 14
    refine (R2.out _ b9).mono ?_
    rintro e w10 ⟨rfl, b10⟩
    clear z0 z1 z2 z3 z4 y0 y1 y2 y3 y4 VA R1 R2
    have Y10 := Lib.hid (Y.out.nx b10)
    have y0 := Y10.out.at_ 0 (by simp)
    have y1 := Y10.out.at_ 1 (by simp)
    have y2 := Y10.out.at_ 2 (by simp)
    have y3 := Y10.out.at_ 3 (by simp)
    have y4 := Y10.out.at_ 4 (by simp)
    simp only [List.getElem?_cons_succ, List.getElem?_cons_zero] at y0 y1 y2 y3 y4
    have CSG := S5.out.st.cs
    have FL7 := Lib.hid S5.out.st.fl
    have RG := Lib.hid (Range_cs (K := none) (kn := 0) (kc := 0) (ka := []) (B := none) (bn := 0) (bc := 0) (kb := []) CSG w10 (Lib.hid (G7.out.nx b10)) (Lib.hid (FL7.out.nx b10)) (Lib.hid (Rd.nil_ _ _)) (Lib.hid (Rd.nil_ _ _)))
    go_wp2_with fail
    go_at_call 16
    refine RG.out.mono ?_
    rintro e w11 ⟨es2, er, L, RA, an, rc, hrng, hkv, rfl, RE, b11⟩
    obtain ⟨rfl, rfl⟩ : er = 0 ∧ es2 = es := by
      obtain ⟨h1, _, ps, h2, _⟩ := GE.out
      exact rng_of h2 (by have := h1.n; omega) hrng
    have HKV := Lib.hid hkv
    have AN : Hid (an = es2.length) := Lib.hid (by have h1 := RE.out.len; have h2 := congrArg List.length HKV.out; simp only [List.length_map, kvs] at h2; omega)
    have NE := Lib.hid CM.out.len
    obtain rfl : an = bn := by
      obtain ⟨h1, h2, _⟩ := GE.out
      have h3 := ent_len h1.srt (HM.out ▸ mdl_nodup _ : ((M.map CV.ch).map Ch.k).Nodup) fun key => by rw [HMB.out key, h2]
      rw [List.length_map] at h3
      have := AN.out; have := NE.out; omega
    have b711 := b10.trans (b11.mono b10.size)
    have henc := CM.out.row.nc
    have he63 := CM.out.row.c63
    have hrnc := RE.out.row.nc
    have hr63 := RE.out.row.c63
    clear RG hrng hkv y0 y1 y2 y3 y4
    go_wp2_with fail
    go_loopw [91] (fun iv' wr => ∃ j : Nat, j ≤ an ∧ iv' = .int .i64 (j : Int) ∧ Below w11.heap.size w11 wr) (fun iv' _ => (an - intOf iv').toNat)
    case atStart => exact ⟨0, by omega, rfl, Below.refl _ _⟩
    case round =>
      obtain ⟨j, hj, rfl, b11r⟩ := hrel
      have b12 := b711.trans (b11r.mono b711.size)
      by_cases hlt : j < an
      · have d1 : decide ((j : Int) < (an : Int)) = true := decide_eq_true (by omega)
        obtain ⟨g0, o0, y, rfl, hg0, hy, a0, a1⟩ := (RE.out.nx b11r).item hlt
        have DY := Lib.hid (RE.out.dat y (List.mem_of_getElem? hy))
        have LY : Hid (mfd (M.map CV.ch) y.k = some y.v) := Lib.hid (by
          obtain ⟨h1, h2, _⟩ := GE.out
          have h3 : y.kv ∈ L.map EV.kv := List.mem_map_of_mem (List.mem_of_getElem? hy)
          rw [HKV.out] at h3
          obtain ⟨it, hit, he⟩ := List.mem_map.1 h3
          have e1 : it.k = y.k := congrArg Prod.fst he
          have e2 : it.v = y.v := congrArg Prod.snd he
          rw [HMB.out, h2, ← e1, ← e2]
          exact lkp_mem h1.srt hit)
        obtain ⟨kn, hkn⟩ : ∃ kn, y.k.length = kn := ⟨_, rfl⟩
        obtain ⟨vn, hvn⟩ : ∃ vn, y.v.length = vn := ⟨_, rfl⟩
        rw [hkn] at a0
        rw [hvn] at a1
        have HKN := Lib.hid hkn.symm
        have HVN := Lib.hid hvn.symm
        clear hy hkn hvn
        obtain ⟨q11, hq11⟩ : ∃ q11, wr.heap.size = q11 := ⟨_, rfl⟩
        obtain ⟨W12, hW12⟩ : ∃ W12, wr.alloc (.cells #[.slice y.A kn y.c, .slice y.B vn y.d] 48) = W12 := ⟨_, rfl⟩
        have v12 : Below wr.heap.size wr W12 := hW12 ▸ bal _ _
        have V : Hid (Bx W12 q11 [.slice y.A kn y.c, .slice y.B vn y.d]) := hW12 ▸ Lib.hid (Bx.put _ hq11 #[.slice y.A kn y.c, .slice y.B vn y.d] 48)
        have TV : Hid (Ty W12 q11 48) := hW12 ▸ hq11 ▸ Lib.hid (Ty.new _ _ _)
        have HW12 := Lib.hid hW12
        clear hW12
        have b1112 := b11r.trans (v12.mono b11r.size)
        have b712 := b12.trans (v12.mono b12.size)
        have K12 : Hid (Rd W12 1 y.A kn y.c (bv y.k)) := Lib.hid (by rw [HKN.out]; exact DY.out.1.nx b1112)
        have FD := rFind_any W12 (Lib.hid (CM.out.nx b712)) K12
        obtain ⟨q, hq, zc, hzc, hzv⟩ : ∃ q : Nat, fnd (M.map CV.ch) y.k = q ∧ ∃ zc, M[q]? = some zc ∧ Hid (zc.v = y.v) := by
          rcases fnd_cases (M.map CV.ch) y.k with ⟨_, h2⟩ | ⟨q, z, h1, h2, h3⟩
          · rw [LY.out] at h2; cases h2
          · rw [List.getElem?_map] at h2
            rcases hq : M[q]? with _ | zc
            · rw [hq] at h2; cases h2
            · rw [hq] at h2
              have e : zc.ch = z := Option.some.inj h2
              rw [LY.out] at h3
              exact ⟨q, h1, zc, hq, Lib.hid (by have := Option.some.inj h3; rw [← e] at this; exact this.symm)⟩
        rw [hq] at FD
        have FD := Lib.hid FD
        have hqn : q < an := by have := (List.getElem?_eq_some_iff.1 hzc).1; have := NE.out; omega
        go_upto_region 16 with fail
        rw [HW12.out]
        have v0 := V.out.at_ 0 (by simp)
        have v1 := V.out.at_ 1 (by simp)
        simp only [List.getElem?_cons_succ, List.getElem?_cons_zero] at v0 v1
        clear hq a0 a1
        go_wp2_with fail
        go_at_call 17
        refine FD.out.mono ?_
        rintro e W13 ⟨rfl, n1, hW13⟩
        have b13 : Below W12.heap.size W12 W13 := hW13 ▸ bdrewN (Below.refl _ _)
        clear hW13 v0 v1 FD
        have b713 := b712.trans (b13.mono b712.size)
        have b1113 := b1112.trans (b13.mono b1112.size)
        obtain ⟨g1, o1, zc', rfl, hg1, hzc', e0, e1, e2⟩ := (CM.out.nx b713).item hqn
        obtain rfl : zc' = zc := by rw [hzc] at hzc'; injection hzc' with h; exact h.symm
        have DZ := Lib.hid ((CM.out.dat zc' (List.mem_of_getElem? hzc)).nx b713)
        obtain ⟨zn, hzn⟩ : ∃ zn, zc'.v.length = zn := ⟨_, rfl⟩
        have DZV : Hid (Rd W13 1 zc'.B zn zc'.d (bv y.v)) := Lib.hid (by rw [← hzn, ← hzv.out]; exact DZ.out.v)
        have DYV : Hid (Rd W13 1 y.B vn y.d (bv y.v)) := Lib.hid (by rw [HVN.out]; exact DY.out.2.nx b1113)
        rw [hzn] at e1
        have EQ : Hid (∀ a, Calls Tryz.prog 18 #[.slice zc'.B zn zc'.d, .slice y.B vn y.d] (W13.drewN a) fun e w' => e = .returned (.bool true) ∧ W13.drewN a = w') := Lib.hid fun a => by
          have := Pg.Equal_any (W13.drewN a) (Lib.hid (DZV.out.drewN a)) (Lib.hid (DYV.out.drewN a))
          rwa [Pg.eqB_self] at this
        have V13 := Lib.hid (V.out.nx b13)
        have q1 : decide ((q : Int) < 0) = false := decide_eq_false (by omega)
        clear hzc hzc' hzn e0 e2
        have v0 := V13.out.at_ 0 (by simp)
        have v1 := V13.out.at_ 1 (by simp)
        simp only [List.getElem?_cons_succ, List.getElem?_cons_zero] at v0 v1
        go_wp2_with fail
        go_quiet ((first | (go_at_call 18; exact q0_same (EQ.out _))))
        have bF : Below w11.heap.size w11 (W13.drewN nq) := bdrewN b1113
        go_wp2_with fail
        go_roundw
        case rel => exact ⟨j + 1, by omega, by first | rfl | go_num, bF⟩
        case measure => simp [intOf]; omega
      · obtain rfl : j = an := by omega
        have d1 : decide ((j : Int) < (j : Int)) = false := decide_eq_false (by omega)
        have Y12 := Lib.hid (Y.out.nx b12)
        have bw12 := bw.trans (b12.mono bw.size)
        have CK := Lib.hid (Check_cs CSG wr (Lib.hid (G7.out.nx b12)) (Lib.hid (FL7.out.nx b12)))
        have y0 := Y12.out.at_ 0 (by simp)
        have y1 := Y12.out.at_ 1 (by simp)
        have y2 := Y12.out.at_ 2 (by simp)
        have y3 := Y12.out.at_ 3 (by simp)
        have y4 := Y12.out.at_ 4 (by simp)
        simp only [List.getElem?_cons_succ, List.getElem?_cons_zero] at y0 y1 y2 y3 y4
        go_wp2_with fail
        go_at_call 19
        refine CK.out.mono ?_
        rintro e w13 ⟨pk, er, hck, rfl, b13⟩
        obtain ⟨rfl, hpk⟩ : er = 0 ∧ Hid ((GA, gn, HA, hn, pk) = (GA, gn, HA, hn, pk) ∧ g.f.free.length + pk = g.f.pg.length) := by
          obtain ⟨_, _, ps, h2, h3⟩ := GE.out
          obtain ⟨h4, h5⟩ := chk_ps h2 hck
          exact ⟨h4, Lib.hid ⟨rfl, by rw [h5]; exact h3⟩⟩
        have b713 := b12.trans (b13.mono b12.size)
        have bw13 := bw.trans (b713.mono bw.size)
        have Y13 := Lib.hid (Y.out.nx b713)
        clear hck CK y0 y1 y2 y3 y4
        have CP := Lib.hid (sCp_ok (es0 := es2) (J := 0 + Ts.flatten.length) w13 (Lib.hid (G.out.nx bw13)) (Lib.hid (S5.out.nx b713)) (Lib.hid GE.out.1) (Lib.hid GE.out.2.1) (by show 0 + Ts.flatten.length + 0 ≤ 72; omega) (by omega))
        have y0 := Y13.out.at_ 0 (by simp)
        have y1 := Y13.out.at_ 1 (by simp)
        have y2 := Y13.out.at_ 2 (by simp)
        have y3 := Y13.out.at_ 3 (by simp)
        have y4 := Y13.out.at_ 4 (by simp)
        simp only [List.getElem?_cons_succ, List.getElem?_cons_zero] at y0 y1 y2 y3 y4
        go_wp2_with fail
        go_at_call 10
        refine CP.out.mono ?_
        rintro e w14 ⟨g2, es3, GA2, HA2, gn2, gc2, hn2, hc2, gr2, rfl, S14, _, GE2, b14⟩
        have b714 := b713.trans (b14.mono b713.size)
        clear CP y0 y1 y2 y3 y4
        obtain ⟨q15, hq15⟩ : ∃ q15, w14.heap.size = q15 := ⟨_, rfl⟩
        obtain ⟨W15, hW15⟩ : ∃ W15, w14.alloc (.cells #[.slice GA2 gn2 gc2, .int .i64 gr2, .slice HA2 hn2 hc2, .slice none 0 0, .int .i64 (n : Int)] 32) = W15 := ⟨_, rfl⟩
        have b15 : Below w14.heap.size w14 W15 := hW15 ▸ bal _ _
        have P : Hid (Bx W15 q15 [.slice GA2 gn2 gc2, .int .i64 gr2, .slice HA2 hn2 hc2, .slice none 0 0, .int .i64 (n : Int)]) := hW15 ▸ Lib.hid (Bx.put _ hq15 #[.slice GA2 gn2 gc2, .int .i64 gr2, .slice HA2 hn2 hc2, .slice none 0 0, .int .i64 (n : Int)] 32)
        have TP : Hid (Ty W15 q15 32) := hW15 ▸ hq15 ▸ Lib.hid (Ty.new _ _ _)
        have HW15 := Lib.hid hW15
        clear hW15
        have b715 := b714.trans (b15.mono b714.size)
        have bw15 := bw.trans (b715.mono bw.size)
        have S15 := Lib.hid (S14.out.nx b15)
        have Y15 := Lib.hid (Y.out.nx b715)
        have CR := Lib.hid (Stt.crash (Lib.hid (S5.out.nx b715)) (Lib.hid (G.out.nx bw15)) 0 (by omega) (by omega))
        go_upto_region 22 with fail
        rw [HW15.out]
        have y0 := Y15.out.at_ 0 (by simp)
        have y1 := Y15.out.at_ 1 (by simp)
        have y2 := Y15.out.at_ 2 (by simp)
        have y3 := Y15.out.at_ 3 (by simp)
        have y4 := Y15.out.at_ 4 (by simp)
        simp only [List.getElem?_cons_succ, List.getElem?_cons_zero] at y0 y1 y2 y3 y4
        go_wp2_with fail
        go_at_call 12
        refine CR.out.mono ?_
        rintro e w16 ⟨LA7, ln7, lc7, kq, rfl, kp, S16, b16⟩
        obtain rfl : kq = 0 := by have := kp.out.1; simp at this; exact this
        clear CR kp y0 y1 y2 y3 y4
        have e16 : (n : Int) + 1 - 1 + ((0 : Nat) : Int) = (n : Int) := by omega
        rw [e16] at S16 ⊢
        clear e16
        obtain ⟨q17, hq17⟩ : ∃ q17, w16.heap.size = q17 := ⟨_, rfl⟩
        obtain ⟨W17, hW17⟩ : ∃ W17, w16.alloc (.cells #[.slice GA gn gc, .int .i64 gr, .slice HA hn hc, .slice LA7 ln7 lc7, .int .i64 (n : Int)] 32) = W17 := ⟨_, rfl⟩
        have b17 : Below w16.heap.size w16 W17 := hW17 ▸ bal _ _
        have Q : Hid (Bx W17 q17 [.slice GA gn gc, .int .i64 gr, .slice HA hn hc, .slice LA7 ln7 lc7, .int .i64 (n : Int)]) := hW17 ▸ Lib.hid (Bx.put _ hq17 #[.slice GA gn gc, .int .i64 gr, .slice HA hn hc, .slice LA7 ln7 lc7, .int .i64 (n : Int)] 32)
        have TQ : Hid (Ty W17 q17 32) := hW17 ▸ hq17 ▸ Lib.hid (Ty.new _ _ _)
        have HW17 := Lib.hid hW17
        clear hW17
        have b1617 := b16.trans (b17.mono b16.size)
        have b717 := b715.trans (b1617.mono b715.size)
        have bw17 := bw.trans (b717.mono bw.size)
        have S17 := Lib.hid (S16.out.nx b17)
        have S15 := Lib.hid (S15.out.nx b1617)
        have P17 := Lib.hid (P.out.nx b1617)
        have Y17 := Lib.hid (Y.out.nx b717)
        have G17 := Lib.hid (G.out.nx bw17)
        have CM17 := Lib.hid (CM.out.nx b717)
        have HX17 := Lib.hid (HX1.out.nx b717)
        have CSE := cs_root S5.out.st.cs
        have PK : Hid ((gn : Int) - (hn : Int) = (pk : Int) ∧ 0 ≤ (pk : Int) ∧ (gn : Int) ≤ 4096) := Lib.hid (by
          obtain ⟨_, h1, h2, _⟩ := CSE
          have h3 := hpk.out.2
          have h4 := S5.out.e.vld.1.n4
          have e1 : g.f.pg.length = g.ps.length := by simp [FV.f]
          have e2 : g.f.free.length = g.free.length := rfl
          omega)
        have pk1 := PK.out.1
        have pk0 : IntKind.i64.wrap ((gn : Int) - (hn : Int)) = (pk : Int) := by rw [PK.out.1, IntKind.wrap_i64]; have := PK.out; omega
        clear pk1 CSE
        have R3 : Hid (∀ U, Below W17.heap.size W17 U → Calls Tryz.prog 14 #[.agg #[.slice GA2 gn2 gc2, .int .i64 gr2, .slice HA2 hn2 hc2, .slice none 0 0, .int .i64 (n : Int)], .slice BA j bc, .slice A n c] U (fun e w' => e = .returned (.bool true) ∧ Below W17.heap.size W17 w')) := Lib.hid fun U hU =>
          (reads_any U (Lib.hid (G17.out.nx hU)) (Lib.hid (S15.out.nx hU)) (Lib.hid (CM17.out.nx hU)) (Lib.hid fun key => HMB.out key) (Lib.hid (HX17.out.nx hU)) SM).mono fun e w' ⟨h1, h2⟩ => ⟨h1, hU.trans (h2.mono hU.size)⟩
        have R4 : Hid (∀ U, Below W17.heap.size W17 U → Calls Tryz.prog 14 #[.agg #[.slice GA gn gc, .int .i64 gr, .slice HA hn hc, .slice LA7 ln7 lc7, .int .i64 (n : Int)], .slice BA j bc, .slice A n c] U (fun e w' => e = .returned (.bool true) ∧ Below W17.heap.size W17 w')) := Lib.hid fun U hU =>
          (reads_any U (Lib.hid (G17.out.nx hU)) (Lib.hid (S17.out.nx hU)) (Lib.hid (CM17.out.nx hU)) (Lib.hid fun key => HMB.out key) (Lib.hid (HX17.out.nx hU)) SM).mono fun e w' ⟨h1, h2⟩ => ⟨h1, hU.trans (h2.mono hU.size)⟩
        have bb := Below.refl W17.heap.size W17
        go_upto_region 23 with fail
        rw [HW17.out]
        have y0 := Y17.out.at_ 0 (by simp)
        have y1 := Y17.out.at_ 1 (by simp)
        have y2 := Y17.out.at_ 2 (by simp)
        have y3 := Y17.out.at_ 3 (by simp)
        have y4 := Y17.out.at_ 4 (by simp)
        simp only [List.getElem?_cons_succ, List.getElem?_cons_zero] at y0 y1 y2 y3 y4
        have p0 := P17.out.at_ 0 (by simp)
        have p1 := P17.out.at_ 1 (by simp)
        have p2 := P17.out.at_ 2 (by simp)
        have p3 := P17.out.at_ 3 (by simp)
        have p4 := P17.out.at_ 4 (by simp)
        simp only [List.getElem?_cons_succ, List.getElem?_cons_zero] at p0 p1 p2 p3 p4
        have r0 := Q.out.at_ 0 (by simp)
        have r1 := Q.out.at_ 1 (by simp)
        have r2 := Q.out.at_ 2 (by simp)
        have r3 := Q.out.at_ 3 (by simp)
        have r4 := Q.out.at_ 4 (by simp)
        simp only [List.getElem?_cons_succ, List.getElem?_cons_zero] at r0 r1 r2 r3 r4
        go_wp2_with fail
        go_at_call 14
        refine (R3.out _ bb).mono ?_
        rintro e w18 ⟨rfl, b18⟩
        clear y0 y1 y2 y3 y4 p0 p1 p2 p3 p4 r0 r1 r2 r3 r4
        have Q18 := Lib.hid (Q.out.nx b18)
        have r0 := Q18.out.at_ 0 (by simp)
        have r1 := Q18.out.at_ 1 (by simp)
        have r2 := Q18.out.at_ 2 (by simp)
        have r3 := Q18.out.at_ 3 (by simp)
        have r4 := Q18.out.at_ 4 (by simp)
        simp only [List.getElem?_cons_succ, List.getElem?_cons_zero] at r0 r1 r2 r3 r4
        go_wp2_with fail
        go_at_call 14
        refine (R4.out _ b18).mono ?_
        rintro e w19 ⟨rfl, b19⟩
        have bF := bw17.trans (b19.mono bw17.size)
        go_wp2_with fail
        go_ret
        exact ⟨rfl, bF⟩
end Go.Proofs.YtpmkohnljngbhaaGreatDoor.Sr
