/- Walks: Reclaim without other roots. -/
import Derived.Test.YtpmkohnljngbhaaGreatDoorPgX9
import Derived.Test.YtpmkohnljngbhaaGreatDoorSrW6
import Derived.Test.YtpmkohnljngbhaaGreatDoorPgNt
namespace Go.Proofs.YtpmkohnljngbhaaGreatDoor.Pg
set_option linter.unusedVariables false
set_option linter.unusedSimpArgs false
set_option maxRecDepth 1000000
open Go.RowKit Wl
theorem Pr.nx {w w' : World} {A : Option Addr} {n c : Nat} {l : List PV} (h : Pr w A n c l) (b : Below w.heap.size w w') : Pr w' A n c l := h.below b

theorem rec_any_ix {α : Type} (val : α → Value) (p : α → Bool) {A : Option Addr} {n c : Nat} {l : List α} {P : Addr} (w : World) (h : Hid (Rd w 1 A n c (l.map val)))
    (hf : Hid (∀ U, Below w.heap.size w U → ∀ x ∈ l, Calls Tryz.prog 70 #[val x, .pointer (some P)] U fun e w' => e = .returned (.bool (p x)) ∧ Below U.heap.size U w')) :
    Calls Tryz.prog 100 #[.slice A n c, .func (.func 70) #[] #[.pointer (some P)]] w (Ix w (l.any p)) := by
  have hnc := h.out.nc
  have hc63 := h.out.c63
  go_enter Tryz.func100, Tryz.ntmps100
  go_wp2_with fail
  go_loopw [8] (fun i wr => ∃ j : Nat, j ≤ n ∧ i = .int .i64 j ∧ Below w.heap.size w wr ∧ Hid ((l.take j).any p = false)) (fun i _ => (n - intOf i).toNat)
  case atStart => exact ⟨0, by omega, rfl, Below.refl _ _, Lib.hid rfl⟩
  case round =>
    obtain ⟨j, hj, rfl, bw, hpre⟩ := hrel
    by_cases hlt : j < n
    · obtain ⟨g, o, x, rfl, hg, hx, hc⟩ := Rd.at1 (Rd.below h.out bw) hlt
      have HX := Lib.hid hx
      have HM := Lib.hid (List.mem_of_getElem? hx)
      clear hx
      go_wp2_with fail
      go_at_call 70
      refine (hf.out _ bw x HM.out).mono ?_
      rintro e w1 ⟨rfl, hb1⟩
      have bw1 : Below w.heap.size w w1 := bel_step bw hb1 (Nat.le_refl _)
      clear hb1
      rcases hs : p x with _ | _
      · have hp2 : Hid ((l.take (j + 1)).any p = false) := Lib.hid (by
          rw [List.take_add_one, List.any_append, hpre.out, HX.out, Bool.false_or]; simpa using hs)
        clear hs
        go_wp2_with fail
        go_roundw
        case rel => exact ⟨j + 1, by omega, by go_num, bw1, hp2⟩
        case measure => simp [intOf]; omega
      · have R : Hid (l.any p = true) := Lib.hid (List.any_eq_true.2 ⟨x, HM.out, hs⟩)
        clear hs
        go_wp2_with fail
        go_ret
        exact Ix.t R.out rfl (by omega) bw1
    · obtain rfl : j = n := by omega
      have R : Hid (l.any p = false) := Lib.hid (by
        have h1 := hpre.out
        rwa [List.take_of_length_le (by have := h.out.len; rw [List.length_map] at this; omega)] at h1)
      go_wp2_with fail
      go_ret
      exact Ix.f R.out rfl bw
theorem rec_any {α : Type} (val : α → Value) (p : α → Bool) {A : Option Addr} {n c : Nat} {l : List α} {P : Addr} (w : World) (h : Hid (Rd w 1 A n c (l.map val)))
    (hf : Hid (∀ U, Below w.heap.size w U → ∀ x ∈ l, Calls Tryz.prog 70 #[val x, .pointer (some P)] U fun e w' => e = .returned (.bool (p x)) ∧ Below U.heap.size U w')) :
    Calls Tryz.prog 69 #[.slice A n c, .func (.func 70) #[] #[.pointer (some P)]] w fun e w' => e = .returned (.bool (l.any p)) ∧ Below w.heap.size w w' := by
  go_enter Tryz.func69, Tryz.ntmps69
  go_wp2_with fail
  go_at_call 100
  refine (rec_any_ix val p _ h hf).mono ?_
  rintro e w1 ⟨i, rfl, i1, i2, hb1⟩
  rcases hs : l.any p with _ | _
  · have hi : i = -1 := i2 hs
    subst hi
    have HS := Lib.hid hs
    clear hs i1 i2
    go_wp2_with fail
    go_ret
    exact ⟨ret_bool (by rw [HS.out]), hb1⟩
  · have hi : 0 ≤ i := i1 hs
    have HS := Lib.hid hs
    clear hs i1 i2
    go_wp2_with fail
    go_ret
    exact ⟨ret_bool (by rw [HS.out]), hb1⟩
theorem new_box {w U : World} {a b c : Value} {T : TypeId} (h : Below ((w.alloc (.cells #[a, b, c] T)).drew).heap.size ((w.alloc (.cells #[a, b, c] T)).drew) U) :
    U.cell? ⟨w.heap.size, 0, none⟩ = some a ∧ U.cell? ⟨w.heap.size, 1, none⟩ = some b ∧ U.cell? ⟨w.heap.size, 2, none⟩ = some c ∧ U.frozen? ⟨w.heap.size, 0, none⟩ = false ∧ U.frozen? ⟨w.heap.size, 1, none⟩ = false ∧ U.frozen? ⟨w.heap.size, 2, none⟩ = false := by
  have X := (((Bx.put w rfl #[a, b, c] T).drewN 1).step h)
  exact ⟨X.at_ 0 (by simp), X.at_ 1 (by simp), X.at_ 2 (by simp), X.fz 0 (by simp), X.fz 1 (by simp), X.fz 2 (by simp)⟩
/-- The file that Reclaim lays. -/
structure Rw (w W : World) (q n : Nat) (r0 : Int) (A1 : Option Addr) (c1 : Nat) (l1 : List PV) : Prop where
  bx : Bx W q [.slice A1 n c1, .int .i64 r0, .slice none 0 0]
  bw : Below w.heap.size w W
  lo : w.heap.size ≤ q
  cp : Cp W w.heap.size A1 n c1 l1
  ap : ∀ g, blk A1 = some g → g ≠ q
  ad : ∀ x ∈ l1, ∀ g, blk x.A = some g → g ≠ q
theorem rw_after {w wc : World} {u n c1 : Nat} {r0 : Int} {A1 : Option Addr} {l1 : List PV} (hu : w.heap.size ≤ u) (bb : Below w.heap.size w wc) (cp : Cp wc u A1 n c1 l1) :
    Rw w (wc.alloc (.cells #[.slice A1 n c1, .int .i64 r0, .slice none 0 0] 29)) wc.heap.size n r0 A1 c1 l1 :=
  ⟨Bx.put wc rfl _ _, bb.alloc bb.size _, bb.size, ⟨own_base (own_below cp.own (bal _ _)) hu, fun x hx => own_base (own_below (cp.dat x hx) (bal _ _)) hu⟩,
    fun g e => by have := (own_blk_le cp.own e).2; omega, fun x hx g e => by have := (own_blk_le (cp.dat x hx) e).2; omega⟩
theorem rw_first {w wc : World} {n c1 : Nat} {r0 : Int} {A1 : Option Addr} {l1 : List PV} {a b c : Value} {T : TypeId} (b1 : Below ((w.alloc (.cells #[a, b, c] T)).drew).heap.size ((w.alloc (.cells #[a, b, c] T)).drew) wc) (cp : Cp wc ((w.alloc (.cells #[a, b, c] T)).drew).heap.size A1 n c1 l1) :
    Rw w (((wc.setCell ⟨w.heap.size, 0, none⟩ (.slice A1 n c1)).setCell ⟨w.heap.size, 1, none⟩ (.int .i64 r0)).setCell ⟨w.heap.size, 2, none⟩ (.slice none 0 0)) w.heap.size n r0 A1 c1 l1 := by
  have hs : ((w.alloc (.cells #[a, b, c] T)).drew).heap.size = w.heap.size + 1 := by show (w.alloc _).heap.size = _; simp
  have X := ((Bx.put w rfl #[a, b, c] T).drewN 1).step b1
  have X2 := ((X.set (j := 0) (by simp) (.slice A1 n c1)).set (j := 1) (by simp) (.int .i64 r0)).set (j := 2) (by simp) (.slice none 0 0)
  have k1 : Kp wc (wc.setCell ⟨w.heap.size, 0, none⟩ (.slice A1 n c1)) (· = w.heap.size) := Kp.of_set wc ⟨w.heap.size, 0, none⟩ _ rfl
  have k2 := k1.trans (Kp.of_set _ ⟨w.heap.size, 1, none⟩ (.int .i64 r0) (X := (· = w.heap.size)) rfl) fun _ _ e => e
  have k3 := k2.trans (Kp.of_set _ ⟨w.heap.size, 2, none⟩ (.slice none 0 0) (X := (· = w.heap.size)) rfl) fun _ _ e => e
  have a1 : ∀ g, blk A1 = some g → g ≠ w.heap.size := fun g e => by have := (own_blk_le cp.own e).1; omega
  have a2 : ∀ x ∈ l1, ∀ g, blk x.A = some g → g ≠ w.heap.size := fun x hx g e => by have := (own_blk_le (cp.dat x hx) e).1; omega
  have b0 : Below w.heap.size w wc := (((Below.refl _ w).alloc (Nat.le_refl _) (.cells #[a, b, c] T)).drew).trans (b1.mono (by rw [hs]; omega))
  exact ⟨X2, res_below b0 (Nat.le_refl _), Nat.le_refl _, ⟨own_base (own_kp cp.own k3 a1) (by rw [hs]; omega), fun x hx => own_base (own_kp (cp.dat x hx) k3 (a2 x hx)) (by rw [hs]; omega)⟩, a1, a2⟩
theorem rw_flt {w W wl : World} {q n no c1 co : Nat} {r0 : Int} {A1 Ao : Option Addr} {l1 : List PV} {fr : List Int} (R : Rw w W q n r0 A1 c1 l1) (K : Kp W wl (· = q)) (O : wl.ownsRow W.heap.size 3 1 (.slice Ao no co) no (iv fr)) (hn : l1.length = n) (hf : fr.length = no) :
    FlT wl ⟨A1, c1, l1, r0, Ao, co, fr⟩ := by
  have c1 := own_kp R.cp.own K R.ap
  have c2 : ∀ x ∈ l1, _ := fun x hx => own_kp (R.cp.dat x hx) K (R.ad x hx)
  subst hn hf
  exact ⟨⟨⟨Rd.of_own c1, fun x hx => Rd.of_own (c2 x hx)⟩, Rd.of_own O⟩, fun g e => own_type c1 e, fun x hx g e => own_type (c2 x hx) e, fun g _ e => own_type O e⟩
theorem rcl_of {f : FV} {A1 Ao : Option Addr} {c1 co n : Nat} {r0 : Int} {l1 : List PV} {S : List Nat} {es : List It} (hl : l1.map PV.d = f.ps.map PV.d) (hr : r0 = f.f.root) (hn : f.f.pg.length = n) (h : Rok f.f.pg f.f.free f.f.root (S, es)) :
    Rcl f.f (FV.f ⟨A1, c1, l1, r0, Ao, co, nat_int ((List.range n).filter fun m => decide (m ∉ S))⟩) :=
  ⟨hl, hr, fun s hs => by obtain rfl := hs.uniq h; rw [hn]; rfl⟩
set_option maxRecDepth 1000000 in
set_option maxHeartbeats 3200000 in
theorem Reclaim_nil {f : FV} {PA FA : Option Addr} {n pc m fc : Nat} {r0 : Int} (hcs : CsOf f PA n pc r0 FA m fc) (w : World) (G : Hid (Gl w)) (HF : Hid (Fl w f)) (VL : Hid (Vld f.f)) :
    Calls Tryz.prog 36 #[.agg #[.slice PA n pc, .int .i64 r0, .slice FA m fc], .slice none 0 0] w fun e w' => ∃ g : FV, e = .returned (.tuple #[g.val, .int .i64 0]) ∧ Rcl f.f g.f ∧ Hid (FlT w' g) ∧ Below w.heap.size w w' := by
  obtain ⟨i0, hi, hz0, hz1, hz2⟩ := info_parts info_int
  obtain ⟨h1, h2, h3, h4, h5, h6, h7⟩ := cs_root hcs
  have HP : Hid (Pr w PA n pc f.ps) := Lib.hid (by have := HF.out.pg; rw [← h2, ← h4, ← h5] at this; exact this)
  have HR : Hid (r0 = f.f.root) := Lib.hid h1
  have HN : Hid (n = f.f.pg.length) := Lib.hid (by rw [h2]; simp [FV.f])
  have RY : Hid (Rdy f) := Lib.hid (shp_rdy VL.out.1)
  have n4 : n ≤ 4096 := by have := VL.out.1.n4; have := HN.out; omega
  have P256 : Hid (∀ x ∈ f.ps, x.d.length = 256) := Lib.hid RY.out.p256
  have hr1 : r0 ≤ 100000 := by have := VL.out.1.r2; have := HN.out; have := HR.out; omega
  clear h1 h2 h3 h4 h5 h6 h7
  have bw := Below.refl w.heap.size w
  obtain ⟨p, hp⟩ : ∃ p, w.heap.size = p := ⟨_, rfl⟩
  obtain ⟨W0, hW0⟩ : ∃ W0, w.alloc (.cells #[.slice PA n pc, .int .i64 r0, .slice FA m fc] 29) = W0 := ⟨_, rfl⟩
  have b0 : Below w.heap.size w W0 := hW0 ▸ bal _ _
  have X : Hid (Bx W0 p [.slice PA n pc, .int .i64 r0, .slice FA m fc]) := hW0 ▸ Lib.hid (Bx.put _ hp #[.slice PA n pc, .int .i64 r0, .slice FA m fc] 29)
  have TX : Hid (Ty W0 p 29) := hW0 ▸ hp ▸ Lib.hid (Ty.new _ _ _)
  have HW0 := Lib.hid hW0
  clear hW0
  replace bw := bw.trans (b0.mono bw.size)
  replace G := Lib.hid (G.out.nx b0)
  replace HF := Lib.hid (HF.out.nx b0)
  replace HP := Lib.hid (HP.out.nx b0)
  obtain ⟨R0, hR0⟩ : ∃ R0, W0.heap.size = R0 := ⟨_, rfl⟩
  obtain ⟨W1, hW1⟩ : ∃ W1, W0.alloc (.cells #[.slice none 0 0, .int .i64 0, .slice none 0 0] 29) = W1 := ⟨_, rfl⟩
  have b1 : Below W0.heap.size W0 W1 := hW1 ▸ bal _ _
  have Y : Hid (Bx W1 R0 [.slice none 0 0, .int .i64 0, .slice none 0 0]) := hW1 ▸ Lib.hid (Bx.put _ hR0 #[.slice none 0 0, .int .i64 0, .slice none 0 0] 29)
  have TY : Hid (Ty W1 R0 29) := hW1 ▸ hR0 ▸ Lib.hid (Ty.new _ _ _)
  have HW1 := Lib.hid hW1
  clear hW1
  replace bw := bw.trans (b1.mono bw.size)
  replace G := Lib.hid (G.out.nx b1)
  replace HF := Lib.hid (HF.out.nx b1)
  replace HP := Lib.hid (HP.out.nx b1)
  replace X := Lib.hid (X.out.nx b1)
  have z0 := X.out.at_ 0 (by simp)
  have z1 := X.out.at_ 1 (by simp)
  have z2 := X.out.at_ 2 (by simp)
  simp only [List.getElem?_cons_succ, List.getElem?_cons_zero] at z0 z1 z2
  have HCF : Hid (∀ (P : Addr) (U : World), Calls Tryz.prog 69 #[.slice none 0 0, .func (.func 70) #[] #[.pointer (some P)]] U fun e w' => e = .returned (.bool false) ∧ Below U.heap.size U w') := Lib.hid fun P U =>
    rec_any (l := ([] : List Int)) (fun x => .int .i64 x) (fun _ => true) U (Lib.hid (Rd.nil_ _ _)) (Lib.hid (by simp))
  go_enter Tryz.func36, Tryz.ntmps36
  go_upto_region 1 with fail
  rw [HW0.out]
  have e01 : R0 = p + 1 := by rw [← hR0, ← HW0.out, ← hp]; simp
  subst e01
  rw [HW1.out]
  go_wp2_with fail
  go_at_call 69
  refine (HCF.out _ _).mono ?_
  rintro e w2 ⟨rfl, b2⟩
  clear z0 z1 z2
  replace bw := bw.trans (b2.mono bw.size)
  replace G := Lib.hid (G.out.nx b2)
  replace HF := Lib.hid (HF.out.nx b2)
  replace HP := Lib.hid (HP.out.nx b2)
  replace X := Lib.hid (X.out.nx b2)
  replace Y := Lib.hid (Y.out.nx b2)
  replace TY := Lib.hid (TY.out.nx b2)
  have z0 := X.out.at_ 0 (by simp)
  have z1 := X.out.at_ 1 (by simp)
  have z2 := X.out.at_ 2 (by simp)
  simp only [List.getElem?_cons_succ, List.getElem?_cons_zero] at z0 z1 z2
  go_wp2_with fail
  go_at_call 45
  refine (shaped_cs hcs _ HF).mono ?_
  rintro e w3 ⟨b, rfl, hb, b3⟩
  obtain rfl : b = true := hb.2 VL.out.1
  clear hb z0 z1 z2
  replace bw := bw.trans (b3.mono bw.size)
  replace G := Lib.hid (G.out.nx b3)
  replace HF := Lib.hid (HF.out.nx b3)
  replace HP := Lib.hid (HP.out.nx b3)
  replace X := Lib.hid (X.out.nx b3)
  replace Y := Lib.hid (Y.out.nx b3)
  replace TY := Lib.hid (TY.out.nx b3)
  have z0 := X.out.at_ 0 (by simp)
  have z1 := X.out.at_ 1 (by simp)
  have z2 := X.out.at_ 2 (by simp)
  simp only [List.getElem?_cons_succ, List.getElem?_cons_zero] at z0 z1 z2
  go_wp2_with fail
  go_at_call 46
  refine (read_in r0 r0 _ hcs G HF RY hr1).mono ?_
  rintro e w4 ⟨⟨S, M, A, n7, c7, L, rok, rfl, mb, _, hM⟩ | ⟨rok, _⟩, b4⟩
  case inr => exact absurd VL.out.2 (fun ⟨s, hs⟩ => rok s (by rw [HR.out]; exact hs))
  have ROK : Hid (Rok f.f.pg f.f.free f.f.root (S, its L)) := Lib.hid (by rw [HR.out] at rok; exact rok)
  have MB := mb
  clear rok mb z0 z1 z2
  replace bw := bw.trans (b4.mono bw.size)
  replace G := Lib.hid (G.out.nx b4)
  replace HF := Lib.hid (HF.out.nx b4)
  replace HP := Lib.hid (HP.out.nx b4)
  replace X := Lib.hid (X.out.nx b4)
  replace Y := Lib.hid (Y.out.nx b4)
  replace TY := Lib.hid (TY.out.nx b4)
  have y0 := X.out.at_ 0 (by simp)
  have y1 := X.out.at_ 1 (by simp)
  have y2 := X.out.at_ 2 (by simp)
  simp only [List.getElem?_cons_succ, List.getElem?_cons_zero] at y0 y1 y2
  obtain ⟨q9, hq9⟩ : ∃ q9, w4.heap.size = q9 := ⟨_, rfl⟩
  obtain ⟨W5, hW5⟩ : ∃ W5, w4.alloc (.cells #[.slice PA n pc, .int .i64 (-1), .slice none 0 0] 29) = W5 := ⟨_, rfl⟩
  have b5 : Below w4.heap.size w4 W5 := hW5 ▸ bal _ _
  have Z : Hid (Bx W5 q9 [.slice PA n pc, .int .i64 (-1), .slice none 0 0]) := hW5 ▸ Lib.hid (Bx.put _ hq9 #[.slice PA n pc, .int .i64 (-1), .slice none 0 0] 29)
  have TZ : Hid (Ty W5 q9 29) := hW5 ▸ hq9 ▸ Lib.hid (Ty.new _ _ _)
  have HW5 := Lib.hid hW5
  clear hW5
  have MB := Lib.hid (MB.out.below b5)
  replace bw := bw.trans (b5.mono bw.size)
  replace G := Lib.hid (G.out.nx b5)
  replace HF := Lib.hid (HF.out.nx b5)
  replace HP := Lib.hid (HP.out.nx b5)
  replace X := Lib.hid (X.out.nx b5)
  replace Y := Lib.hid (Y.out.nx b5)
  replace TY := Lib.hid (TY.out.nx b5)
  go_upto_region 9 with fail
  rw [HW5.out]
  clear y0 y1 y2
  have z0 := X.out.at_ 0 (by simp)
  have z1 := X.out.at_ 1 (by simp)
  have z2 := X.out.at_ 2 (by simp)
  simp only [List.getElem?_cons_succ, List.getElem?_cons_zero] at z0 z1 z2
  go_wp2_with fail
  go_loopw [47] (fun iv wr => iv = .int .i64 0 ∧ wr = W5) (fun _ _ => 0)
  case atStart => exact ⟨rfl, rfl⟩
  case round =>
  obtain ⟨rfl, rfl⟩ := hrel
  go_wp2_with fail
  -- the copy of the pages
  have bd : Below wr.heap.size wr wr.drew := (Below.refl _ _).drew
  have PC : Hid (∀ U, Below wr.heap.size wr U → Calls Tryz.prog 71 #[.slice PA n pc] U fun e w' => ∃ A' c' l', e = .returned (.slice A' n c') ∧ l'.map PV.d = f.ps.map PV.d ∧ Hid (Cp w' U.heap.size A' n c' l') ∧ Below U.heap.size U w') := Lib.hid fun U hU => copied_any U (Lib.hid (HP.out.below hU)) (by omega) (Lib.hid fun x hx => Nat.le_of_eq (P256.out x hx))
  have KK : Hid (∀ U, Below wr.heap.size wr U → U.cell? ⟨p, 0, none⟩ = some (.slice PA n pc) ∧ U.cell? ⟨p, 1, none⟩ = some (.int .i64 r0)) := Lib.hid fun U hU => by
    have h := X.out.nx hU
    have h0 := h.at_ 0 (by simp)
    have h1 := h.at_ 1 (by simp)
    exact ⟨by simpa using h0, by simpa using h1⟩
  go_region_held3 (fun w' => w'.cell? ⟨p, 0, none⟩ = some (.slice PA n pc) ∧ w'.cell? ⟨p, 1, none⟩ = some (.int .i64 r0))
    ((refine KK.out _ ?_; repeat (first | exact bb1 | exact bd | exact Below.refl _ _ | (refine Below.drew ?_) | (refine res_below ?_ (Nat.le_refl _)) | (refine bel_alloc ?_ (Nat.le_refl _) _))))
    (first
      | (go_at_call 71; refine (PC.out _ (by repeat (first | exact bd | exact Below.refl _ _ | (refine Below.drew ?_) | (refine bel_alloc ?_ (Nat.le_refl _) _)))).mono ?_; rintro e wc ⟨A1, c1, l1, rfl, hl1, cp1, b1⟩; have bb1 := Below.trans (show Below wr.heap.size wr _ by repeat (first | exact bd | exact Below.refl _ _ | (refine Below.drew ?_) | (refine bel_alloc ?_ (Nat.le_refl _) _))) (b1.mono (by first | exact Nat.le_refl _ | simp)); have gc := (bcell b1).1; have gf := (bcell b1).2))
  all_goals
    first
      | (have RW := rw_after (r0 := r0) (Nat.le_refl _) bb1 cp1.out
         obtain ⟨W6, hW6⟩ : ∃ W6, wc.alloc (.cells #[.slice A1 n c1, .int .i64 r0, .slice none 0 0] 29) = W6 := ⟨_, rfl⟩
         obtain ⟨q, hq⟩ : ∃ q, wc.heap.size = q := ⟨_, rfl⟩
         rw [hW6, hq] at RW
         rw [hW6, hq])
      | (have RW := rw_first (r0 := r0) b1 cp1.out
         obtain ⟨W6, hW6⟩ : ∃ W6, (((wc.setCell ⟨wr.heap.size, 0, none⟩ (.slice A1 n c1)).setCell ⟨wr.heap.size, 1, none⟩ (.int .i64 r0)).setCell ⟨wr.heap.size, 2, none⟩ (.slice none 0 0)) = W6 := ⟨_, rfl⟩
         obtain ⟨q, hq⟩ : ∃ q, wr.heap.size = q := ⟨_, rfl⟩
         rw [hW6, hq] at RW
         rw [hW6]
         simp only [hq])
    have RW := Lib.hid RW
    have HL1 := Lib.hid hl1
    clear hW6 hq b1 bb1 cp1 gc gf hl1 z0 z1 z2
    have v6 := RW.out.bw
    have hMq : M < q := Nat.lt_of_lt_of_le MB.out.lt RW.out.lo
    have hqW : q < W6.heap.size := RW.out.bx.lt
    have hpq : p + 1 < q := Nat.lt_of_lt_of_le Y.out.lt RW.out.lo
    have hwp : w.heap.size ≤ p + 1 := by omega
    have hwq : w.heap.size ≤ q := by omega
    have MB := Lib.hid (MB.out.below v6)
    replace bw := bw.trans (v6.mono bw.size)
    replace X := Lib.hid (X.out.nx v6)
    replace Y := Lib.hid (Y.out.nx v6)
    replace TY := Lib.hid (TY.out.nx v6)
    have z0 := X.out.at_ 0 (by simp)
    have z1 := X.out.at_ 1 (by simp)
    have z2 := X.out.at_ 2 (by simp)
    simp only [List.getElem?_cons_succ, List.getElem?_cons_zero] at z0 z1 z2
    go_wp2_with fail
    go_loopw [79] (fun zv wr => ∃ (j no : Nat) (Ao : Option Addr) (co : Nat), j ≤ n ∧ no ≤ j ∧ zv = .int .i64 j ∧ Hid (Bx wr q [.slice A1 n c1, .int .i64 r0, .slice Ao no co]) ∧ Hid (wr.ownsRow W6.heap.size 3 1 (.slice Ao no co) no (iv (nat_int ((List.range j).filter fun m => decide (m ∉ S))))) ∧ Hid (Kp W6 wr (· = q))) (fun zv _ => (n - intOf zv).toNat)
    case atStart => exact ⟨0, 0, none, 0, by omega, by omega, rfl, Lib.hid RW.out.bx, Lib.hid (World.ownsRow_nil _ _ _ _), Lib.hid (Kp.refl _ _)⟩
    case round =>
      obtain ⟨j, no, Ao, co, hj, hno, rfl, BX, OW, KP⟩ := hrel
      have MB7 := Lib.hid (MB.out.kp KP.out (by omega))
      by_cases hlt : j < n
      · have d1 : decide ((j : Int) < (n : Int)) = true := decide_eq_true (by omega)
        have LK := MB7.out.look (t := (j : Int)) (by simp [Lit.wf, IntKind.min, IntKind.max, IntKind.wrap, IntKind.bits, IntKind.signed]; omega)
        rw [inS_nat] at LK
        by_cases hS : j ∈ S
        · rw [decide_eq_true hS] at LK
          have OW2 : Hid (wr.ownsRow W6.heap.size 3 1 (.slice Ao no co) no (iv (nat_int ((List.range (j + 1)).filter fun m => decide (m ∉ S))))) := Lib.hid (by
            rw [List.range_succ, List.filter_append]; simpa [hS] using OW.out)
          clear hS
          go_wp2_with fail
          go_roundw
          case rel => exact ⟨j + 1, no, Ao, co, by omega, by omega, by first | trivial | go_num, BX, OW2, KP⟩
          case measure => simp [intOf]; omega
        · rw [decide_eq_false hS] at LK
          have NS := Lib.hid hS
          clear hS
          have y0 := BX.out.at_ 0 (by simp)
          have y1 := BX.out.at_ 1 (by simp)
          have y2 := BX.out.at_ 2 (by simp)
          simp only [List.getElem?_cons_succ, List.getElem?_cons_zero] at y0 y1 y2
          have hsz := KP.out.size
          have n1 : no ≤ 4096 := by omega
          go_wp2_with (at_builtin; apply hold)
          unfold Hold
          refine wpList_app _ rfl (.tmp 87) (.tmp 89) 27 rfl W6.heap.size 3 i0 (.int .i64 0) 1 8 Tryz.underlying27 hi hz0 hz1 hz2 rfl (by omega) (by rfl) (own_alloc OW.out _) (by rfl) (Rd.lit wr _ 1 #[.int .i64 j] 1 (by omega) rfl) (one1 _ rfl) (by omega) (by omega) (by simp; omega) ?_
          intro A4 c4 w4 own4 g4
          have hAo : ∀ g, blk Ao = some g → W6.heap.size ≤ g := fun g e => (own_blk_le OW.out e).1
          have B4 := Lib.hid ((BX.out.step (bal _ _)).kp (Kp.of_grew g4 (X := fun i => blk Ao = some i) fun g h => h) fun e => by have := hAo q e; omega)
          have K4 := Lib.hid ((KP.out.below (bal _ _)).trans (Kp.of_grew g4 (X := fun i => blk Ao = some i) fun g h => h) (fun i hi' e => by have := hAo i e; omega))
          have OW4 : Hid (w4.ownsRow W6.heap.size 3 1 (.slice A4 (no + 1) c4) (no + 1) (iv (nat_int ((List.range (j + 1)).filter fun m => decide (m ∉ S))))) := Lib.hid (by
            rw [List.range_succ, List.filter_append]
            have e : ([j].filter fun m => decide (m ∉ S)) = [j] := by simp [NS.out]
            rw [e]
            unfold nat_int iv at own4 ⊢
            rw [List.map_append, List.map_append]
            exact own4)
          have B5 : Hid (Bx (w4.setCell ⟨q, 2, none⟩ (.slice A4 (no + 1) c4)) q [.slice A1 n c1, .int .i64 r0, .slice A4 (no + 1) c4]) := Lib.hid (B4.out.set (j := 2) (by simp) _)
          have K5 : Hid (Kp W6 (w4.setCell ⟨q, 2, none⟩ (.slice A4 (no + 1) c4)) (· = q)) := Lib.hid (K4.out.trans (Kp.of_set w4 ⟨q, 2, none⟩ _ (X := (· = q)) rfl) fun _ _ e => e)
          have OW5 : Hid ((w4.setCell ⟨q, 2, none⟩ (.slice A4 (no + 1) c4)).ownsRow W6.heap.size 3 1 (.slice A4 (no + 1) c4) (no + 1) (iv (nat_int ((List.range (j + 1)).filter fun m => decide (m ∉ S))))) := Lib.hid (own_kp OW4.out (Kp.of_set w4 ⟨q, 2, none⟩ _ (X := (· = q)) rfl) fun g e e' => by have := (own_blk_le OW4.out e).1; omega)
          have u0 := B4.out.at_ 0 (by simp)
          have u1 := B4.out.at_ 1 (by simp)
          have u2 := B4.out.at_ 2 (by simp)
          simp only [List.getElem?_cons_succ, List.getElem?_cons_zero] at u0 u1 u2
          have t2 := B4.out.fz 2 (by simp)
          clear own4 g4 hAo y0 y1 y2
          go_wp2_with fail
          go_roundw
          case rel => exact ⟨j + 1, no + 1, A4, c4, by omega, by omega, by first | trivial | go_num, B5, OW5, K5⟩
          case measure => simp [intOf]; omega
      · obtain rfl : j = n := by omega
        have d1 : decide ((j : Int) < (j : Int)) = false := decide_eq_false (by omega)
        have Y7 := Lib.hid (Y.out.kp KP.out (by omega))
        have T7 := Lib.hid (TY.out.kp KP.out (by omega))
        have bw7 : Below w.heap.size w wr := bw.trans (KP.out.low (B := w.heap.size) bw.size (fun i e => by omega))
        have y0 := BX.out.at_ 0 (by simp)
        have y1 := BX.out.at_ 1 (by simp)
        have y2 := BX.out.at_ 2 (by simp)
        have x0 := Y7.out.at_ 0 (by simp)
        have x1 := Y7.out.at_ 1 (by simp)
        have x2 := Y7.out.at_ 2 (by simp)
        simp only [List.getElem?_cons_succ, List.getElem?_cons_zero] at x0 x1 x2 y0 y1 y2
        have g0 := Y7.out.fz 0 (by simp)
        have g1 := Y7.out.fz 1 (by simp)
        have g2 := Y7.out.fz 2 (by simp)
        obtain ⟨C0, C1, C2⟩ := res_cells Y7.out
        have C0 := Lib.hid C0
        have C1 := Lib.hid C1
        have C2 := Lib.hid C2
        have hnl : l1.length = j := by have := (Rd.of_own RW.out.cp.own).len; rw [pv_len] at this; omega
        have hfl : (nat_int ((List.range j).filter fun m => decide (m ∉ S))).length = no := by have := (Rd.of_own OW.out).len; rw [iv_len] at this; omega
        have FT : Hid (FlT wr ⟨A1, c1, l1, r0, Ao, co, nat_int ((List.range j).filter fun m => decide (m ∉ S))⟩) := Lib.hid (rw_flt RW.out KP.out OW.out hnl hfl)
        have VV : Hid (FV.val ⟨A1, c1, l1, r0, Ao, co, nat_int ((List.range j).filter fun m => decide (m ∉ S))⟩ = .agg #[.slice A1 j c1, .int .i64 r0, .slice Ao no co]) := Lib.hid (by unfold FV.val; dsimp only; rw [hnl, hfl])
        have RR := Lib.hid (rcl_of (A1 := A1) (c1 := c1) (Ao := Ao) (co := co) HL1.out HR.out HN.out.symm ROK.out)
        clear hnl hfl d1
        go_wp2_with fail
        refine bodyPost_ret (v := .tuple #[.agg #[.slice A1 j c1, .int .i64 r0, .slice Ao no co], .int .i64 0]) (by simp [results, Tryz.results36, go_sem, C0.out, C1.out, C2.out]) rfl ⟨_, by rw [VV.out], RR.out, Lib.hid (fl_res FT.out T7.out), res_below bw7 hwp⟩
end Go.Proofs.YtpmkohnljngbhaaGreatDoor.Pg
