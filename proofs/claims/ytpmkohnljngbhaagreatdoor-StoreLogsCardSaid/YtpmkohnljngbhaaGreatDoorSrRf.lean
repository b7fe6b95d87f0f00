/- Walks: the reference's join, Record, Log. -/
import Derived.Test.YtpmkohnljngbhaaGreatDoorSrL1
namespace Go.Proofs.YtpmkohnljngbhaaGreatDoor.Sr
set_option linter.unusedVariables false
set_option linter.unusedSimpArgs false
set_option maxRecDepth 1000000
open Go.RowKit Wl Pg

theorem grown_below {w w' : World} (h : w.grownBy w' none) : Below w.heap.size w w' := ⟨h.os, h.tape, h.output, h.size, fun i hi => h.block i hi (by simp)⟩
set_option maxHeartbeats 1600000 in
theorem rjoin_any {A B : Option Addr} {n c m d : Nat} {x y : List UInt8} (w : World) (ha : Hid (Rd w 1 A n c (bv x))) (hb : Hid (Rd w 1 B m d (bv y))) (hn : n ≤ 1000000000) (hm : m ≤ 1000000000) :
    Calls Tryz.prog 52 #[.slice A n c, .slice B m d] w fun e w' => ∃ A' c', e = .returned (.slice A' (n + m) c') ∧ Hid (w'.ownsRow w.heap.size 5 1 (.slice A' (n + m) c') (n + m) (bv (x ++ y))) ∧ Below w.heap.size w w' := by
  obtain ⟨i0, hi, hz0, hz1, hz2⟩ := info_parts Pg.info_u8
  obtain ⟨w2, hmk, own2, g2⟩ := run_make_own (P := Tryz.prog) w w.heap.size 30 5 i0 (.int .u8 0) 1 Tryz.underlying30 hi hz0 hz1 .i64 .i64 (n + m) (by rw [hz2]; omega) (by unfold maxLen; omega) (Nat.le_refl _)
  have b2 := grown_below g2
  have e1 : ((n + m : Nat) : Int) = (n : Int) + (m : Int) := by omega
  rw [e1] at hmk
  have own2 := Lib.hid own2
  have ha2 := Lib.hid (ha.out.below b2)
  have hb2 := Lib.hid (hb.out.below b2)
  have s2 := b2.size
  clear g2 e1
  go_enter Tryz.func52, Tryz.ntmps52
  go_wp2_with (at_builtin; apply hold)
  unfold Hold
  refine wpList_app _ rfl (.tmp 12) (.tmp 13) 30 rfl w.heap.size 5 i0 (.int .u8 0) 1 1 Tryz.underlying30 hi hz0 hz1 hz2 rfl (by omega) (by rfl) own2.out (by rfl) ha2.out (bv_one _) (by omega) (by omega) (by omega) ?_
  intro A3 c3 w3 own3 g3
  rw [Nat.zero_add, List.nil_append] at own3
  have b3 : Below w.heap.size w w3 := g3.low b2 (by omega) fun q e => (own_blk_le own2.out e).1
  have hb3 := Lib.hid (hb.out.below b3)
  have own3 := Lib.hid own3
  have s3 := b3.size
  rw [Nat.zero_add]
  clear g3
  go_wp2_with (at_builtin; apply hold)
  unfold Hold
  refine wpList_app _ rfl (.tmp 15) (.tmp 16) 30 rfl w.heap.size 5 i0 (.int .u8 0) 1 1 Tryz.underlying30 hi hz0 hz1 hz2 rfl (by omega) (by rfl) own3.out (by rfl) hb3.out (bv_one _) (by omega) (by omega) (by omega) ?_
  intro A4 c4 w4 own4 g4
  rw [← bv_app] at own4
  have b4 : Below w.heap.size w w4 := g4.low b3 (by omega) fun q e => (own_blk_le own3.out e).1
  clear g4
  go_wp2_with fail
  go_ret
  exact ⟨A4, c4, rfl, Lib.hid own4, b4⟩
theorem rd_one (w : World) {q : Nat} (x : UInt8) (hq : w.heap.size = q) : Rd (w.alloc (.cells #[.int .u8 (x.toNat : Int)] 5)) 1 (some ⟨q, 0, none⟩) 1 1 (bv [x]) := rd_lit w hq _ 1 #[.int .u8 (x.toNat : Int)] 1 (by omega) rfl
def RrPost (w : World) (r : Rec) (e : Ending) (w' : World) : Prop := ∃ A c, e = .returned (.agg #[.int .i64 r.k, .int .i64 r.t, .slice A r.d.length c]) ∧ Hid (Rd w' 1 A r.d.length c (bv r.d)) ∧ Below w.heap.size w w'
set_option maxHeartbeats 3200000 in
theorem rRecord_any {A B : Option Addr} {n c m d : Nat} {k v : List UInt8} {del : Bool} (tx : Int) (w : World) (hk : Hid (Rd w 1 A n c (bv k))) (hv : Hid (Rd w 1 B m d (bv v))) (hn : n ≤ 255) (hm : m ≤ 1000) :
    Calls Tryz.prog 51 #[.agg #[.slice A n c, .slice B m d, .bool del], .int .i64 tx] w (RrPost w (recC tx ⟨k, v, del⟩)) := by
  have KN : Hid (n = k.length) := Lib.hid (by have := hk.out.len; rw [bv_len] at this; omega)
  have VN : Hid (m = v.length) := Lib.hid (by have := hv.out.len; rw [bv_len] at this; omega)
  obtain ⟨p, hp⟩ : ∃ p, w.heap.size = p := ⟨_, rfl⟩
  obtain ⟨W1, hW1⟩ : ∃ W1, w.alloc (.cells #[.slice A n c, .slice B m d, .bool del] 52) = W1 := ⟨_, rfl⟩
  have v1 : Below w.heap.size w W1 := hW1 ▸ bal _ _
  have X : Hid (Bx W1 p [.slice A n c, .slice B m d, .bool del]) := hW1 ▸ Lib.hid (Bx.put _ hp #[.slice A n c, .slice B m d, .bool del] 52)
  have TX : Hid (Ty W1 p 52) := hW1 ▸ hp ▸ Lib.hid (Ty.new _ _ _)
  have HW1 := Lib.hid hW1
  clear hW1
  obtain ⟨R, hR⟩ : ∃ R, W1.heap.size = R := ⟨_, rfl⟩
  obtain ⟨W2, hW2⟩ : ∃ W2, W1.alloc (.cells #[.int .i64 0, .int .i64 0, .slice none 0 0] 89) = W2 := ⟨_, rfl⟩
  have v2 : Below W1.heap.size W1 W2 := hW2 ▸ bal _ _
  have Y : Hid (Bx W2 R [.int .i64 0, .int .i64 0, .slice none 0 0]) := hW2 ▸ Lib.hid (Bx.put _ hR #[.int .i64 0, .int .i64 0, .slice none 0 0] 89)
  have TY : Hid (Ty W2 R 89) := hW2 ▸ hR ▸ Lib.hid (Ty.new _ _ _)
  have HW2 := Lib.hid hW2
  clear hW2
  have v12 := v1.trans (v2.mono v1.size)
  have hR : w.heap.size ≤ R := by rw [← hR]; exact v1.size
  have X := Lib.hid (X.out.nx v2)
  have e12 : R = p + 1 := by rw [← ‹W1.heap.size = R›, ← HW1.out, ← hp]; simp
  subst e12
  have z0 := X.out.at_ 0 (by simp)
  have z1 := X.out.at_ 1 (by simp)
  have z2 := X.out.at_ 2 (by simp)
  simp only [List.getElem?_cons_succ, List.getElem?_cons_zero] at z0 z1 z2
  have K2 := Lib.hid (hk.out.nx v12)
  have V2 := Lib.hid (hv.out.nx v12)
  have pq : p + 1 < W2.heap.size := Y.out.lt
  cases del with
  | true =>
    have JN := Lib.hid (rjoin_any (B := none) (m := 0) (d := 0) (y := []) W2 K2 (Lib.hid (Rd.nil_ W2 1)) (by omega) (by omega))
    go_enter Tryz.func51, Tryz.ntmps51
    go_upto_region 1 with fail
    rw [HW1.out, HW2.out]
    go_wp2_with fail
    go_at_call 52
    refine JN.out.mono ?_
    rintro e w3 ⟨D, c', rfl, own, b3⟩
    rw [List.append_nil] at own
    simp only [Nat.add_zero] at own ⊢
    have v3 := v12.trans (b3.mono v12.size)
    have Y3 := Lib.hid (Y.out.nx b3)
    clear z0 z1 z2 JN
    have y0 := Y3.out.at_ 0 (by simp)
    have y1 := Y3.out.at_ 1 (by simp)
    have y2 := Y3.out.at_ 2 (by simp)
    simp only [List.getElem?_cons_succ, List.getElem?_cons_zero] at y0 y1 y2
    have f0 := Y3.out.fz 0 (by simp)
    have f1 := Y3.out.fz 1 (by simp)
    have f2 := Y3.out.fz 2 (by simp)
    obtain ⟨C0, C1, C2⟩ := res3_cells Y3.out
    have C0 := Lib.hid C0
    have C1 := Lib.hid C1
    have C2 := Lib.hid C2
    have ne : ∀ g, blk D = some g → g ≠ p + 1 := fun g e => by have := (own_blk_le own.out e).1; omega
    have OW := Lib.hid (own_set (own_set (own_set own.out ⟨p + 1, 0, none⟩ (.int .i64 2) (fun e => ne _ e rfl)) ⟨p + 1, 1, none⟩ (.int .i64 tx) (fun e => ne _ e rfl)) ⟨p + 1, 2, none⟩ (.slice D n c') (fun e => ne _ e rfl))
    go_wp2_with fail
    refine bodyPost_ret (v := .agg #[.int .i64 2, .int .i64 tx, .slice D n c']) (by simp [results, Tryz.results51, go_sem, C0.out, C1.out, C2.out]) rfl ?_
    exact ⟨D, c', by rw [KN.out]; rfl, Lib.hid (by rw [show (recC tx ⟨k, v, true⟩).d = k from rfl, ← KN.out]; exact Rd.of_own OW.out), res3_below v3 hR⟩
  | false =>
    have LN : Hid ((UInt8.ofNat n).toNat = n) := Lib.hid (by simp; omega)
    have KK : Hid (∀ U, Below W2.heap.size W2 U → U.cell? ⟨p, 0, none⟩ = some (.slice A n c) ∧ U.cell? ⟨p, 1, none⟩ = some (.slice B m d) ∧ U.cell? ⟨p, 2, none⟩ = some (.bool false)) := Lib.hid fun U hU => by
      have X := Lib.hid (X.out.nx hU)
      have x0 := X.out.at_ 0 (by simp)
      have x1 := X.out.at_ 1 (by simp)
      have x2 := X.out.at_ 2 (by simp)
      simp only [List.getElem?_cons_succ, List.getElem?_cons_zero] at x0 x1 x2
      exact ⟨x0, x1, x2⟩
    have KS : Hid (∀ U a b e, Below W2.heap.size W2 U → (((U.setCell ⟨p + 1, 0, none⟩ a).setCell ⟨p + 1, 1, none⟩ b).setCell ⟨p + 1, 2, none⟩ e).cell? ⟨p, 0, none⟩ = some (.slice A n c) ∧ (((U.setCell ⟨p + 1, 0, none⟩ a).setCell ⟨p + 1, 1, none⟩ b).setCell ⟨p + 1, 2, none⟩ e).cell? ⟨p, 1, none⟩ = some (.slice B m d) ∧ (((U.setCell ⟨p + 1, 0, none⟩ a).setCell ⟨p + 1, 1, none⟩ b).setCell ⟨p + 1, 2, none⟩ e).cell? ⟨p, 2, none⟩ = some (.bool false)) := Lib.hid fun U a b e hU => by
      have X := Lib.hid ((((X.out.nx hU).other (show p + 1 ≠ p by omega) 0 a).other (show p + 1 ≠ p by omega) 1 b).other (show p + 1 ≠ p by omega) 2 e)
      have x0 := X.out.at_ 0 (by simp)
      have x1 := X.out.at_ 1 (by simp)
      have x2 := X.out.at_ 2 (by simp)
      simp only [List.getElem?_cons_succ, List.getElem?_cons_zero] at x0 x1 x2
      exact ⟨x0, x1, x2⟩
    have vd : Below W2.heap.size W2 W2.drew := (Below.refl _ _).drew
    have YY : Hid (∀ U, Below W2.heap.size W2 U → Bx U (p + 1) [.int .i64 0, .int .i64 0, .slice none 0 0]) := Lib.hid fun U hU => Y.out.nx hU
    have J1 : Hid (∀ U q, Below W2.heap.size W2 U → Hid (Rd U 1 (some ⟨q, 0, none⟩) 1 1 (bv [UInt8.ofNat n])) → Calls Tryz.prog 52 #[.slice (some ⟨q, 0, none⟩) 1 1, .slice A n c] U fun e w' => ∃ A' c', e = .returned (.slice A' (1 + n) c') ∧ Hid (Rd w' 1 A' (1 + n) c' (bv ([UInt8.ofNat n] ++ k))) ∧ Below W2.heap.size W2 w') := Lib.hid fun U q hU hq => by
      refine (rjoin_any U hq (Lib.hid (K2.out.nx hU)) (by omega) (by omega)).mono ?_
      rintro e w' ⟨A', c', h1, h2, h3⟩
      exact ⟨A', c', h1, Lib.hid (Rd.of_own h2.out), hU.trans (h3.mono hU.size)⟩
    have J2 : Hid (∀ U A' c', Below W2.heap.size W2 U → Hid (Rd U 1 A' (1 + n) c' (bv ([UInt8.ofNat n] ++ k))) → Calls Tryz.prog 52 #[.slice A' (1 + n) c', .slice B m d] U fun e w' => ∃ A' c', e = .returned (.slice A' (1 + n + m) c') ∧ Hid (w'.ownsRow U.heap.size 5 1 (.slice A' (1 + n + m) c') (1 + n + m) (bv ([UInt8.ofNat n] ++ k ++ v))) ∧ U.heap.size ≥ W2.heap.size ∧ Below W2.heap.size W2 w') := Lib.hid fun U A' c' hU hq => by
      refine (rjoin_any U hq (Lib.hid (V2.out.nx hU)) (by omega) (by omega)).mono ?_
      rintro e w' ⟨A', c', h1, h2, h3⟩
      exact ⟨A', c', h1, h2, hU.size, hU.trans (h3.mono hU.size)⟩
    have wn : IntKind.u8.wrap (n : Int) = n := by rw [IntKind.wrap_u8]; omega
    have RL : Hid (Rd (W2.alloc (.cells #[.int .u8 (IntKind.u8.wrap (n : Int))] 5)).drew 1 (some ⟨W2.heap.size, 0, none⟩) 1 1 (bv [UInt8.ofNat n])) := by
      have e : bv [UInt8.ofNat n] = [.int .u8 (n : Int)] := by simp [bv, LN.out]
      rw [e, wn]
      exact Lib.hid ((rd_lit W2 rfl _ 1 #[.int .u8 (n : Int)] 1 (by omega) rfl).drewN 1)
    clear wn
    go_enter Tryz.func51, Tryz.ntmps51
    go_upto_region 1 with fail
    rw [HW1.out, HW2.out]
    go_wp2_with fail
    go_region_held3 (fun w' => w'.cell? ⟨p, 0, none⟩ = some (.slice A n c) ∧ w'.cell? ⟨p, 1, none⟩ = some (.slice B m d) ∧ w'.cell? ⟨p, 2, none⟩ = some (.bool false))
      (first | exact KS.out _ _ _ _ kb2 | (refine KK.out _ ?_; repeat (first | exact kb2 | exact kb1 | exact vd | exact Below.refl _ _ | (refine Below.drew ?_) | (refine bel_alloc ?_ (Nat.le_refl _) _))))
      (first
        | (go_at_call 52
           refine (J2.out _ _ _ kb1 R1).mono ?_
           rintro e w4 ⟨D, c4, rfl, own, hs4, kb2⟩
           have Y5 := YY.out _ kb2
           have y0 := Y5.at_ 0 (by simp)
           have y1 := Y5.at_ 1 (by simp)
           have y2 := Y5.at_ 2 (by simp)
           simp only [List.getElem?_cons_succ, List.getElem?_cons_zero] at y0 y1 y2
           have f0 := Y5.fz 0 (by simp)
           have f1 := Y5.fz 1 (by simp)
           have f2 := Y5.fz 2 (by simp)
           obtain ⟨C0, C1, C2⟩ := res3_cells Y5
           have C0 := Lib.hid C0
           have C1 := Lib.hid C1
           have C2 := Lib.hid C2)
        | (go_at_call 52
           refine (J1.out _ _ ?h1 ?h2).mono ?_
           case h1 => exact (bel_alloc (Below.refl _ _) (Nat.le_refl _) _).drew
           case h2 => exact RL.out
           rintro e w3 ⟨A3, c3, rfl, R1, kb1⟩))
    have ne : ∀ g, blk D = some g → g ≠ p + 1 := fun g e => by have := (own_blk_le own.out e).1; omega
    have OW := Lib.hid (own_set (own_set (own_set own.out ⟨p + 1, 0, none⟩ (.int .i64 1) (fun e => ne _ e rfl)) ⟨p + 1, 1, none⟩ (.int .i64 tx) (fun e => ne _ e rfl)) ⟨p + 1, 2, none⟩ (.slice D (1 + n + m) c4) (fun e => ne _ e rfl))
    have ED : Hid ((recC tx ⟨k, v, false⟩).d = [UInt8.ofNat n] ++ k ++ v) := Lib.hid (by rw [KN.out]; simp [recC])
    have EL : Hid ((recC tx ⟨k, v, false⟩).d.length = 1 + n + m) := Lib.hid (by rw [ED.out, KN.out, VN.out]; simp; omega)
    have bF := res3_below (R := p + 1) (a := .int .i64 1) (b := .int .i64 tx) (c := .slice D (1 + n + m) c4) (v12.trans (kb2.mono v12.size)) hR
    go_wp2_with fail
    refine bodyPost_ret (v := .agg #[.int .i64 1, .int .i64 tx, .slice D (1 + n + m) c4]) (by simp [results, Tryz.results51, go_sem, C0.out, C1.out, C2.out]) rfl ?_
    exact ⟨D, c4, by rw [EL.out]; rfl, Lib.hid (by rw [EL.out, ED.out]; exact Rd.of_own OW.out), bF⟩
end Go.Proofs.YtpmkohnljngbhaaGreatDoor.Sr
