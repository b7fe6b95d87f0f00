/- The law: WalBack. -/
import Derived.Test.YtfkeedeiafegiaaWalL7
namespace Go.Proofs.Ytfkeedeiafegiaa.Wl
set_option linter.unusedVariables false
set_option linter.unusedSimpArgs false
open Go.RowKit

set_option maxRecDepth 20000 in
set_option maxHeartbeats 3200000 in
theorem WalBack_walk (A : Option Addr) (n c : Nat) (l : List RV) (w : World) (h : Hid (Rr w A n c l)) (hf : Hid (Fit l)) :
    Calls Try.prog 9 #[.slice A n c] w fun e w' => e = .returned (.bool true) ∧ Below w.heap.size w w' := by
  obtain ⟨i0, hi, hz0, hz1, hz2⟩ := info_parts info_u8
  obtain ⟨j0, kj, kz0, kz1, kz2⟩ := info_parts info_rec
  go_enter Try.func9, Try.ntmps9
  go_wp2_with fail
  go_at_call 13
  refine (awake_any _).mono ?_
  rintro e w1 ⟨rfl, b1⟩
  have h1 := Lib.hid (h.out.below b1)
  go_wp2_with fail
  go_at_call 17
  refine (great_any _ h1).mono ?_
  rintro e w2 ⟨rfl, b2⟩
  have h2 := Lib.hid (h1.out.below b2)
  have bw2 := b1.trans (b2.mono b1.size)
  clear b1 b2 h1
  rcases hg : greatB l with _ | _
  · have hgr := greatB_f hg
    have h40 : n ≤ 40 := by rw [h.out.len]; exact hgr.1
    have h5 := Lib.hid hgr.2
    have hnc := h.out.row.nc
    have hc63 := h.out.row.c63
    clear hg hgr
    go_wp2_with fail
    go_loopw [3, 4, 19] (fun v kv i wr => ∃ (j : Nat) (A1 : Option Addr) (m c1 : Nat) (A2 : Option Addr) (n2 c2 : Nat), j ≤ n ∧ i = .int .i64 j ∧ v = .slice A1 m c1 ∧ kv = .slice A2 n2 c2 ∧ m ≤ j * 4117 ∧ n2 ≤ j ∧ Hid (m = (encs (vals (l.take j))).length) ∧
      Hid (wr.ownsRow w.heap.size 5 1 (.slice A1 m c1) m (bv (encs (vals (l.take j))))) ∧ Hid (Kp wr w.heap.size A2 n2 c2 (vkp (l.take j))) ∧ Below w.heap.size w wr) (fun _ _ i _ => (n - intOf i).toNat)
    case atStart => exact ⟨0, none, 0, 0, none, 0, 0, by omega, rfl, rfl, rfl, by omega, by omega, Lib.hid rfl, Lib.hid (World.ownsRow_nil _ _ _ _), Lib.hid (World.ownsRow_nil _ _ _ _), bw2⟩
    case round =>
      obtain ⟨j, A1, m, c1, A2, n2, c2, hj, rfl, rfl, rfl, hm, hn2, hml, own, kp, bw⟩ := hrel
      have z2 := bw.size
      by_cases hlt : j < n
      · obtain ⟨g, o, x, rfl, hg, hx, hxm, a0, a1, a2⟩ := (h.out.below bw).rec_ hlt
        have hxt := hf.out x hxm
        have hx5 := h5.out x hxm
        have HX := Lib.hid (take_rv hx)
        obtain ⟨Wa, hWa⟩ : ∃ Wa, wr.alloc (.cells #[.int .i64 x.k, .int .i64 x.t, .slice x.A x.d.length x.c] 24) = Wa := ⟨_, rfl⟩
        obtain ⟨y0, y1, y2⟩ := box3 wr (.int .i64 x.k) (.int .i64 x.t) (.slice x.A x.d.length x.c) 24
        have hba : Below wr.heap.size wr Wa := hWa ▸ (Below.refl _ _).alloc (Nat.le_refl _) _
        have hpl : wr.heap.size < Wa.heap.size := by rw [← hWa]; simp
        rw [hWa] at y0 y1 y2
        have bwa := bw.trans (hba.mono z2)
        have hxd := Lib.hid ((h.out.dat x hxm).below bwa)
        have ownA := Lib.hid (own_below own.out hba)
        have kpA := Lib.hid (kp.out.below hba)
        have KE : Hid (∀ U, Below Wa.heap.size Wa U → U.cell? ⟨wr.heap.size, 0, none⟩ = some (.int .i64 x.k) ∧ U.cell? ⟨wr.heap.size, 1, none⟩ = some (.int .i64 x.t) ∧ U.cell? ⟨wr.heap.size, 2, none⟩ = some (.slice x.A x.d.length x.c)) :=
          Lib.hid fun U hU => ⟨(hU.cell (p := ⟨wr.heap.size, 0, none⟩) hpl).trans y0, (hU.cell (p := ⟨wr.heap.size, 1, none⟩) hpl).trans y1, (hU.cell (p := ⟨wr.heap.size, 2, none⟩) hpl).trans y2⟩
        obtain ⟨nx, hnx⟩ : ∃ nx, x.d.length = nx := ⟨_, rfl⟩
        rw [hnx] at a2 hxd hx5 hWa KE
        have HN := Lib.hid hnx.symm
        have HWa := Lib.hid hWa
        have hpre : ∀ r ∈ vals (l.take j), ok r := fun r hr => vals_ok (fun y hy => hf.out y (List.mem_of_mem_take hy)) r hr
        have hgl := Lib.hid (glen_encs hpre)
        clear hnx hx hWa y0 y1 y2 hba hpre
        rcases hv : okV x.k x.t nx with _ | _
        · have ho : ¬ okR x.r = true := by show ¬ okV x.k x.t x.d.length = true; rw [← HN.out, hv]; simp
          have R1 : Hid (vals (l.take (j + 1)) = vals (l.take j)) := Lib.hid (by rw [HX.out, vals_snoc, if_neg ho])
          have R2 : Hid (vkp (l.take (j + 1)) = vkp (l.take j)) := Lib.hid (by rw [HX.out]; unfold vkp; rw [vals_map_snoc, if_neg ho])
          have R0 : Hid (aerr (encs (vals (l.take j))) ⟨x.k, x.t, x.d⟩ = 1) := Lib.hid (aerr_1 (by show okV x.k x.t x.d.length = false; rw [← HN.out, hv]))
          have HV := Lib.hid hv
          clear hv ho
          go_wp2_with fail
          rw [HWa.out]
          go_at_call 14
          refine (Encode_bad x.k x.t _ HV.out).mono ?_
          rintro e w3 ⟨rfl, b3⟩
          obtain ⟨y0, y1, y2⟩ := KE.out _ b3
          have xd3 := Lib.hid (hxd.out.below b3)
          have ow3 := Lib.hid (own_below ownA.out b3)
          have kp3 := Lib.hid (kpA.out.below b3)
          have bw3 := bwa.trans (b3.mono bwa.size)
          go_wp2_with fail
          go_at_call 22
          refine (Append_any (b := encs (vals (l.take j))) x.k x.t _ hml (Lib.hid (Rd.of_own ow3.out)) (by omega) HN xd3 hxt).mono ?_
          rintro e w4 ⟨A4, n4, c4, rfl, own4, b4⟩
          rw [R0.out]
          have hn4 : n4 = 0 := by have := own4.1; rw [aout_no (by rw [R0.out]; decide)] at this; simpa [bv] using this.symm
          subst hn4
          have b34 := b3.trans (b4.mono b3.size)
          have ow4 := Lib.hid (own_below ow3.out b4)
          have kp4 := Lib.hid (kp3.out.below b4)
          have bw4 := bw3.trans (b4.mono bw3.size)
          clear y0 y1 y2 own4 b3 b4 xd3 ow3 kp3 bw3 b34
          go_wp2_with fail
          go_roundw
          case rel => exact ⟨j + 1, A1, m, c1, A2, n2, c2, by omega, by go_num, rfl, rfl, by omega, by omega, by rw [R1.out]; exact hml, by rw [R1.out]; exact ow4, by rw [R2.out]; exact kp4, bw4⟩
          case measure => simp [intOf]; omega
        · have ho : okR x.r = true := by show okV x.k x.t x.d.length = true; rw [← HN.out, hv]
          have R1 : Hid (encs (vals (l.take (j + 1))) = encs (vals (l.take j)) ++ enc ⟨x.k, x.t, x.d⟩) := Lib.hid (by rw [HX.out, vals_snoc, if_pos ho, encs_snoc]; rfl)
          have R2 : Hid (vkp (l.take (j + 1)) = vkp (l.take j) ++ [x]) := Lib.hid (by rw [HX.out]; unfold vkp; rw [vals_map_snoc, if_pos ho])
          have h4 : nx ≤ 4096 := (okV_p hv).2.2.2.1
          have R0 : Hid (aerr (encs (vals (l.take j))) ⟨x.k, x.t, x.d⟩ = 0) := Lib.hid (aerr_0 (by show okV x.k x.t x.d.length = true; rw [← HN.out, hv]) (by rw [hgl.out, ← hml.out]; omega) (by show ¬ 1048576 < (encs (vals (l.take j))).length + (21 + x.d.length); rw [← hml.out, ← HN.out]; omega))
          have HV := Lib.hid hv
          clear hv ho
          go_wp2_with fail
          rw [HWa.out]
          go_at_call 14
          refine (Encode_ok x.k x.t _ hxd HV.out hxt).mono ?_
          rintro e w3 ⟨A3, c3, rfl, own3, b3⟩
          obtain ⟨y0, y1, y2⟩ := KE.out _ b3
          have xd3 := Lib.hid (hxd.out.below b3)
          have ow3 := Lib.hid (own_below ownA.out b3)
          have kp3 := Lib.hid (kpA.out.below b3)
          have en3 := Lib.hid (Rd.of_own own3)
          have bw3 := bwa.trans (b3.mono bwa.size)
          go_wp2_with fail
          go_at_call 22
          refine (Append_any (b := encs (vals (l.take j))) x.k x.t _ hml (Lib.hid (Rd.of_own ow3.out)) (by omega) HN xd3 hxt).mono ?_
          rintro e w4 ⟨A4, n4, c4, rfl, own4, b4⟩
          rw [R0.out]
          rw [aout_yes R0.out, ← R1.out] at own4
          have HN4 : Hid (n4 = (encs (vals (l.take (j + 1)))).length) := Lib.hid (by have := own4.1; rw [bv_len] at this; omega)
          have hn4 : n4 = m + (21 + nx) := by rw [HN4.out, R1.out, List.length_append, enc_len, ← hml.out]; show _ = _ + (21 + nx); rw [HN.out]
          subst hn4
          have b34 := b3.trans (b4.mono b3.size)
          have z34 := b34.size
          have ow4 := Lib.hid (own_base (base' := w.heap.size) own4 (by have := bw3.size; omega))
          have old4 := Lib.hid (own_below ow3.out b4)
          have kp4 := Lib.hid (kp3.out.below b4)
          have en4 := Lib.hid (en3.out.below b4)
          have xd4 := Lib.hid (xd3.out.below b4)
          have bw4 := bw3.trans (b4.mono bw3.size)
          clear y0 y1 y2 own4 own3 b3 b4 xd3 ow3 kp3 bw3 en3
          obtain ⟨y0, y1, y2⟩ := KE.out _ b34
          go_wp2_with fail
          go_at_call 28
          refine (clone_any _ (Lib.hid (Rd.of_own old4.out)) (by omega)).mono ?_
          rintro e w5 ⟨A5, c5, rfl, own5, b5⟩
          have b35 := b34.trans (b5.mono b34.size)
          have ow5 := Lib.hid (own_below ow4.out b5)
          have kp5 := Lib.hid (kp4.out.below b5)
          have en5 := Lib.hid (en4.out.below b5)
          have xd5 := Lib.hid (xd4.out.below b5)
          have bw5 := bw4.trans (b5.mono bw4.size)
          have ap5 := own_apart ow4.out own5 (Nat.le_refl _)
          have AP5 := Lib.hid ap5
          have O5 := Lib.hid own5
          have z5 := b5.size
          have z4 := bw4.size
          clear y0 y1 y2 b34 ow4 old4 kp4 en4 xd4 bw4 own5 ap5
          go_wp2_with (at_builtin; refine wpList_app_g _ (by rfl) (.tmp 63) (.tmp 64) 22 rfl w4.heap.size 5 i0 (.int .u8 0) 1 1 Try.underlying22 hi hz0 hz1 hz2 rfl (by omega) (by rfl) O5.out (by rfl) en5.out (bv_one _) (by omega) (by omega) z5 ?_; intro A6 c6 w6 own6 g6)
          have bw6 : Below Wa.heap.size Wa w6 := g6.low b35 b35.size (fun q e => by have := (own_blk_le O5.out e).1; omega)
          have BW6 : Below w.heap.size w w6 := g6.low bw5 bw5.size (fun q e => by have := (own_blk_le O5.out e).1; omega)
          have r6 := Lib.hid (Rd.of_own (own_grew ow5.out g6 AP5.out))
          have O6 := Lib.hid (own_grew ow5.out g6 AP5.out)
          have s6 := Lib.hid (Rd.of_own own6)
          have kp6 : Hid (Kp w6 w.heap.size A2 n2 c2 (vkp (l.take j))) := Lib.hid (own_grew kp5.out g6 (own_ne kp5.out O5.out (by decide)))
          have xd6 : Hid (Rd w6 1 x.A nx x.c (bv x.d)) := Lib.hid (hxd.out.below bw6)
          obtain ⟨y0, y1, y2⟩ := KE.out _ bw6
          rw [← bv_app, ← R1.out] at s6
          clear own6 O5 ow5 g6 kp5 en5 b5 b35 xd5 bw5
          refine (Equal_any _ r6 s6).mono ?_
          rintro e w7 ⟨rfl, rfl⟩
          rw [eqB_self]
          obtain ⟨Wb, hWb⟩ : ∃ Wb, w6.alloc (.cells #[.int .i64 x.k, .int .i64 x.t, .slice x.A nx x.c] 24) = Wb := ⟨_, rfl⟩
          have zb : w6.heap.size ≤ Wb.heap.size := by rw [← hWb]; simp
          have z6 := BW6.size
          have kpb := Lib.hid (kp6.out.below (w' := Wb) (hWb ▸ (Below.refl _ _).alloc (Nat.le_refl _) _))
          have hrb : Hid (Rd Wb 3 (some ⟨w6.heap.size, 0, none⟩) 1 1 (#[.int .i64 x.k, .int .i64 x.t, .slice x.A nx x.c] : Array Value).toList) := Lib.hid (hWb ▸ Rd.lit' _ _ 3 #[.int .i64 x.k, .int .i64 x.t, .slice x.A nx x.c] 1 rfl (by omega) rfl)
          have ob := Lib.hid (own_below O6.out (w' := Wb) (hWb ▸ (Below.refl _ _).alloc (Nat.le_refl _) _))
          have bwb : Below w.heap.size w Wb := hWb ▸ bel_alloc BW6 (Nat.le_refl _) _
          have HWb := Lib.hid hWb
          clear hWb O6 kp6 r6 s6 xd6
          go_wp2_with (first | (rw [HWb.out]; at_builtin; refine wpList_app _ rfl (.tmp 70) (.tmp 72) 33 rfl w.heap.size 24 j0 (.agg #[.int .i64 0, .int .i64 0, .slice none 0 0]) 3 40 Try.underlying33 kj kz0 kz1 kz2 rfl (by omega) (by rfl) kpb.out (by rfl) hrb.out (one3 _ _ _ rfl rfl rfl) (by omega) (by omega) (by omega) ?_; intro A7 c7 w7 own7 g7))
          have own8 : Hid (w7.ownsRow w.heap.size 5 1 (.slice A4 (m + (21 + nx)) c4) (m + (21 + nx)) (bv (encs (vals (l.take (j + 1)))))) := Lib.hid (own_grew ob.out g7 (own_ne ob.out kpb.out (by decide)))
          have bw7 : Below w.heap.size w w7 := g7.low bwb bwb.size (fun q e => (own_blk_le kpb.out e).1)
          have kp7 : Hid (Kp w7 w.heap.size A7 (n2 + 1) c7 (vkp (l.take (j + 1)))) := Lib.hid (by
            rw [R2.out]; unfold Kp; rw [cells_snoc]; unfold RV.cs; rw [← HN.out]; exact own7)
          go_roundw
          case rel => exact ⟨j + 1, A4, m + (21 + nx), c4, A7, n2 + 1, c7, by omega, by go_num, rfl, rfl, by omega, by omega, HN4, own8, kp7, bw7⟩
          case measure => simp [intOf]; omega
      · obtain rfl : j = n := by omega
        have hlj : Hid (l.take j = l) := Lib.hid (List.take_of_length_le (by have := h.out.len; omega))
        have hll : m ≤ 164680 := by omega
        have HQ : Hid (m = (encs (vals l)).length) := Lib.hid (by have := hml.out; rwa [hlj.out] at this)
        have RB : Hid (Rd wr 1 A1 m c1 (bv (encs (vals l)))) := Lib.hid (by have := Rd.of_own own.out; rwa [hlj.out] at this)
        have KP : Hid (Kp wr w.heap.size A2 n2 c2 (vkp l)) := Lib.hid (by have := kp.out; rwa [hlj.out] at this)
        have bwr := bw
        clear own kp hml
        go_wp2_with fail
        go_at_call 19
        refine (Read_any _ HQ RB (by omega)).mono ?_
        rintro e w3 ⟨A3, n3, c3, l3, rfl, hl3, rs3, b3⟩
        rw [show glen (encs (vals l)) = m by rw [glen_encs (vals_ok hf.out), ← HQ.out]]
        have S3 := Lib.hid rs3.rr
        have HL3 := Lib.hid hl3
        have bw3 := bwr.trans (b3.mono bwr.size)
        have K3 := Lib.hid ((KP.out.below b3).rr fun x hx => (h.out.dat x (vkp_sub hx)).below bw3)
        clear b3 rs3 hl3 RB KP
        go_wp2_with fail
        go_at_call 21
        refine (equal_any _ S3 K3).mono ?_
        rintro e w4 ⟨rfl, b4⟩
        rw [show eqR (l3.map RV.r) ((vkp l).map RV.r) = true by rw [HL3.out, vkp_map, rd_encs (vals_ok hf.out)]; exact eqR_self _]
        have bw4 := bw3.trans (b4.mono bw3.size)
        go_wp2_with fail
        go_ret
        exact ⟨rfl, bw4⟩
  · go_wp2_with fail
    go_ret
    exact ⟨rfl, bw2⟩
end Go.Proofs.Ytfkeedeiafegiaa.Wl
