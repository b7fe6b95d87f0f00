/- Walks: the reference's Committed and Compact. -/
import Derived.Test.YtfkeedeiafegiaaWalW21
import Derived.Test.YtfkeedeiafegiaaWalL4
namespace Go.Proofs.Ytfkeedeiafegiaa.Wl
set_option linter.unusedVariables false
set_option linter.unusedSimpArgs false
open Go.RowKit

theorem rtr_one {l : List Rec} (h : ∀ r ∈ l, ok r) : rtr l 1 = (trs l).map grp := by
  unfold rtr
  rw [List.filter_eq_self.2]
  intro p hp
  obtain ⟨_, q, h2, _, h4⟩ := trs_k l p hp
  have := (h q h2).2.2.1
  rw [h4] at this
  exact decide_eq_true this
theorem rtr_com {l : List Rec} (h : ∀ r ∈ l, ok r) : ((rtr l 1).map fun g => g.take (g.length - 1)).flatten = com l := by
  rw [rtr_one h, List.map_map]
  unfold com
  congr 1
  apply List.map_congr_left
  intro p _
  show (grp p).take ((grp p).length - 1) = p.2
  unfold grp
  rw [List.length_append, List.length_singleton, Nat.add_sub_cancel, List.take_left]
theorem rtr_size {l : List Rec} {f : Int} : (rtr l f).length ≤ l.length ∧ ∀ g ∈ rtr l f, 1 ≤ g.length ∧ g.length ≤ l.length + 1 := by
  have hs := sts_le l
  refine ⟨?_, fun g hg => ?_⟩
  · unfold rtr
    rw [List.length_map]
    exact Nat.le_trans (List.length_filter_le _ _) hs.2.1
  · unfold rtr at hg
    obtain ⟨p, hp, rfl⟩ := List.mem_map.1 hg
    have := hs.2.2 p (List.mem_filter.1 hp).1
    unfold grp
    rw [List.length_append, List.length_singleton]
    omega
theorem rd_small (b : List UInt8) : (rd b).length * 21 ≤ b.length := by
  have h1 := encs_ge (rd b)
  have h2 := glen_le b
  unfold glen at h2
  omega
set_option maxHeartbeats 1600000 in
theorem rCommitted_any {A : Option Addr} {n c : Nat} {b : List UInt8} (w : World) (hl : Hid (n = b.length)) (h : Hid (Rd w 1 A n c (bv b))) (hn : n ≤ 1048576) :
    Calls Try.prog 25 #[.slice A n c] w fun e w' => ∃ A1 n1 c1 l, e = .returned (.slice A1 n1 c1) ∧ Rr w' A1 n1 c1 l ∧ l.map RV.r = com (rd b) ∧ Below w.heap.size w w' := by
  obtain ⟨i0, hi, hz0, hz1, hz2⟩ := info_parts info_rec
  have hsm := rd_small b
  go_enter Try.func25, Try.ntmps25
  go_wp2_with fail
  go_at_call 20
  refine (rRead_any _ hl h (by omega)).mono ?_
  rintro e w1 ⟨A1, n1, c1, lr, rfl, hlr, rs, b1⟩
  have S1 := Lib.hid rs.rr
  have HLR := Lib.hid hlr
  have hok : Hid (∀ x ∈ lr, ok x.r) := Lib.hid fun x hx => rd_mem hlr hx
  have hn1 : n1 ≤ 49933 := by have h1 := congrArg List.length hlr; rw [List.length_map] at h1; have h2 := rs.len; have := hl.out; omega
  have zw := b1.size
  clear rs hlr hsm
  go_wp2_with fail
  go_at_call 54
  refine (rTransactions_any 1 _ S1 hok (by omega)).mono ?_
  rintro e w2 ⟨A2, n2, c2, out, rfl, tq, ho, hn2, b2⟩
  have TQ := Lib.hid tq
  have HO : Hid (out.map (fun g => g.l.map RV.r) = rtr (rd b) 1) := Lib.hid (by rw [ho, HLR.out])
  have bw2 := b1.trans (b2.mono zw)
  have hg1 : Hid (∀ x ∈ out, x.n = x.l.length ∧ 1 ≤ x.n ∧ x.n ≤ 49934) := Lib.hid fun x hx => by
    have h1 : x.l.map RV.r ∈ rtr (rd b) 1 := HO.out ▸ List.mem_map_of_mem (f := fun g : GV => g.l.map RV.r) hx
    have h2 := (rtr_size (l := rd b) (f := 1)).2 _ h1
    rw [List.length_map] at h2
    have h3 := len3 (Rd.of_own (tq.dat x hx))
    have h4 := rd_small b
    have := hl.out
    omega
  have z2 := b2.size
  have hnc := (Rd.of_own tq.row).nc
  have hc63 := (Rd.of_own tq.row).c63
  clear tq ho
  go_wp2_with fail
  go_loopw [6, 7] (fun v iv wr => ∃ (j : Nat) (Ao : Option Addr) (no co : Nat) (ol : List RV), j ≤ n2 ∧ no ≤ j * 49934 ∧ iv = .int .i64 j ∧ v = .slice Ao no co ∧ Hid (wr.ownsRow w2.heap.size 24 3 (.slice Ao no co) no (cells ol)) ∧ Hid (∀ x ∈ ol, x ∈ lr) ∧
    Hid (ol.map RV.r = ((out.take j).map fun x => (x.l.map RV.r).take ((x.l.map RV.r).length - 1)).flatten) ∧ Below w2.heap.size w2 wr) (fun _ i _ => (n2 - intOf i).toNat)
  case atStart => exact ⟨0, none, 0, 0, [], by omega, by omega, rfl, rfl, Lib.hid (World.ownsRow_nil _ _ _ _), Lib.hid (by simp), Lib.hid rfl, Below.refl _ _⟩
  case round =>
    obtain ⟨j, Ao, no, co, ol, hj, hno, rfl, rfl, own, hol, hom, bw⟩ := hrel
    have zr := bw.size
    by_cases hlt : j < n2
    · obtain ⟨g, x, rfl, hg, hx, hxm, a0⟩ := (TQ.out.below bw).at_ hlt
      obtain ⟨hxl, hx1, hx2⟩ := hg1.out x hxm
      have hrr := (TQ.out.below bw).dat x hxm
      have hsub := TQ.out.sub x hxm
      have HX : Hid (out.take (j + 1) = out.take j ++ [x]) := Lib.hid (by rw [List.take_add_one, hx]; rfl)
      obtain ⟨gA, gn, gc, gl⟩ := x
      dsimp only at a0 hxl hx1 hx2 hrr hsub
      have HXL := Lib.hid hxl
      have gnc := (Rd.of_own hrr).nc
      have gc63 := (Rd.of_own hrr).c63
      have HS := Lib.hid hsub
      have hrd : Hid (Rd wr 3 gA (gn - 1) gc (cells (gl.take (gn - 1)))) := Lib.hid (by
        have := (Rd.of_own hrr).upto (k := gn - 1) (by omega)
        rwa [cells_take] at this)
      obtain ⟨gm, rfl⟩ : ∃ gm, gn = gm + 1 := ⟨gn - 1, by omega⟩
      rw [Nat.add_sub_cancel] at hrd
      have hS := Abv.cells wr
      clear hx hxl hrr hsub
      go_wp2_with fail
      refine wp_region_abv_tail 12 (by kernel_rfl) (by kernel_rfl) ?_
      simp only [List.take_succ_cons, List.take_zero, List.drop_succ_cons, List.drop_zero]
      repeat (go_big_quiet_step (fail))
      refine wpQuiet_nil ?_
      rintro w3 hb3
      have z3 := hb3.size
      have own3 := Lib.hid (own_below own.out hb3)
      have hrd3 := Lib.hid (hrd.out.below hb3)
      have bw3 : Below w2.heap.size w2 w3 := bw.trans (hb3.mono zr)
      refine wpList_app _ rfl (.tmp 21) (.tmp 32) 33 rfl w2.heap.size 24 i0 (.agg #[.int .i64 0, .int .i64 0, .slice none 0 0]) 3 40 Try.underlying33 hi hz0 hz1 hz2 rfl (by omega) (by rfl) own3.out (by rfl) hrd3.out (cells_one _) (by omega) (by omega) (by omega) ?_
      intro A4 c4 w4 own4 g4
      have own5 : Hid (w4.ownsRow w2.heap.size 24 3 (.slice A4 (no + gm) c4) (no + gm) (cells (ol ++ gl.take gm))) := Lib.hid (by rw [cells_app]; exact own4)
      have bw4 : Below w2.heap.size w2 w4 := g4.low bw3 (by omega) (fun q e => (own_blk_le own3.out e).1)
      have hol4 : Hid (∀ x ∈ ol ++ gl.take gm, x ∈ lr) := Lib.hid fun x hx => by
        rcases List.mem_append.1 hx with hx | hx
        · exact hol.out x hx
        · exact HS.out x (List.mem_of_mem_take hx)
      have hom4 : Hid ((ol ++ gl.take gm).map RV.r = ((out.take (j + 1)).map fun x => (x.l.map RV.r).take ((x.l.map RV.r).length - 1)).flatten) := Lib.hid (by
        rw [HX.out, List.map_append, List.map_append, List.flatten_append, hom.out]
        congr 1
        rw [List.map_cons, List.map_nil, List.flatten_cons, List.flatten_nil, List.append_nil, List.length_map, List.map_take]
        show _ = List.take (gl.length - 1) _
        rw [← HXL.out, Nat.add_sub_cancel])
      clear own4 g4
      go_wp2_with fail
      go_roundw
      case rel => exact ⟨j + 1, A4, no + gm, c4, _, by omega, by omega, by go_num, rfl, own5, hol4, hom4, bw4⟩
      case measure => simp [intOf]; omega
    · obtain rfl : j = n2 := by omega
      have hF : Hid (ol.map RV.r = com (rd b)) := Lib.hid (by
        rw [hom.out, List.take_of_length_le (by have := TQ.out.len; omega), ← rtr_com (rd_ok b), ← HO.out, List.map_map]; rfl)
      have hrr : Hid (Rr wr Ao no co ol) := Lib.hid ⟨Rd.of_own own.out, fun x hx => ((S1.out.dat x (hol.out x hx)).below b2).below bw⟩
      have bF := bw2.trans (bw.mono bw2.size)
      go_wp2_with fail
      go_ret
      exact ⟨Ao, no, co, ol, rfl, hrr.out, hF.out, bF⟩
/-- What has been written after j groups. -/
def rtT (out : List GV) (j : Nat) : List Rec := ((out.take j).map (fun x => x.l.map RV.r)).flatten
theorem rtT_le (out : List GV) (j : Nat) : (encs (rtT out j)).length ≤ (encs (out.map fun x => x.l.map RV.r).flatten).length := by
  have h : (out.map fun x => x.l.map RV.r).flatten = rtT out j ++ ((out.drop j).map fun x => x.l.map RV.r).flatten := by
    unfold rtT
    rw [← List.flatten_append, ← List.map_append, List.take_append_drop]
  rw [h, encs_len_app]; omega
theorem rCompact_bad {A : Option Addr} {n c : Nat} (f : Int) (w : World) (hf : f < 1) : Calls Try.prog 33 #[.slice A n c, .int .i64 f] w (Er w 2) := by
  go_enter Try.func33, Try.ntmps33
  go_wp2_with fail
  go_ret2
  exact ⟨rfl, Below.refl _ _⟩
set_option maxHeartbeats 1600000 in
theorem rCompact_ok {A : Option Addr} {n c : Nat} {b : List UInt8} (f : Int) (w : World) (hl : Hid (n = b.length)) (h : Hid (Rd w 1 A n c (bv b))) (hn : n ≤ 1048576) (hf : 1 ≤ f) (f2 : f ≤ 9223372036854775807) :
    Calls Try.prog 33 #[.slice A n c, .int .i64 f] w (Co w b f) := by
  obtain ⟨i0, hi, hz0, hz1, hz2⟩ := info_parts info_u8
  have hsm := rd_small b
  go_enter Try.func33, Try.ntmps33
  go_wp2_with fail
  go_at_call 20
  refine (rRead_any _ hl h (by omega)).mono ?_
  rintro e w1 ⟨A1, n1, c1, lr, rfl, hlr, rs, b1⟩
  have S1 := Lib.hid rs.rr
  have HLR := Lib.hid hlr
  have hok : Hid (∀ x ∈ lr, ok x.r) := Lib.hid fun x hx => rd_mem hlr hx
  have hn1 : n1 ≤ 49933 := by have h1 := congrArg List.length hlr; rw [List.length_map] at h1; have h2 := rs.len; have := hl.out; omega
  have zw := b1.size
  clear rs hlr hsm
  go_wp2_with fail
  go_at_call 54
  refine (rTransactions_any f _ S1 hok (by omega)).mono ?_
  rintro e w2 ⟨A2, n2, c2, out, rfl, tq, ho, hn2, b2⟩
  have TQ := Lib.hid tq
  have HO : Hid (out.map (fun g => g.l.map RV.r) = rtr (rd b) f) := Lib.hid (by rw [ho, HLR.out])
  have bw2 := b1.trans (b2.mono zw)
  have hg1 : Hid (∀ x ∈ out, x.n = x.l.length ∧ x.n ≤ 49934) := Lib.hid fun x hx => by
    have h1 : x.l.map RV.r ∈ rtr (rd b) f := HO.out ▸ List.mem_map_of_mem (f := fun g : GV => g.l.map RV.r) hx
    have h2 := (rtr_size (l := rd b) (f := f)).2 _ h1
    rw [List.length_map] at h2
    have h3 := len3 (Rd.of_own (tq.dat x hx))
    have h4 := rd_small b
    have := hl.out
    omega
  have hsz : Hid (∀ j, (encs (rtT out j)).length ≤ n) := Lib.hid fun j => by
    have h1 := rtT_le out j
    rw [HO.out, rtr_cmp] at h1
    have h2 := cmp_len (rd b) f (rd_ok b)
    have h3 := glen_le b
    unfold glen at h3
    have := hl.out
    omega
  have z2 := b2.size
  have hnc := (Rd.of_own tq.row).nc
  have hc63 := (Rd.of_own tq.row).c63
  clear tq ho
  go_wp2_with fail
  go_loopw [9, 10] (fun v iv wr => ∃ (j : Nat) (Ao : Option Addr) (no co : Nat), j ≤ n2 ∧ no ≤ n ∧ iv = .int .i64 j ∧ v = .slice Ao no co ∧ Hid (no = (encs (rtT out j)).length) ∧ Hid (wr.ownsRow w2.heap.size 5 1 (.slice Ao no co) no (bv (encs (rtT out j)))) ∧ Below w2.heap.size w2 wr) (fun _ i _ => (n2 - intOf i).toNat)
  case atStart => exact ⟨0, none, 0, 0, by omega, by omega, rfl, rfl, Lib.hid rfl, Lib.hid (World.ownsRow_nil _ _ _ _), Below.refl _ _⟩
  case round =>
    obtain ⟨j, Ao, no, co, hj, hno, rfl, rfl, hnl, own, bw⟩ := hrel
    have zr := bw.size
    by_cases hlt : j < n2
    · obtain ⟨g, x, rfl, hg, hx, hxm, a0⟩ := (TQ.out.below bw).at_ hlt
      obtain ⟨hxl, hx2⟩ := hg1.out x hxm
      have HXM := Lib.hid hxm
      have hHX : Hid (rtT out (j + 1) = rtT out j ++ x.l.map RV.r) := Lib.hid (by unfold rtT; rw [List.take_add_one, hx, List.map_append, List.flatten_append]; simp)
      have hrw : Hid (∀ W : World, Below w2.heap.size w2 W → Rr W x.A x.n x.c x.l) := Lib.hid fun W hW => (TQ.out.below hW).rr S1.out (b2.trans (hW.mono z2)) hxm
      have hg2 : g < w2.heap.size := by
        have := (own_blk_le (g := g) TQ.out.row rfl).2; exact this
      have a0' : w2.cell? ⟨g, j, none⟩ = some (.slice x.A x.n x.c) := (bw.cell (p := ⟨g, j, none⟩) hg2).symm.trans a0
      have HOK : Hid (∀ y ∈ x.l, ok y.r) := Lib.hid fun y hy => hok.out y (TQ.out.sub x hxm y hy)
      obtain ⟨gA, gn, gc, gl⟩ := x
      dsimp only at a0 a0' hxl hx2 hHX hrw HOK
      have HXL := Lib.hid hxl
      have gnc := (hrw.out _ (Below.refl _ _)).row.nc
      have gc63 := (hrw.out _ (Below.refl _ _)).row.c63
      clear hx hxl hxm a0
      go_wp2_with fail
      go_loopw [9, 11] (fun v iv wr => ∃ (k : Nat) (Ai : Option Addr) (ni ci : Nat), k ≤ gn ∧ ni ≤ n ∧ iv = .int .i64 k ∧ v = .slice Ai ni ci ∧ Hid (ni = (encs (rtT out j ++ (gl.take k).map RV.r)).length) ∧ Hid (wr.ownsRow w2.heap.size 5 1 (.slice Ai ni ci) ni (bv (encs (rtT out j ++ (gl.take k).map RV.r)))) ∧ Below w2.heap.size w2 wr) (fun _ i _ => (gn - intOf i).toNat)
      case atStart => exact ⟨0, Ao, no, co, by omega, hno, rfl, rfl, Lib.hid (by simpa using hnl.out), Lib.hid (by simpa using own.out), bw⟩
      case round =>
        obtain ⟨k, Ai, ni, ci, hk, hni, rfl, rfl, hil, iown, ibw⟩ := hrel
        have zib := ibw.size
        have a1 : wr.cell? ⟨g, j, none⟩ = some (.slice gA gn gc) := (ibw.cell (p := ⟨g, j, none⟩) hg2).trans a0'
        have hgr : g < wr.heap.size := by omega
        by_cases hkt : k < gn
        · obtain ⟨q, o, y, rfl, hq, hy, hym, y0, y1, y2⟩ := (hrw.out _ ibw).rec_ hkt
          have hyo := HOK.out y hym
          have HXX := Lib.hid (take_map hy)
          obtain ⟨ny, hny⟩ : ∃ ny, y.d.length = ny := ⟨_, rfl⟩
          have dy := Lib.hid ((hrw.out _ ibw).dat y hym)
          have hv : okV y.k y.t ny = true := by rw [← hny]; exact ((ok_iff y.r).1 hyo).2
          have ht : y.t ≤ 9223372036854775807 := ok_t hyo
          have hm4 : ny ≤ 4096 := by rw [← hny]; exact ok_len hyo
          have HI : Hid (ni + (21 + ny) = (encs (rtT out j ++ (gl.take (k + 1)).map RV.r)).length) := Lib.hid (by
            rw [HXX.out, ← List.append_assoc, encs_snoc, List.length_append, enc_len, ← hil.out, ← hny]; rfl)
          have HE : Hid (encs (rtT out j ++ (gl.take (k + 1)).map RV.r) = encs (rtT out j ++ (gl.take k).map RV.r) ++ enc y.r) := Lib.hid (by
            rw [HXX.out, ← List.append_assoc, encs_snoc])
          have hni2 : ni + (21 + ny) ≤ n := by
            rw [HI.out]
            have h1 := hsz.out (j + 1)
            rw [hHX.out] at h1
            have h2 : gl.map RV.r = (gl.take (k + 1)).map RV.r ++ (gl.drop (k + 1)).map RV.r := by rw [← List.map_append, List.take_append_drop]
            rw [h2, ← List.append_assoc, encs_len_app] at h1
            omega
          rw [hny] at y2 dy
          have HV := Lib.hid hv
          clear hny hy hyo hv
          go_wp2_with fail
          go_at_call 15
          refine (rEncode_ok y.k y.t _ dy HV.out ht).mono ?_
          rintro e w3 ⟨A3, c3, rfl, own3, b3⟩
          have iown3 := Lib.hid (own_below iown.out b3)
          have bw3 := ibw.trans (b3.mono zib)
          have z3 := bw3.size
          have rd3 := Lib.hid (Rd.of_own own3)
          clear own3 b3 y0 y1 y2
          go_wp2_with (at_builtin; refine wpList_app _ rfl (.tmp 50) (.tmp 51) 22 rfl w2.heap.size 5 i0 (.int .u8 0) 1 1 Try.underlying22 hi hz0 hz1 hz2 rfl (by omega) (by rfl) iown3.out (by rfl) rd3.out (bv_one _) (by omega) (by omega) z3 ?_; intro A4 c4 w4 own4 g4)
          have own5 : Hid (w4.ownsRow w2.heap.size 5 1 (.slice A4 (ni + (21 + ny)) c4) (ni + (21 + ny)) (bv (encs (rtT out j ++ (gl.take (k + 1)).map RV.r)))) := Lib.hid (by rw [HE.out, bv_app]; exact own4)
          have bw4 : Below w2.heap.size w2 w4 := g4.low bw3 (by omega) (fun q e => (own_blk_le iown3.out e).1)
          clear own4 g4
          go_roundw
          case rel => exact ⟨k + 1, A4, ni + (21 + ny), c4, by omega, hni2, by go_num, rfl, HI, own5, bw4⟩
          case measure => simp [intOf]; omega
        · obtain rfl : k = gn := by omega
          have hGT : Hid (rtT out j ++ (gl.take k).map RV.r = rtT out (j + 1)) := Lib.hid (by
            rw [hHX.out, List.take_of_length_le (by have := HXL.out; omega)])
          rw [hGT.out] at hil iown
          go_wp2_with fail
          go_roundw
          case rel => exact ⟨j + 1, Ai, ni, ci, by omega, hni, by go_num, rfl, hil, iown, ibw⟩
          case measure => simp [intOf]; omega
    · obtain rfl : j = n2 := by omega
      have hF : Hid (rtT out j = cmp (rd b) f) := Lib.hid (by
        unfold rtT; rw [List.take_of_length_le (by have := TQ.out.len; omega), HO.out]; rfl)
      rw [hF.out] at hnl own
      have own2 := Lib.hid (own_base own.out (base' := w.heap.size) (by omega))
      have bF := bw2.trans (bw.mono bw2.size)
      go_wp2_with fail
      go_ret2
      exact ⟨Ao, no, co, rfl, hnl.out, own2.out, bF⟩
end Go.Proofs.Ytfkeedeiafegiaa.Wl
