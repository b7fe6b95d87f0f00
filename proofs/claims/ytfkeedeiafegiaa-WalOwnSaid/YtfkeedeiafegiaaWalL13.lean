/- The law: WalOwn. -/
import Derived.Test.YtfkeedeiafegiaaWalL12
import Derived.Deep.RegionHeld3
import Derived.Deep.DrawnRows
namespace Go.Proofs.Ytfkeedeiafegiaa.Wl
set_option linter.unusedVariables false
set_option linter.unusedSimpArgs false
open Go.RowKit

theorem cutN_self (n : Nat) : cutN (n : Int) n = n := by unfold cutN; split; omega; split <;> omega
theorem inc8 (y : UInt8) : ((y.toNat : Int) + 1) % 256 = ((y + 1 : UInt8).toNat : Int) := by
  have : (y + 1 : UInt8).toNat = (y.toNat + 1) % 256 := by simp [UInt8.toNat_add]
  rw [this]; omega
set_option maxRecDepth 20000 in
set_option maxHeartbeats 3200000 in
theorem WalOwn_walk (A : Option Addr) (n c : Nat) (l : List RV) (k t : Int) (C : Option Addr) (n2 c2 : Nat) (dat : List UInt8) (w : World) (h : Hid (Rr w A n c l)) (hf : Hid (Fit l))
    (t2 : t ≤ 9223372036854775807) (hd : Hid (Rd w 1 C n2 c2 (bv dat))) :
    Calls Try.prog 10 #[.slice A n c, .agg #[.int .i64 k, .int .i64 t, .slice C n2 c2]] w fun e w' => e = .returned (.bool true) ∧ Below w.heap.size w w' := by
  obtain ⟨i0, hi, hz0, hz1, hz2⟩ := info_parts info_u8
  obtain ⟨W0, hW0⟩ : ∃ W0, w.alloc (.cells #[.int .i64 k, .int .i64 t, .slice C n2 c2] 24) = W0 := ⟨_, rfl⟩
  obtain ⟨y0, y1, y2⟩ := box3 w (.int .i64 k) (.int .i64 t) (.slice C n2 c2) 24
  rw [hW0] at y0 y1 y2
  have bw0 : Below w.heap.size w W0 := hW0 ▸ (Below.refl _ _).alloc (Nat.le_refl _) _
  have hp : w.heap.size < W0.heap.size := by rw [← hW0]; simp
  have h0 := Lib.hid (h.out.below bw0)
  have d0 := Lib.hid (hd.out.below bw0)
  have KE : Hid (∀ U, Below W0.heap.size W0 U → U.cell? ⟨w.heap.size, 0, none⟩ = some (.int .i64 k) ∧ U.cell? ⟨w.heap.size, 1, none⟩ = some (.int .i64 t) ∧ U.cell? ⟨w.heap.size, 2, none⟩ = some (.slice C n2 c2)) :=
    Lib.hid fun U hU => ⟨(hU.cell (p := ⟨w.heap.size, 0, none⟩) hp).trans y0, (hU.cell (p := ⟨w.heap.size, 1, none⟩) hp).trans y1, (hU.cell (p := ⟨w.heap.size, 2, none⟩) hp).trans y2⟩
  have HW0 := Lib.hid hW0
  have hdl : Hid (n2 = dat.length) := Lib.hid (by have := hd.out.len; rw [bv_len] at this; omega)
  clear y0 y1 y2 hW0
  go_enter Try.func10, Try.ntmps10
  go_wp2_with fail
  rw [HW0.out]
  go_at_call 13
  refine (awake_any _).mono ?_
  rintro e w1 ⟨rfl, b1⟩
  have h1 := Lib.hid (h0.out.below b1)
  have d1 := Lib.hid (d0.out.below b1)
  go_wp2_with fail
  go_at_call 17
  refine (great_any _ h1).mono ?_
  rintro e w2 ⟨rfl, b2⟩
  have h2 := Lib.hid (h1.out.below b2)
  have d2 := Lib.hid (d1.out.below b2)
  have v2 := b1.trans (b2.mono b1.size)
  clear b1 b2 h1 d1
  rcases hg : greatB l with _ | _
  · have hgr := greatB_f hg
    have h40 : n ≤ 40 := by rw [h.out.len]; exact hgr.1
    have h5 := Lib.hid hgr.2
    have hll := log_le hg
    have HGB := Lib.hid hg
    clear hg hgr
    obtain ⟨z0, z1, z2⟩ := KE.out _ v2
    go_wp2_with fail
    obtain ⟨w3, hw3⟩ : ∃ w3, w2.alloc (.cells #[.int .i64 k, .int .i64 t, .slice C n2 c2] 24) = w3 := ⟨_, rfl⟩
    have b3 : Below w2.heap.size w2 w3 := hw3 ▸ (Below.refl _ _).alloc (Nat.le_refl _) _
    have r3 : Hid (Rr w3 (some ⟨w2.heap.size, 0, none⟩) 1 1 [⟨k, t, C, c2, dat⟩]) := Lib.hid (hw3 ▸ Rr.lit #[.int .i64 k, .int .i64 t, .slice C n2 c2] 1 rfl (by omega) rfl (by rw [hdl.out]; rfl) (by
      intro y hy
      obtain rfl : y = _ := by simpa using hy
      show Rd w2 1 C dat.length c2 _
      rw [← hdl.out]; exact d2.out))
    have HW3 := Lib.hid hw3
    have v3 := v2.trans (b3.mono v2.size)
    have h3 := Lib.hid (h2.out.below b3)
    have d3 := Lib.hid (d2.out.below b3)
    clear hw3 b3 z0 z1 z2 h2 d2 v2
    rw [HW3.out]
    go_at_call 17
    refine (great_any _ r3).mono ?_
    rintro e w4 ⟨rfl, b4⟩
    have h4 := Lib.hid (h3.out.below b4)
    have d4 := Lib.hid (d3.out.below b4)
    have v4 := v3.trans (b4.mono v3.size)
    have bw4 := bw0.trans (v4.mono bw0.size)
    clear b4 h3 d3 v3 r3
    rcases hg2 : greatB [⟨k, t, C, c2, dat⟩] with _ | _
    · have hn5 : n2 ≤ 5000 := by have := (greatB_f hg2).2 _ (List.mem_singleton.2 rfl); rw [hdl.out]; exact this
      clear hg2
      go_wp2_with fail
      go_at_call 18
      refine (log_any _ h4 hf h40 h5).mono ?_
      obtain ⟨b, hb⟩ : ∃ b, encs (vals l) = b := ⟨_, rfl⟩
      rw [hb] at hll ⊢
      obtain ⟨q, hq⟩ : ∃ q, b.length = q := ⟨_, rfl⟩
      rw [hq] at hll ⊢
      have HQ : Hid (q = b.length) := Lib.hid hq.symm
      clear hq hb
      rintro e w5 ⟨A5, c5, rfl, own5, b5⟩
      have v5 := v4.trans (b5.mono v4.size)
      have d5 := Lib.hid (d4.out.below b5)
      have B5 := Lib.hid (Rd.of_own own5)
      have zz5 := v5.size
      clear own5 b5 d4 v4 bw4 h4
      go_wp2_with (first
        | (refine wpList_make_own _ rfl _ _ 22 rfl w5.heap.size 5 i0 (.int .u8 0) 1 Try.underlying22 hi hz0 hz1 .i64 .i64 _ (q + 10000) (by rfl) (by rfl) (by omega) (by rw [hz2]; omega) (by unfold maxLen; omega) (Nat.le_refl _) ?_; intro w6 own6 g6; have b6 : Below w5.heap.size w5 w6 := Below.grown (Below.refl _ _) g6 (Nat.le_refl _) (fun k e => by cases e); have B6 := B5.out.below b6)
        | (at_builtin; refine wpList_app _ rfl (.tmp 34) (.tmp 35) 22 rfl w5.heap.size 5 i0 (.int .u8 0) 1 1 Try.underlying22 hi hz0 hz1 hz2 rfl (by omega) (by rfl) own6 (by rfl) B6 (bv_one _) (by omega) (by omega) b6.size ?_; intro A7 c7 w7 own7 g7; have b57 := g7.low b6 b6.size (fun g e => (own_blk_le own6 e).1); have v7 := v5.trans (b57.mono v5.size); obtain ⟨z0, z1, z2⟩ := KE.out _ v7))
      rw [Nat.zero_add, List.nil_append] at own7
      have S7 := Lib.hid (Rd.of_own own7)
      have B7 := Lib.hid (B5.out.below b57)
      have d7 := Lib.hid (d5.out.below b57)
      clear own7 own6 g6 g7 b57 B5 B6 d5 v5 b6
      refine (bclone_any _ d7 (by omega)).mono ?_
      rintro e w8 ⟨A8, c8, rfl, own8, b8⟩
      have v8 := v7.trans (b8.mono v7.size)
      have S8 := Lib.hid (S7.out.below b8)
      have B8 := Lib.hid (B7.out.below b8)
      have d8 := Lib.hid (d7.out.below b8)
      have e8 := Lib.hid (Rd.of_own own8)
      clear own8 b8 S7 B7 d7 v7 z0 z1 z2
      obtain ⟨z0, z1, z2⟩ := KE.out _ v8
      go_wp2_with fail
      go_at_call 22
      refine (Append_any k t _ HQ S8 (by omega) hdl d8 t2).mono ?_
      rintro e w9 ⟨A9, n9, c9, rfl, own9, b9⟩
      have v9 := v8.trans (b9.mono v8.size)
      have S9 := Lib.hid (S8.out.below b9)
      have B9 := Lib.hid (B8.out.below b9)
      have d9 := Lib.hid (d8.out.below b9)
      have e9 := Lib.hid (e8.out.below b9)
      have x9 := Lib.hid (Rd.of_own own9)
      obtain ⟨er, her⟩ : ∃ er, aerr b ⟨k, t, dat⟩ = er := ⟨_, rfl⟩
      rw [her]
      have HER := Lib.hid her
      clear her own9 b9 S8 B8 d8 e8 v8 z0 z1 z2
      go_wp2_with fail
      go_at_call 30
      refine (commit_any 7 _).mono ?_
      rintro e w10 ⟨rfl, b10⟩
      have v10 := v9.trans (b10.mono v9.size)
      have S10 := Lib.hid (S9.out.below b10)
      have B10 := Lib.hid (B9.out.below b10)
      have d10 := Lib.hid (d9.out.below b10)
      have e10 := Lib.hid (e9.out.below b10)
      have x10 := Lib.hid (x9.out.below b10)
      clear b10 S9 B9 d9 e9 x9 v9
      go_wp2_with fail
      go_at_call 22
      refine (Append_any (data := []) 3 7 _ HQ S10 (by omega) (Lib.hid rfl) (Lib.hid (Rd.nil_ _ _)) (by omega)).mono ?_
      rintro e w11 ⟨A11, n11, c11, rfl, own11, b11⟩
      have v11 := v10.trans (b11.mono v10.size)
      have S11 := Lib.hid (S10.out.below b11)
      have B11 := Lib.hid (B10.out.below b11)
      have d11 := Lib.hid (d10.out.below b11)
      have e11 := Lib.hid (e10.out.below b11)
      have x11 := Lib.hid (x10.out.below b11)
      have y11 := Lib.hid (Rd.of_own own11)
      obtain ⟨es, hes⟩ : ∃ es, aerr b ⟨3, 7, []⟩ = es := ⟨_, rfl⟩
      rw [hes]
      have HES := Lib.hid hes
      clear hes own11 b11 S10 B10 d10 e10 x10 v10
      go_wp2_with fail
      go_at_call 19
      refine (Read_any _ HQ S11 (by omega)).mono ?_
      rintro e w12 ⟨A12, n12, c12, l12, rfl, hl12, rs12, b12⟩
      have RS := Lib.hid rs12
      have rlen := rs12.len
      have rnc := rs12.rr.row.nc
      have rc63 := rs12.rr.row.c63
      have RLEN := Lib.hid rlen
      have OB : Hid (∀ x ∈ l12, Ob w12 w11.heap.size x.A x.d.length x.c) := Lib.hid fun x hx => ⟨x.d, rs12.dat x hx⟩
      clear rs12 hl12 rlen
      have zz11 := v11.size
      go_wp2_with fail
      go_loopw [59] (fun iv wr => ∃ j : Nat, j ≤ n12 ∧ iv = .int .i64 j ∧ Hid (wr.ownsRow w11.heap.size 24 3 (.slice A12 n12 c12) n12 (cells l12)) ∧ Hid (∀ x ∈ l12, Ob wr w11.heap.size x.A x.d.length x.c) ∧ Below w11.heap.size w11 wr) (fun iv _ => (n12 - intOf iv).toNat)
      case atStart => exact ⟨0, by omega, rfl, Lib.hid RS.out.row, OB, b12⟩
      case round =>
        clear RS OB b12
        obtain ⟨j, hj, rfl, row, ob, bw⟩ := hrel
        have zr := bw.size
        by_cases hlt : j < n12
        · obtain ⟨g, rfl, _, _⟩ := own_pos row.out (by omega)
          obtain ⟨x, hx⟩ : ∃ x, l12[j]? = some x := ⟨_, List.getElem?_eq_getElem (by have := RLEN.out; omega)⟩
          obtain ⟨a0, a1, a2⟩ := own_at3 row.out hx
          have hxm := List.mem_of_getElem? hx
          obtain ⟨nx, hnx⟩ : ∃ nx, x.d.length = nx := ⟨_, rfl⟩
          obtain ⟨onc, oc63⟩ := (ob.out x hxm).nc
          rw [hnx] at a2 onc
          have HX := Lib.hid hx
          have HXM := Lib.hid hxm
          have HNX := Lib.hid hnx
          clear hx hxm hnx
          go_wp2_with fail
          go_loopw [68] (fun iv wr => ∃ kk : Nat, kk ≤ nx ∧ iv = .int .i64 kk ∧ Hid (wr.ownsRow w11.heap.size 24 3 (.slice (some ⟨g, 0, none⟩) n12 c12) n12 (cells l12)) ∧ Hid (∀ x ∈ l12, Ob wr w11.heap.size x.A x.d.length x.c) ∧ Below w11.heap.size w11 wr) (fun iv _ => (nx - intOf iv).toNat)
          case atStart => exact ⟨0, by omega, rfl, row, ob, bw⟩
          case round =>
            clear row ob bw a0 a1 a2 zr
            obtain ⟨kk, hkk, rfl, row, ob, bw⟩ := hrel
            have zr := bw.size
            by_cases hkt : kk < nx
            · obtain ⟨a0, a1, a2⟩ := own_at3 row.out HX.out
              rw [HNX.out] at a2
              have hob := ob.out x HXM.out
              rw [HNX.out] at hob
              obtain ⟨g', y, hA, hg1, hg2, cy, fy⟩ := hob.at_ hkt
              rw [hA] at a2 hob
              have HOB := Lib.hid hob
              clear hA hob
              go_wp2_with fail
              rw [inc8]
              exact ⟨⟨kk + 1, by omega, rfl, Lib.hid (row_set row.out HOB.out kk _), Lib.hid fun u hu => (ob.out u hu).set g' kk (y + 1), bw.setCell (by show w11.heap.size ≤ g'; exact hg1) _⟩, by simp [intOf]; omega⟩
            · obtain rfl : kk = nx := by omega
              go_wp2_with fail
              go_roundw
              case rel => exact ⟨j + 1, by omega, by go_num, row, ob, bw⟩
              case measure => simp [intOf]; omega
        · obtain rfl : j = n12 := by omega
          have v13 := v11.trans (bw.mono zz11)
          have S13 := Lib.hid (S11.out.below bw)
          have B13 := Lib.hid (B11.out.below bw)
          have d13 := Lib.hid (d11.out.below bw)
          have e13 := Lib.hid (e11.out.below bw)
          have x13 := Lib.hid (x11.out.below bw)
          have y13 := Lib.hid (y11.out.below bw)
          have zz13 := v13.size
          clear row ob bw zr S11 B11 d11 e11 x11 y11 RLEN v11
          obtain ⟨w13, rfl⟩ : ∃ u, u = wr := ⟨_, rfl⟩
          go_wp2_with fail
          go_at_call 26
          refine (Cut_any (q : Int) _ HQ S13 (by omega) (by omega) (by omega)).mono ?_
          rintro e w14 ⟨A14, c14, rfl, own14, b14⟩
          rw [cutN_self] at own14 ⊢
          have OB : Hid (Ob w14 w13.heap.size A14 q c14) := Lib.hid ⟨_, own14⟩
          obtain ⟨onc, oc63⟩ := OB.out.nc
          clear own14
          go_wp2_with fail
          go_loopw [89] (fun iv wq => ∃ j : Nat, j ≤ q ∧ iv = .int .i64 j ∧ Hid (Ob wq w13.heap.size A14 q c14) ∧ Below w13.heap.size w13 wq) (fun iv _ => (q - intOf iv).toNat)
          case atStart => exact ⟨0, by omega, rfl, OB, b14⟩
          case round =>
            clear OB b14
            obtain ⟨j, hj, rfl, ob, bw⟩ := hrel
            have zr := bw.size
            by_cases hlt : j < q
            · obtain ⟨g', y, rfl, hg1, hg2, cy, fy⟩ := ob.out.at_ hlt
              go_wp2_with fail
              rw [inc8]
              exact ⟨⟨j + 1, by omega, rfl, Lib.hid (ob.out.set g' j (y + 1)), bw.setCell (by show w13.heap.size ≤ g'; exact hg1) _⟩, by simp [intOf]; omega⟩
            · obtain rfl : q = j := by omega
              have v15 := v13.trans (bw.mono zz13)
              have S15 := Lib.hid (S13.out.below bw)
              have B15 := Lib.hid (B13.out.below bw)
              have d15 := Lib.hid (d13.out.below bw)
              have e15 := Lib.hid (e13.out.below bw)
              have x15 := Lib.hid (x13.out.below bw)
              have y15 := Lib.hid (y13.out.below bw)
              have bF := bw0.trans (v15.mono bw0.size)
              clear ob bw S13 B13 d13 e13 x13 y13 v13 zr onc oc63
              obtain ⟨w15, rfl⟩ : ∃ u, u = wr := ⟨_, rfl⟩
              have EX : Hid (er = 0 → eqB ((aout b ⟨k, t, dat⟩).take b.length) b = true) := Lib.hid fun h0 => aout_pre (by rw [HER.out]; exact h0)
              have EY : Hid (es = 0 → eqB ((aout b ⟨3, 7, []⟩).take b.length) b = true) := Lib.hid fun h0 => aout_pre (by rw [HES.out]; exact h0)
              have dsame : eqB dat dat = true := eqB_self _
              have her0 : er = 0 ∨ (er == 0) = false := by by_cases h0 : er = 0; exact .inl h0; exact .inr (by simpa using h0)
              have hes0 : es = 0 ∨ (es == 0) = false := by by_cases h0 : es = 0; exact .inl h0; exact .inr (by simpa using h0)
              rcases her0 with rfl | he
              · go_wp2_with fail
                go_at_call 31
                refine (HasPrefix_any _ x15 B15).mono ?_
                rintro e w' ⟨rfl, rfl⟩
                rw [EX.out (by first | rfl | trivial)]
                rcases hes0 with rfl | hs
                · go_wp2_with fail
                  go_at_call 31
                  refine (HasPrefix_any _ y15 B15).mono ?_
                  rintro e w' ⟨rfl, rfl⟩
                  rw [EY.out (by first | rfl | trivial)]
                  obtain ⟨z0, z1, z2⟩ := KE.out _ v15
                  have vd := v15.drew
                  have KK : Hid (∀ U, Below W0.heap.size W0 U → U.cell? ⟨w.heap.size, 0, none⟩ = some (.int .i64 k) ∧ U.cell? ⟨w.heap.size, 1, none⟩ = some (.int .i64 t)) := Lib.hid fun U hU => ⟨(KE.out U hU).1, (KE.out U hU).2.1⟩
                  have CL : Hid (∀ U, Below w15.heap.size w15 U → Calls Try.prog 29 #[.slice A5 q c5] U (Mk U q b)) := Lib.hid fun U hU => bclone_any U (Lib.hid (B15.out.below hU)) (by omega)
                  have bd : Below w15.heap.size w15 w15.drew := (Below.refl _ _).drew
                  go_wp2_with fail
                  go_region_held3 (fun w' => w'.cell? ⟨w.heap.size, 0, none⟩ = some (.int .i64 k) ∧ w'.cell? ⟨w.heap.size, 1, none⟩ = some (.int .i64 t))
                    (first | exact kk1 | exact kk2 | exact KK.out _ vd)
                    (first
                      | (go_at_call 29; refine (CL.out _ bd).mono ?_; rintro e w16 ⟨A16, c16, rfl, own16, b16⟩; have v16 := vd.trans (b16.mono vd.size); have kk1 := KK.out _ v16)
                      | (go_at_call 22; refine (Append_any (b := b) k t _ HQ (Lib.hid (Rd.of_own own16)) (by omega) hdl (Lib.hid ((e15.out.below bd).below b16)) t2).mono ?_; rintro e w17 ⟨A17, n17, c17, rfl, own17, b17⟩; rw [HER.out]; have v17 := v16.trans (b17.mono v16.size); have kk2 := KK.out _ v17))
                  have bb := (bd.trans (b16.mono bd.size)).trans (b17.mono (Nat.le_trans bd.size b16.size))
                  have S17 := Lib.hid (S15.out.below bb)
                  have B17 := Lib.hid (B15.out.below bb)
                  have d17 := Lib.hid (d15.out.below bb)
                  have e17 := Lib.hid (e15.out.below bb)
                  have x17 := Lib.hid (x15.out.below bb)
                  have zz17 := Lib.hid (Rd.of_own own17)
                  have bF7 := bw0.trans (v17.mono bw0.size)
                  clear own16 own17 b16 b17 kk1 kk2 CL KK S15 B15 d15 e15 x15 bb bd z0 z1 z2 vd v16
                  go_wp2_with fail
                  go_at_call 16
                  refine (Equal_any _ x17 zz17).mono ?_
                  rintro e w' ⟨rfl, rfl⟩
                  rw [eqB_self]
                  go_wp2_with fail
                  go_at_call 16
                  refine (Equal_any _ S17 B17).mono ?_
                  rintro e w' ⟨rfl, rfl⟩
                  rw [eqB_self]
                  obtain ⟨z0, z1, z2⟩ := KE.out _ v17
                  go_wp2_with fail
                  go_at_call 16
                  refine (Equal_any _ d17 e17).mono ?_
                  rintro e w' ⟨rfl, rfl⟩
                  rw [eqB_self]
                  go_wp2_with fail
                  go_ret
                  exact ⟨rfl, bF7⟩
                · obtain ⟨z0, z1, z2⟩ := KE.out _ v15
                  have vd := v15.drew
                  have KK : Hid (∀ U, Below W0.heap.size W0 U → U.cell? ⟨w.heap.size, 0, none⟩ = some (.int .i64 k) ∧ U.cell? ⟨w.heap.size, 1, none⟩ = some (.int .i64 t)) := Lib.hid fun U hU => ⟨(KE.out U hU).1, (KE.out U hU).2.1⟩
                  have CL : Hid (∀ U, Below w15.heap.size w15 U → Calls Try.prog 29 #[.slice A5 q c5] U (Mk U q b)) := Lib.hid fun U hU => bclone_any U (Lib.hid (B15.out.below hU)) (by omega)
                  have bd : Below w15.heap.size w15 w15.drew := (Below.refl _ _).drew
                  go_wp2_with fail
                  go_region_held3 (fun w' => w'.cell? ⟨w.heap.size, 0, none⟩ = some (.int .i64 k) ∧ w'.cell? ⟨w.heap.size, 1, none⟩ = some (.int .i64 t))
                    (first | exact kk1 | exact kk2 | exact KK.out _ vd)
                    (first
                      | (go_at_call 29; refine (CL.out _ bd).mono ?_; rintro e w16 ⟨A16, c16, rfl, own16, b16⟩; have v16 := vd.trans (b16.mono vd.size); have kk1 := KK.out _ v16)
                      | (go_at_call 22; refine (Append_any (b := b) k t _ HQ (Lib.hid (Rd.of_own own16)) (by omega) hdl (Lib.hid ((e15.out.below bd).below b16)) t2).mono ?_; rintro e w17 ⟨A17, n17, c17, rfl, own17, b17⟩; rw [HER.out]; have v17 := v16.trans (b17.mono v16.size); have kk2 := KK.out _ v17))
                  have bb := (bd.trans (b16.mono bd.size)).trans (b17.mono (Nat.le_trans bd.size b16.size))
                  have S17 := Lib.hid (S15.out.below bb)
                  have B17 := Lib.hid (B15.out.below bb)
                  have d17 := Lib.hid (d15.out.below bb)
                  have e17 := Lib.hid (e15.out.below bb)
                  have x17 := Lib.hid (x15.out.below bb)
                  have zz17 := Lib.hid (Rd.of_own own17)
                  have bF7 := bw0.trans (v17.mono bw0.size)
                  clear own16 own17 b16 b17 kk1 kk2 CL KK S15 B15 d15 e15 x15 bb bd z0 z1 z2 vd v16
                  go_wp2_with fail
                  go_at_call 16
                  refine (Equal_any _ x17 zz17).mono ?_
                  rintro e w' ⟨rfl, rfl⟩
                  rw [eqB_self]
                  go_wp2_with fail
                  go_at_call 16
                  refine (Equal_any _ S17 B17).mono ?_
                  rintro e w' ⟨rfl, rfl⟩
                  rw [eqB_self]
                  obtain ⟨z0, z1, z2⟩ := KE.out _ v17
                  go_wp2_with fail
                  go_at_call 16
                  refine (Equal_any _ d17 e17).mono ?_
                  rintro e w' ⟨rfl, rfl⟩
                  rw [eqB_self]
                  go_wp2_with fail
                  go_ret
                  exact ⟨rfl, bF7⟩
              · rcases hes0 with rfl | hs
                · go_wp2_with fail
                  go_at_call 31
                  refine (HasPrefix_any _ y15 B15).mono ?_
                  rintro e w' ⟨rfl, rfl⟩
                  rw [EY.out (by first | rfl | trivial)]
                  go_wp2_with fail
                  go_at_call 16
                  refine (Equal_any _ S15 B15).mono ?_
                  rintro e w' ⟨rfl, rfl⟩
                  rw [eqB_self]
                  obtain ⟨z0, z1, z2⟩ := KE.out _ v15
                  go_wp2_with fail
                  go_at_call 16
                  refine (Equal_any _ d15 e15).mono ?_
                  rintro e w' ⟨rfl, rfl⟩
                  rw [eqB_self]
                  go_wp2_with fail
                  go_ret
                  exact ⟨rfl, bF⟩
                · go_wp2_with fail
                  go_at_call 16
                  refine (Equal_any _ S15 B15).mono ?_
                  rintro e w' ⟨rfl, rfl⟩
                  rw [eqB_self]
                  obtain ⟨z0, z1, z2⟩ := KE.out _ v15
                  go_wp2_with fail
                  go_at_call 16
                  refine (Equal_any _ d15 e15).mono ?_
                  rintro e w' ⟨rfl, rfl⟩
                  rw [eqB_self]
                  go_wp2_with fail
                  go_ret
                  exact ⟨rfl, bF⟩
    · go_wp2_with fail
      go_ret
      exact ⟨rfl, bw4⟩
  · have bw2 := bw0.trans (v2.mono bw0.size)
    go_wp2_with fail
    go_ret
    exact ⟨rfl, bw2⟩
end Go.Proofs.Ytfkeedeiafegiaa.Wl
