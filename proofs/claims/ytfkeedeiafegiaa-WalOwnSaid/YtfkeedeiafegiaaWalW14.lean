/- Walk: transactions. -/
import Derived.Test.YtfkeedeiafegiaaWalMem3
import Derived.Test.YtfkeedeiafegiaaWalW13
namespace Go.Proofs.Ytfkeedeiafegiaa.Wl
set_option linter.unusedVariables false
set_option linter.unusedSimpArgs false
open Go.RowKit Go.Maps
attribute [local go_sem ↓] Go.wp_at_zero Go.wp_at_succ

theorem encs_ge (l : List Rec) : l.length * 21 ≤ (encs l).length := by
  induction l with
  | nil => simp [encs]
  | cons r l ih => rw [encs_cons, List.length_append, enc_len, List.length_cons]; omega
theorem rd_len (b : List UInt8) : (rd b).length ≤ b.length := by
  have h1 := encs_ge (rd b)
  have h2 := glen_le b
  unfold glen at h2
  omega
theorem rd_mem {b : List UInt8} {l : List RV} (h : l.map RV.r = rd b) {x : RV} (hx : x ∈ l) : ok x.r := by
  have := rd_ok b x.r (by rw [← h]; exact List.mem_map_of_mem hx)
  exact this
theorem one2 (a b : Value) (h1 : a.oneCell' = true) (h2 : b.oneCell' = true) : ∀ u ∈ (#[a, b] : Array Value).toList, u.oneCell' = true := by
  intro u hu
  simp only [List.mem_cons, List.not_mem_nil, or_false] at hu
  rcases hu with rfl | rfl <;> assumption
theorem info_tx : (Try.prog.info? 73).map (fun i => (i.zero, i.size, i.bytes)) = some (some (.agg #[.int .i64 0, .slice none 0 0]), 2, 32) := by kernel_rfl
set_option maxHeartbeats 1600000 in
theorem transactions_any {A : Option Addr} {n c : Nat} {b : List UInt8} (w : World) (hl : Hid (n = b.length)) (h : Hid (Rd w 1 A n c (bv b))) (hn : n ≤ 1073741824) :
    Calls Try.prog 53 #[.slice A n c] w fun e w' => ∃ A1 n1 c1 out, e = .returned (.slice A1 n1 c1) ∧ Tr w' w.heap.size A1 n1 c1 out ∧ out.map (fun x => (x.tx, x.g.l.map RV.r)) = trs (rd b) ∧ Below w.heap.size w w' := by
  obtain ⟨i0, hi, hz0, hz1, hz2⟩ := info_parts info_rec
  have hmm := @run_makeMap Try.prog
  go_enter Try.func53, Try.ntmps53
  go_wp2_with fail
  go_at_call 19
  refine (Read_any _ hl h hn).mono ?_
  rintro e w1 ⟨A1, n1, c1, l, rfl, hlr, rs, b1⟩
  have RS := Lib.hid rs
  have HLR := Lib.hid hlr
  clear rs hlr
  go_wp2_with fail
  obtain ⟨W1, hW1⟩ : ∃ W1, w1.alloc (.map #[] 0) = W1 := ⟨_, rfl⟩
  have g0 := Lib.hid (hW1 ▸ Gs.made w1 w.heap.size)
  have bw1 : Below w.heap.size w W1 := hW1 ▸ bel_alloc b1 (Nat.le_refl _) _
  have b11 : Below w1.heap.size w1 W1 := hW1 ▸ (Below.refl _ _).alloc (Nat.le_refl _) _
  rw [hW1]
  clear hW1
  have hnc := RS.out.rr.row.nc
  have hc63 := RS.out.rr.row.c63
  have hln : Hid (n1 ≤ 1073741824) := Lib.hid (by
    have h1 := congrArg List.length HLR.out
    rw [List.length_map] at h1
    have h2 := rd_len b
    have h3 := RS.out.len
    have h4 := hl.out
    omega)
  have hn1 := hln.out
  go_loopw [6, 17] (fun v i wr => ∃ (j m : Nat) (G : Int → GV) (Ao : Option Addr) (no co : Nat) (out : List TV), j ≤ n1 ∧ m ≤ j ∧ no ≤ j ∧ i = .int .i64 j ∧ v = .slice Ao no co ∧ Hid (∀ t, (G t).n ≤ j) ∧ Hid (Gs wr w.heap.size w1.heap.size w1.heap.size m G Ao no co out) ∧ Hid (Is G out ((l.take j).map RV.r)) ∧ Below w1.heap.size w1 wr) (fun _ i _ => (n1 - intOf i).toNat)
  case atStart => exact ⟨0, 0, fun _ => GV.nil, none, 0, 0, [], by omega, by omega, by omega, rfl, rfl, Lib.hid fun _ => Nat.le_refl _, g0, Lib.hid Is.nil_, b11⟩
  case round =>
    obtain ⟨j, m, G, Ao, no, co, out, hj, hm, hno, rfl, rfl, hgn, gs, is, bw⟩ := hrel
    have z1 := bw.size
    have zw := b1.size
    by_cases hlt : j < n1
    · obtain ⟨g, o, x, rfl, hg, hx, hxm, a0, a1, a2⟩ := (RS.out.rr.below bw).rec_ hlt
      have hxd := Lib.hid (own_below (RS.out.dat x hxm) bw)
      have HX := Lib.hid (take_rv hx)
      obtain ⟨p, hp⟩ : ∃ p, wr.heap.size = p := ⟨_, rfl⟩
      obtain ⟨nx, hnx⟩ : ∃ nx, x.d.length = nx := ⟨_, rfl⟩
      rw [hnx] at a2
      have HNX := Lib.hid hnx
      obtain ⟨Wa, hWa⟩ : ∃ Wa, wr.alloc (.cells #[.int .i64 x.k, .int .i64 x.t, .slice x.A nx x.c] 24) = Wa := ⟨_, rfl⟩
      obtain ⟨x0, x1, x2⟩ := box3 wr (.int .i64 x.k) (.int .i64 x.t) (.slice x.A nx x.c) 24
      rw [hWa] at x0 x1 x2
      have hba : Below wr.heap.size wr Wa := hWa ▸ (Below.refl _ _).alloc (Nat.le_refl _) _
      have hpl : wr.heap.size < Wa.heap.size := by rw [← hWa]; simp
      have hxt : (Lit.int .i64 x.t).wf = true := by
        have := rd_mem HLR.out hxm
        exact WalkArith.wf_i64 (by have h1 : 1 ≤ x.t := this.2.2.1; have h2 : x.t < 9223372036854775808 := this.2.2.2.1; omega)
      have gsa := Lib.hid (gs.out.below hba)
      have hda := Lib.hid (own_below hxd.out hba)
      have bwa : Below w1.heap.size w1 Wa := bel_step bw hba (Nat.le_refl _)
      have X0 := Lib.hid x0
      have X1 := Lib.hid x1
      have X2 := Lib.hid x2
      have HWa := Lib.hid hWa
      clear x0 x1 x2 hWa hnx hx hp hba
      by_cases hk : x.k = 3
      · have hk3 : (x.k != 3) = false := by simpa using hk
        have HK3 := Lib.hid hk
        obtain ⟨j0, hj0, hj1, hj2⟩ := info_parts info_tx
        obtain ⟨⟨gA, gn, gc, gl⟩, hgv⟩ : ∃ gv, G x.t = gv := ⟨_, rfl⟩
        have HG := Lib.hid hgv
        have lk : (Instr.lookup 79 (.map (some w1.heap.size)) (.int .i64 x.t) false).run Try.prog Wa = .ok (.slice gA gn gc) Wa := by
          have := gsa.out.mp.look hxt
          rw [hgv] at this; exact this
        have hM : w1.heap.size < wr.heap.size := gs.out.mp.lt
        have ha : blk Ao ≠ some wr.heap.size := fun e => by have := (own_blk_le gs.out.row e).2; omega
        have hWa := HWa.out
        rw [hk] at hWa
        subst hWa
        have XB : Hid (((wr.alloc (.cells #[.int .i64 3, .int .i64 x.t, .slice x.A nx x.c] 24)).alloc (.cells #[.int .i64 x.t, .slice gA gn gc] 73)).cell? ⟨wr.heap.size, 1, none⟩ = some (.int .i64 x.t)) :=
          Lib.hid ((World.cell?_alloc_lt _ _ ⟨wr.heap.size, 1, none⟩ hpl).trans X1.out)
        clear hgv HWa X0 X1 X2 hpl
        go_wp2_with (first
          | (at_builtin; refine wpList_app _ rfl (.tmp 34) (.tmp 42) 70 rfl w.heap.size 73 j0 (.agg #[.int .i64 0, .slice none 0 0]) 2 32 Try.underlying70 hj0 hj1 hj2.1 hj2.2 rfl (by omega) (by rfl) (gsa.out.alloc _).row (by rfl) (Rd.lit' _ _ 2 #[.int .i64 x.t, .slice gA gn gc] 1 (by simp) (by omega) rfl) (one2 _ _ rfl rfl) (by omega) (by omega) (by simp; omega) ?_; intro A2 c2 w2 own2 g2; have x1 := (g2.cell (b := wr.heap.size) (o := 1) (by simp; omega) ha).trans (XB.out); have mp2 := (gsa.out.alloc _).mpGrew (gsa.out.alloc _).row g2)
          | (at_delete; refine wpList_del _ rfl (.tmp 44) (.tmp 46) rfl (by rfl) (by rfl) mp2 hxt ?_; intro w3 mp3 g3))
        have gsb := gsa.out.alloc (.cells #[.int .i64 x.t, .slice gA gn gc] 73)
        have GS3 := Lib.hid (gsb.commit x.t (A' := A2) (c' := c2) g2 (by rw [HG.out]; exact own2) mp3 g3)
        have IS : Hid (Is (upd G x.t GV.nil) (out ++ [⟨x.t, G x.t⟩]) ((l.take (j + 1)).map RV.r)) := Lib.hid (by
          have := is.out.commit x HK3.out
          rw [HX.out, List.map_append]; exact this)
        have HN2 : Hid (∀ t, (upd G x.t GV.nil t).n ≤ j + 1) := Lib.hid fun t => by
          by_cases e : t = x.t
          · subst e; rw [upd_same]; show 0 ≤ _; omega
          · rw [upd_other _ _ e]; have := hgn.out t; omega
        have b2 : Below w1.heap.size w1 w2 := g2.low (bel_alloc bwa (Nat.le_refl _) _) (by simp; omega) (fun q e => gs.out.loO q e)
        have b3 : Below w1.heap.size w1 w3 := b2.grown g3 b2.size (fun k e => by injection e with e; omega)
        exact ⟨⟨j + 1, m, _, A2, no + 1, c2, _, by omega, by omega, by omega, by go_num, rfl, HN2, GS3, IS, b3⟩, by simp [intOf]; omega⟩
      · have hk3 : (x.k != 3) = true := by simpa using hk
        have HK3 := Lib.hid hk
        obtain ⟨⟨gA, gn, gc, gl⟩, hgv⟩ : ∃ gv, G x.t = gv := ⟨_, rfl⟩
        have HG := Lib.hid hgv
        have hgnj : gn ≤ j := by have := hgn.out x.t; rw [hgv] at this; exact this
        have OG : Hid (∀ U, Below Wa.heap.size Wa U → U.ownsRow w.heap.size 24 3 (.slice gA gn gc) gn (cells gl)) := Lib.hid fun U hU => by
          have := ((gsa.out.below hU).own x.t).row
          rw [HG.out] at this; exact this
        have LK : ∀ U, Below Wa.heap.size Wa U → (Instr.lookup 79 (.map (some w1.heap.size)) (.int .i64 x.t) false).run Try.prog U = .ok (.slice gA gn gc) U := fun U hU => by
          have := (gsa.out.below hU).mp.look hxt
          rw [HG.out] at this; exact this
        have lk1 := LK Wa.drew (Below.refl _ _).drew
        have lk2 := LK (Wa.alloc (.cells #[.int .i64 x.k, .int .i64 x.t, .slice x.A nx x.c] 24)).drew ((Below.refl _ _).alloc (Nat.le_refl _) _).drew
        have lk3 := LK Wa (Below.refl _ _)
        have lk4 := LK (Wa.alloc (.cells #[.int .i64 x.k, .int .i64 x.t, .slice x.A nx x.c] 24)) ((Below.refl _ _).alloc (Nat.le_refl _) _)
        have ST : Hid (∀ U A2 c2 w2, Below Wa.heap.size Wa U → Grew U gA w2 A2 → w2.ownsRow w.heap.size 24 3 (.slice A2 (gn + 1) c2) (gn + 1) (cells gl ++ [.int .i64 x.k, .int .i64 x.t, .slice x.A nx x.c]) →
            ∃ w3, (Instr.mapUpdate 79 (.map (some w1.heap.size)) (.int .i64 x.t) (.slice A2 (gn + 1) c2)).run Try.prog w2 = .ok () w3 ∧
              (w2.cell? ⟨wr.heap.size, 0, none⟩ = some (.int .i64 x.k) ∧ w2.cell? ⟨wr.heap.size, 1, none⟩ = some (.int .i64 x.t) ∧ w2.cell? ⟨wr.heap.size, 2, none⟩ = some (.slice x.A nx x.c)) ∧
              (w3.cell? ⟨wr.heap.size, 0, none⟩ = some (.int .i64 x.k) ∧ w3.cell? ⟨wr.heap.size, 1, none⟩ = some (.int .i64 x.t) ∧ w3.cell? ⟨wr.heap.size, 2, none⟩ = some (.slice x.A nx x.c)) ∧
              Gs w3 w.heap.size w1.heap.size w1.heap.size (m + 1) (upd G x.t ⟨A2, gn + 1, c2, gl ++ [x]⟩) Ao no co out ∧ Below w1.heap.size w1 w3) := by
          refine Lib.hid fun U A2 c2 w2 hU g2 row2 => ?_
          have gsU := gsa.out.below hU
          have mp2 := gsU.mpGrew (OG.out U hU) g2
          obtain ⟨w3, hr, mp3, gr3⟩ := mp2.store hxt (by have := hln.out; omega) (.slice A2 (gn + 1) c2)
          have hpu : wr.heap.size < U.heap.size := Nat.lt_of_lt_of_le hpl hU.size
          have ha : blk gA ≠ some wr.heap.size := fun e => by
            have := (gs.out.own x.t).row
            rw [HG.out] at this
            have := (own_blk_le this e).2; omega
          have hM : w1.heap.size < wr.heap.size := gs.out.mp.lt
          have c2' : ∀ o, w2.cell? ⟨wr.heap.size, o, none⟩ = Wa.cell? ⟨wr.heap.size, o, none⟩ := fun o => (g2.cell hpu ha).trans (hU.cell (p := ⟨wr.heap.size, o, none⟩) hpl)
          have c3' : ∀ o, w3.cell? ⟨wr.heap.size, o, none⟩ = Wa.cell? ⟨wr.heap.size, o, none⟩ := fun o => (World.cell?_of_block (gr3.block wr.heap.size (Nat.lt_of_lt_of_le hpu g2.by_.size) (fun e => by injection e with e; omega))).trans (c2' o)
          have hG := HG.out
          have hnx := HNX.out
          refine ⟨w3, hr, ⟨(c2' 0).trans X0.out, (c2' 1).trans X1.out, (c2' 2).trans X2.out⟩, ⟨(c3' 0).trans X0.out, (c3' 1).trans X1.out, (c3' 2).trans X2.out⟩, ?_, ?_⟩
          · have := gsU.push x.t x (A' := A2) (c' := c2) (own_below hda.out hU) (by rw [hG]; exact g2) (by rw [hG]; show w2.ownsRow _ _ _ _ _ (cells gl ++ [_, _, .slice x.A x.d.length x.c]); rw [hnx]; exact row2) (by rw [hG]; exact mp3) gr3
            rw [hG] at this; exact this
          · have b2 : Below w1.heap.size w1 w2 := g2.low (bel_step bwa hU (Nat.le_refl _)) (Nat.le_trans bwa.size hU.size) (fun q e => gs.out.loG x.t q (by rw [hG]; exact e))
            exact b2.grown gr3 b2.size (fun k e => by injection e with e; omega)
        clear LK hgv
        go_wp2_with fail
        rw [HWa.out]
        have HX012 : Hid (∀ U, Below Wa.heap.size Wa U → U.cell? ⟨wr.heap.size, 0, none⟩ = some (.int .i64 x.k) ∧ U.cell? ⟨wr.heap.size, 1, none⟩ = some (.int .i64 x.t) ∧ U.cell? ⟨wr.heap.size, 2, none⟩ = some (.slice x.A nx x.c)) :=
          Lib.hid fun U hU => ⟨(hU.cell (p := ⟨wr.heap.size, 0, none⟩) hpl).trans X0.out, (hU.cell (p := ⟨wr.heap.size, 1, none⟩) hpl).trans X1.out, (hU.cell (p := ⟨wr.heap.size, 2, none⟩) hpl).trans X2.out⟩
        go_region_held3 (fun w' => w'.cell? ⟨wr.heap.size, 0, none⟩ = some (.int .i64 x.k) ∧ w'.cell? ⟨wr.heap.size, 1, none⟩ = some (.int .i64 x.t) ∧ w'.cell? ⟨wr.heap.size, 2, none⟩ = some (.slice x.A nx x.c))
          (first | exact kk2 | exact kk3 | (refine HX012.out _ ?_; repeat (first | exact Below.refl _ _ | (refine Below.drew ?_) | (refine bel_alloc ?_ (Nat.le_refl _) _))))
          ((
            refine step_app (n := gn) (c := gc) (xs := cells gl) (m := 1) (d := 1) (news := (#[.int .i64 x.k, .int .i64 x.t, .slice x.A nx x.c] : Array Value).toList) _ (by rfl) (.tmp 30) (.tmp 32) 33 (by rfl) w.heap.size 24 i0 (.agg #[.int .i64 0, .int .i64 0, .slice none 0 0]) 3 40 Try.underlying33 hi hz0 hz1 hz2 rfl (by omega) (by rfl) ?_ (by rfl) ?_ (one3 (.int .i64 x.k) (.int .i64 x.t) (.slice x.A nx x.c) rfl rfl rfl) ?_ (by omega) ?_ ?_
            · refine OG.out _ ?_
              repeat (first | exact Below.refl _ _ | (refine Below.drew ?_) | (refine bel_alloc ?_ (Nat.le_refl _) _))
            · repeat (first | exact Rd.lit' _ _ 3 #[.int .i64 x.k, .int .i64 x.t, .slice x.A nx x.c] 1 (by simp) (by omega) rfl | refine Rd.drew ?_ | refine Rd.alloc ?_ _)
            · first | omega | (simp; done) | (simp; omega)
            · first | omega | (simp; done) | (simp; omega)
            intro A2 c2 w2 own2 g2
            obtain ⟨w3, hr3, kk2, kk3, gs3, b3⟩ := ST.out _ A2 c2 w2 (by repeat (first | exact Below.refl _ _ | (refine Below.drew ?_) | (refine bel_alloc ?_ (Nat.le_refl _) _))) g2 own2))
        all_goals
          have IS : Hid (Is (upd G x.t ⟨A2, gn + 1, c2, gl ++ [x]⟩) out ((l.take (j + 1)).map RV.r)) := Lib.hid (by
            have := is.out.push x HK3.out A2 (gn + 1) c2
            rw [HG.out] at this
            rw [HX.out, List.map_append]; exact this)
          have HN2 : Hid (∀ t, (upd G x.t ⟨A2, gn + 1, c2, gl ++ [x]⟩ t).n ≤ j + 1) := Lib.hid fun t => by
            by_cases e : t = x.t
            · subst e; rw [upd_same]; show gn + 1 ≤ _; omega
            · rw [upd_other _ _ e]; have := hgn.out t; omega
          have GS3 := Lib.hid gs3
          clear gs3 kk2 kk3 hr3 own2 g2 lk1 lk2 lk3 lk4
          go_wp2_with fail
          go_roundw
          case rel => exact ⟨j + 1, m + 1, _, Ao, no, co, out, by omega, by omega, by omega, by go_num, rfl, HN2, GS3, IS, b3⟩
          case measure => simp [intOf]; omega
    · obtain rfl : j = n1 := by omega
      have hlj : Hid (l.take j = l) := Lib.hid (List.take_of_length_le (by have := RS.out.len; omega))
      have hbF := b1.trans (bw.mono zw)
      go_wp2_with fail
      go_ret
      refine ⟨Ao, no, co, out, rfl, gs.out.tr, ?_, hbF⟩
      have := is.out.o
      rw [hlj.out, HLR.out] at this
      exact this
end Go.Proofs.Ytfkeedeiafegiaa.Wl
