/- Walk: the record at the beginning of some bytes, by the reference. -/
import Derived.Test.YtfkeedeiafegiaaWalW5
namespace Go.Proofs.Ytfkeedeiafegiaa.Wl
set_option linter.unusedVariables false
set_option linter.unusedSimpArgs false
open Go.RowKit
attribute [local go_sem ↓] Go.wp_at_zero Go.wp_at_succ

theorem Fin3.mk3 {w W w2 : World} {p : Nat} {k t : Int} {A : Option Addr} {x c : Nat} {d : List UInt8} (h : Res3 w W) (h2 : Below W.heap.size W w2) (hp : W.heap.size ≤ p) (hz : p < w2.heap.size)
    (hp1 : ∀ o, o < 3 → (w2.cell? ⟨p, o, none⟩).isSome = true) (own : w2.ownsRow W.heap.size 5 1 (.slice A x c) x (bv d)) (ha : blk A ≠ some p) :
    Fin3 w p k t A x c d (((w2.setCell ⟨p, 0, none⟩ (.int .i64 k)).setCell ⟨p, 1, none⟩ (.int .i64 t)).setCell ⟨p, 2, none⟩ (.slice A x c)) := by
  have hot : ∀ (V : World) (o o' : Nat) (v : Value), o ≠ o' → (V.setCell ⟨p, o, none⟩ v).cell? ⟨p, o', none⟩ = V.cell? ⟨p, o', none⟩ := fun V o o' v h => World.cell?_setCell_other _ _ _ _ (fun e => by injection e; omega)
  refine ⟨h.more ?_, by simpa [World.setCell] using hz, ?_, ?_, ?_, ?_⟩
  · exact ((h2.setCell (p := ⟨p, 0, none⟩) hp _).setCell (p := ⟨p, 1, none⟩) hp _).setCell (p := ⟨p, 2, none⟩) hp _
  · rw [hot _ _ _ _ (by omega), hot _ _ _ _ (by omega)]; exact World.cell?_setCell_same' _ _ _ (hp1 0 (by omega))
  · rw [hot _ _ _ _ (by omega)]; exact World.cell?_setCell_same' _ _ _ (by rw [hot _ _ _ _ (by omega)]; exact hp1 1 (by omega))
  · exact World.cell?_setCell_same' _ _ _ (by rw [hot _ _ _ _ (by omega), hot _ _ _ _ (by omega)]; exact hp1 2 (by omega))
  · have := h.lt
    exact own_base (own_set (own_set (own_set own _ _ ha) _ _ ha) _ _ ha) (by omega)
set_option maxHeartbeats 1600000 in
theorem rone_any {A : Option Addr} {n c : Nat} {b : List UInt8} (w : World) (hl : Hid (n = b.length)) (h : Hid (Rd w 1 A n c (bv b))) (hn : n ≤ 1073741824) :
    Calls Try.prog 50 #[.slice A n c] w (On w b) := by
  have hnc := h.out.nc
  have hc63 := h.out.c63
  by_cases h21 : n < 21
  · have R := Lib.hid (one_short (b := b) (by have := hl.out; omega))
    go_enter Try.func50, Try.ntmps50
    go_wp2
    exact bodyPost_ret (v := .tuple #[.agg #[.int .i64 0, .int .i64 0, .slice none 0 0], .int .i64 0]) (by simp [results, Try.results50, go_sem]) rfl (.inl ⟨R.out, rfl, (Below.refl _ _).alloc (Nat.le_refl _) _⟩)
  · obtain ⟨g, o, rfl, hg, _⟩ := h.out.at_ (by omega)
    have rd0 := Lib.hid (h.out.alloc (.cells #[.int .i64 0, .int .i64 0, .slice none 0 0] 24))
    have l4 := val_lt (b.take 4)
    have l4' : (b.take 4).length = 4 := by have := hl.out; simp; omega
    rw [l4'] at l4
    have l8 := val_lt ((b.drop 4).take 4)
    have l8' : ((b.drop 4).take 4).length = 4 := by have := hl.out; simp; omega
    rw [l8'] at l8
    clear l4' l8'
    obtain ⟨x, hx⟩ : ∃ x, val (b.take 4) = x := ⟨_, rfl⟩
    obtain ⟨y, hy⟩ : ∃ y, val ((b.drop 4).take 4) = y := ⟨_, rfl⟩
    rw [hx] at l4
    rw [hy] at l8
    have hx4 : x < 4294967296 := l4
    have hy4 : y < 4294967296 := l8
    have HX := Lib.hid hx
    have HY := Lib.hid hy
    clear hx hy l4 l8
    have hxor := u32_flip y hy4
    obtain ⟨q, hq⟩ : ∃ q, 4294967295 - y = q := ⟨_, rfl⟩
    rw [hq] at hxor
    have HQ := Lib.hid hq; clear hq
    go_enter Try.func50, Try.ntmps50
    go_wp2_with fail
    go_at_call 59
    refine (rnumber_any (l := b) _ (by omega) rd0).mono ?_
    rintro e W1 ⟨rfl, k1, hw1⟩
    rw [HX.out]
    have rd1 := Lib.hid (hw1 ▸ rd0.out.drewN k1)
    have RS : Hid (Res3 w W1) := Lib.hid (hw1 ▸ (Res3.new w).more (bdrewN (Below.refl _ _)))
    clear hw1
    go_wp2_with fail
    go_at_call 59
    refine (rnumber_any (l := b.drop 4) _ (by omega) (Lib.hid (rd1.out.tail (lo := 4) (by omega)))).mono ?_
    rintro e W2 ⟨rfl, k2, hw2⟩
    rw [HY.out]
    have rd2 := Lib.hid (hw2 ▸ rd1.out.drewN k2)
    have RS2 : Hid (Res3 w W2) := Lib.hid (hw2 ▸ RS.out.more (bdrewN (Below.refl _ _)))
    clear hw2 RS rd1
    obtain ⟨bel, lt, r0, r1, r2, f0, f1, f2⟩ := RS2.out
    by_cases hyq : x = q
    · subst hyq
      by_cases hx5 : x ≤ 4096
      · by_cases hnx : 21 + x ≤ n
        · go_wp2_with fail
          have k1 : (0 : Int) ≤ 17 + (x : Int) := by omega
          have k2 : (17 : Int) + (x : Int) ≤ (n : Int) := by omega
          have k4 : (8 : Int) ≤ 17 + (x : Int) := by omega
          have k5 : (17 : Int) + (x : Int) ≤ (c : Int) := by omega
          have k7 : ¬ c = 17 + x := by omega
          have k8 : ((17 : Int) + (x : Int)).toNat = 17 + x := by omega
          have k10 : ¬ c = 8 := by omega
          have k12 : 17 + x - 8 = 9 + x := by omega
          have l3 := val_lt ((b.drop (17 + x)).take 4)
          have hl3 : ((b.drop (17 + x)).take 4).length = 4 := by have := hl.out; simp; omega
          rw [hl3] at l3
          clear hl3
          obtain ⟨z, hz⟩ : ∃ z, val ((b.drop (17 + x)).take 4) = z := ⟨_, rfl⟩
          rw [hz] at l3
          have hz4 : z < 4294967296 := l3
          have hck := chk_lt ((b.drop 8).take (9 + x))
          obtain ⟨ck, hc⟩ : ∃ ck, chk ((b.drop 8).take (9 + x)) = ck := ⟨_, rfl⟩
          rw [hc] at hck
          have HZ := Lib.hid hz
          have HC := Lib.hid hc
          clear hz hc l3
          have CV : Hid (∀ a, Calls Try.prog 59 #[.slice (some ⟨g, o + (17 + x), none⟩) (n - (17 + x)) (c - (17 + x))] (W2.drewN a) fun e w' => e = .returned (.int .u32 (z : Nat)) ∧ ∃ m, w' = (W2.drewN a).drewN m) := by
            refine Lib.hid fun a => ?_
            rw [← HZ.out]
            exact rnumber_any (l := b.drop (17 + x)) _ (by omega) (Lib.hid ((rd2.out.tail (lo := 17 + x) (by omega)).drewN _))
          have CC : Hid (∀ a, Calls Try.prog 46 #[.slice (some ⟨g, o + 8, none⟩) (9 + x) (c - 8)] (W2.drewN a) fun e w' => e = .returned (.int .u32 (ck : Nat)) ∧ W2.drewN a = w') := by
            refine Lib.hid fun a => ?_
            rw [← HC.out]
            exact rCheck_any _ (Lib.hid (sub_len hl.out (by omega))) (Lib.hid ((rd2.out.sub (lo := 8) (k := 9 + x) (by omega)).drewN _))
          go_quiet ((first | (go_at_call 59; exact q0_drew (CV.out _)) | (go_at_call 46; exact q0_same (CC.out _))))
          clear k1 k2 k12 CV CC
          by_cases hzc : z = ck
          · subst hzc
            obtain ⟨W3, hW3⟩ : ∃ W3, W2.drewN nq = W3 := ⟨_, rfl⟩
            rw [hW3]
            have rd3 := Lib.hid (hW3 ▸ rd2.out.drewN nq)
            have RS3 : Hid (Res3 w W3) := Lib.hid (hW3 ▸ RS2.out.more (bdrewN (Below.refl _ _)))
            clear hW3 bel lt r0 r1 r2 f0 f1 f2 RS2 rd2
            go_wp2_with fail
            go_loop [6, 7] (fun s i => ∃ j : Nat, j ≤ 8 ∧ i = .int .i64 ((9 + j : Nat) : Int) ∧ s = .int .u64 (val ((b.drop 9).take j) : Nat)) (fun _ i => (17 - intOf i).toNat)
            case atStart => exact ⟨0, by omega, rfl, rfl⟩
            case round =>
              obtain ⟨j, hj, rfl, rfl⟩ := hrel
              by_cases hlt8 : j < 8
              · have hb := val_lt ((b.drop 9).take j)
                have hk7 : 256 ^ ((b.drop 9).take j).length ≤ 256 ^ 7 := Nat.pow_le_pow_right (by omega) (by simp; omega)
                obtain ⟨g', o', xb, e9, _, hxb, hcell⟩ := rd3.out.byte (k := 9 + j) (by omega)
                cases e9
                obtain ⟨s, hs⟩ : ∃ s, val ((b.drop 9).take j) = s := ⟨_, rfl⟩
                have HS : Hid (val ((b.drop 9).take (j + 1)) = s * 256 + xb.toNat) := by
                  have : (b.drop 9)[j]? = some xb := by rw [List.getElem?_drop]; exact hxb
                  rw [take_snoc this, val_snoc, hs]; exact Lib.hid rfl
                rw [hs] at hb ⊢
                have hb' : s < 72057594037927936 := by omega
                clear hs hxb hb hk7
                have hxx := xb.toNat_lt
                go_wp2
                go_round
                case rel => exact ⟨j + 1, by omega, by go_num, by rw [HS.out, or_byte s xb (by omega)]⟩
                case measure => simp [intOf]; omega
              · obtain rfl : j = 8 := by omega
                have l9 := val_lt ((b.drop 9).take 8)
                have l9' : ((b.drop 9).take 8).length = 8 := by have := hl.out; simp; omega
                rw [l9'] at l9
                clear l9'
                obtain ⟨t, ht⟩ : ∃ t, val ((b.drop 9).take 8) = t := ⟨_, rfl⟩
                rw [ht] at l9 ⊢
                have ht8 : t < 18446744073709551616 := l9
                have HT := Lib.hid ht
                clear ht l9
                obtain ⟨g', o', b8, e8, _, hb8, c8⟩ := rd3.out.byte (k := 8) (by omega)
                cases e8
                have hg1 : g < W3.heap.size := by have := RS3.out.bel.size; omega
                have hn8 : (8 : Int) < (n : Int) := by omega
                have k6 : (17 : Int) ≤ 17 + (x : Int) := by omega
                have k9 : ¬ c = 17 := by omega
                have k12 : 17 + x - 17 = x := by omega
                have k13 : IntKind.i64.wrap (b8.toNat : Int) = (b8.toNat : Int) := by have := b8.toNat_lt; simp only [IntKind.wrap_i64]; omega
                obtain ⟨tv, htv⟩ : ∃ tv, IntKind.i64.wrap (t : Int) = tv := ⟨_, rfl⟩
                have htt : (t < 9223372036854775808 → tv = t) ∧ (¬ t < 9223372036854775808 → tv < 1) := by rw [← htv]; simp only [IntKind.wrap_i64]; omega
                have HTT := Lib.hid htt
                clear htt
                have HR : Hid (rec1 b x = ⟨(b8.toNat : Int), (t : Int), (b.drop 17).take x⟩) := by
                  refine Lib.hid ?_
                  unfold rec1
                  rw [HT.out, List.getD_eq_getElem?_getD, hb8]; rfl
                have HXL : Hid (((b.drop 17).take x).length = x) := Lib.hid (sub_len hl.out (by omega)).symm
                clear hb8
                have HK : Hid (∀ U, Below W3.heap.size W3 U → (U.cell? ⟨g, o + 8, none⟩ = some (.int .u8 (b8.toNat : Int)) ∧ Below W3.heap.size W3 U)) := Lib.hid fun U hU => ⟨(hU.cell (p := ⟨g, o + 8, none⟩) hg1).trans c8, hU⟩
                have SB : Hid (∀ U, Below W3.heap.size W3 U → Rd U 1 (some ⟨g, o + 17, none⟩) x (c - 17) (bv ((b.drop 17).take x))) := Lib.hid fun U hU => (rd3.out.below hU).sub (lo := 17) (k := x) (by omega)
                obtain ⟨i0, hi, hz0, hz1, hz2⟩ := info_parts info_u8
                go_wp2_with fail
                go_region_held3 (fun w' => w'.cell? ⟨g, o + 8, none⟩ = some (.int .u8 (b8.toNat : Int)) ∧ Below W3.heap.size W3 w')
                  ((refine HK.out _ ?_; repeat (first | exact Below.refl _ _ | assumption | (refine Below.drew ?_) | (refine bel_alloc ?_ (Nat.le_refl _) _) | (refine Below.setCell ?_ (by simp) _) | (refine Below.setCell ?_ (by simp; omega) _) | exact And.right (by assumption))))
                  ((
                     refine step_app (n := 0) (c := 0) (xs := (#[] : Array Value).toList) _ (by rfl) (.tmp 65) (.tmp 68) 22 (by rfl) W3.heap.size 5 i0 (.int .u8 0) 1 1 Try.underlying22 hi hz0 hz1 hz2 rfl (by omega) (by rfl) ?_ (by rfl) (SB.out _ ?_) (bv_one _) (by omega) (by omega) ?_ ?_
                     · (repeat (first | exact own_lit' _ _ 1 #[] 0 (by simp) (by simp) (by unfold maxLen; omega) rfl | refine own_drew ?_ | refine own_alloc ?_ _))
                     · exact And.right (by assumption)
                     · first | (simp; done) | (simp; omega)
                     intro A2 c2 w2 own2 gr2; have hb2 := gr2.low' (And.right (by assumption)) (Nat.le_refl W3.heap.size) (by first | (simp; done) | (simp; omega)); have ee := gr2.cells3 (W3.heap.size + 1); have ef := gr2.cells3 W3.heap.size; simp at ee ef))
                · have own3 : w2.ownsRow W3.heap.size 5 1 (.slice A2 x c2) x (bv ((b.drop 17).take x)) := by simpa using own2
                  have AB : blk A2 ≠ some w.heap.size := fun e => by have := (own_blk_le own3 e).1; have := RS3.out.lt; omega
                  have sz2 := gr2.by_.size
                  simp at sz2
                  refine gen_world (Q := fun W => Exit.then _ _ Exit.normal _ W) (Fin3 w w2.heap.size b8.toNat tv A2 x c2 ((b.drop 17).take x)) (Fin3.mk2 RS3.out (Below.refl _ _) hb2 own3) ?_
                  clear own2 own3 gr2 hb2 sz2
                  intro W4 F
                  obtain ⟨⟨bel, lt, r0, r1, r2, f0, f1, f2⟩, sz, q0, q1, q2, own⟩ := F
                  have OW := Lib.hid own
                  clear own
                  rcases hv : okV b8.toNat tv x with _ | _
                  · have R := Lib.hid (one_n3 HX.out (by
                      rw [HR.out, ok_iff]; rintro ⟨ht, h⟩; rw [HXL.out] at h
                      have := HTT.out.1 (by have : (t : Int) < _ := ht; omega)
                      rw [this] at hv; exact absurd (h.symm.trans hv) (by simp)))
                    have HV := Lib.hid hv
                    clear hv
                    go_wp2_with fail
                    go_at_call 44
                    refine (rValid_any _ _ A2 x c2 _).mono ?_
                    rintro e w4 ⟨rfl, hb4⟩
                    rw [HV.out]
                    have RS4 := Res3.more ⟨bel, lt, r0, r1, r2, f0, f1, f2⟩ hb4
                    obtain ⟨bel4, lt4, s0, s1, s2, g0, g1, g2⟩ := RS4
                    clear hb4
                    go_wp2_with fail
                    exact bodyPost_ret (v := .tuple #[.agg #[.int .i64 0, .int .i64 0, .slice none 0 0], .int .i64 0]) (by simp [results, Try.results50, go_sem, s0, s1, s2]) rfl (.inl ⟨R.out, rfl, ((bel4.setCell (by simp) _).setCell (by simp) _).setCell (by simp) _⟩)
                  · have ht63 : t < 9223372036854775808 := by
                      rcases Nat.lt_or_ge t 9223372036854775808 with h | h
                      · exact h
                      · have h1 := HTT.out.2 (by omega)
                        have h2 := (okV_p hv).2.2.1
                        omega
                    obtain rfl : tv = (t : Int) := HTT.out.1 ht63
                    have R := Lib.hid (one_y HX.out (by rw [HY.out]; have := hl.out; have := HQ.out; omega) (by rw [HZ.out, HC.out]) (by rw [HR.out, ok_iff]; exact ⟨by show (t : Int) < _; omega, by rw [HXL.out]; exact hv⟩))
                    have HV := Lib.hid hv
                    clear hv
                    go_wp2_with fail
                    go_at_call 44
                    refine (rValid_any _ _ A2 x c2 _).mono ?_
                    rintro e w4 ⟨rfl, hb4⟩
                    rw [HV.out]
                    have RS4 := Res3.more ⟨bel, lt, r0, r1, r2, f0, f1, f2⟩ hb4
                    obtain ⟨bel4, lt4, s0, s1, s2, g0, g1, g2⟩ := RS4
                    have p0 := (hb4.cell (p := ⟨w2.heap.size, 0, none⟩) sz).trans q0
                    have p1 := (hb4.cell (p := ⟨w2.heap.size, 1, none⟩) sz).trans q1
                    have p2 := (hb4.cell (p := ⟨w2.heap.size, 2, none⟩) sz).trans q2
                    have OW4 := own_below OW.out hb4
                    clear hb4
                    go_wp2_with fail
                    exact bodyPost_ret (v := .tuple #[.agg #[.int .i64 b8.toNat, .int .i64 t, .slice A2 x c2], .int .i64 (17 + x + 4)]) (by simp [results, Try.results50, go_sem, s0, s1, s2]) rfl (.inr ⟨_, x, A2, c2, R.out, by rw [HR.out]; exact HXL.out.symm, ret_val (by rw [HR.out]; simp; omega),
                      by rw [HR.out]; exact own_set (own_set (own_set OW4 _ _ AB) _ _ AB) _ _ AB, ((bel4.setCell (by simp) _).setCell (by simp) _).setCell (by simp) _⟩)
                · have own3 : w2.ownsRow W3.heap.size 5 1 (.slice A2 x c2) x (bv ((b.drop 17).take x)) := by simpa using own2
                  have AB : blk A2 ≠ some w.heap.size := fun e => by have := (own_blk_le own3 e).1; have := RS3.out.lt; omega
                  have sz2 := gr2.by_.size
                  simp at sz2
                  refine gen_world (Q := fun W => Exit.then _ _ Exit.normal _ W) (Fin3 w (W3.heap.size + 1) b8.toNat tv A2 x c2 ((b.drop 17).take x)) (Fin3.mk3 RS3.out hb2 (by omega) (by omega) (fun o ho => ?_) own3 (gr2.ne (by simp) (by simp))) ?_
                  · rw [gr2.cells.1 _ _ (by simp) (by simp)]
                    exact new3 (W3.alloc _) (by simp) _ _ _ _ o ho
                  clear own2 own3 gr2 hb2 sz2 ee
                  intro W4 F
                  obtain ⟨⟨bel, lt, r0, r1, r2, f0, f1, f2⟩, sz, q0, q1, q2, own⟩ := F
                  have OW := Lib.hid own
                  clear own
                  rcases hv : okV b8.toNat tv x with _ | _
                  · have R := Lib.hid (one_n3 HX.out (by
                      rw [HR.out, ok_iff]; rintro ⟨ht, h⟩; rw [HXL.out] at h
                      have := HTT.out.1 (by have : (t : Int) < _ := ht; omega)
                      rw [this] at hv; exact absurd (h.symm.trans hv) (by simp)))
                    have HV := Lib.hid hv
                    clear hv
                    go_wp2_with fail
                    go_at_call 44
                    refine (rValid_any _ _ A2 x c2 _).mono ?_
                    rintro e w4 ⟨rfl, hb4⟩
                    rw [HV.out]
                    have RS4 := Res3.more ⟨bel, lt, r0, r1, r2, f0, f1, f2⟩ hb4
                    obtain ⟨bel4, lt4, s0, s1, s2, g0, g1, g2⟩ := RS4
                    clear hb4
                    go_wp2_with fail
                    exact bodyPost_ret (v := .tuple #[.agg #[.int .i64 0, .int .i64 0, .slice none 0 0], .int .i64 0]) (by simp [results, Try.results50, go_sem, s0, s1, s2]) rfl (.inl ⟨R.out, rfl, ((bel4.setCell (by simp) _).setCell (by simp) _).setCell (by simp) _⟩)
                  · have ht63 : t < 9223372036854775808 := by
                      rcases Nat.lt_or_ge t 9223372036854775808 with h | h
                      · exact h
                      · have h1 := HTT.out.2 (by omega)
                        have h2 := (okV_p hv).2.2.1
                        omega
                    obtain rfl : tv = (t : Int) := HTT.out.1 ht63
                    have R := Lib.hid (one_y HX.out (by rw [HY.out]; have := hl.out; have := HQ.out; omega) (by rw [HZ.out, HC.out]) (by rw [HR.out, ok_iff]; exact ⟨by show (t : Int) < _; omega, by rw [HXL.out]; exact hv⟩))
                    have HV := Lib.hid hv
                    clear hv
                    go_wp2_with fail
                    go_at_call 44
                    refine (rValid_any _ _ A2 x c2 _).mono ?_
                    rintro e w4 ⟨rfl, hb4⟩
                    rw [HV.out]
                    have RS4 := Res3.more ⟨bel, lt, r0, r1, r2, f0, f1, f2⟩ hb4
                    obtain ⟨bel4, lt4, s0, s1, s2, g0, g1, g2⟩ := RS4
                    have p0 := (hb4.cell (p := ⟨W3.heap.size + 1, 0, none⟩) sz).trans q0
                    have p1 := (hb4.cell (p := ⟨W3.heap.size + 1, 1, none⟩) sz).trans q1
                    have p2 := (hb4.cell (p := ⟨W3.heap.size + 1, 2, none⟩) sz).trans q2
                    have OW4 := own_below OW.out hb4
                    clear hb4
                    go_wp2_with fail
                    exact bodyPost_ret (v := .tuple #[.agg #[.int .i64 b8.toNat, .int .i64 t, .slice A2 x c2], .int .i64 (17 + x + 4)]) (by simp [results, Try.results50, go_sem, s0, s1, s2]) rfl (.inr ⟨_, x, A2, c2, R.out, by rw [HR.out]; exact HXL.out.symm, ret_val (by rw [HR.out]; simp; omega),
                      by rw [HR.out]; exact own_set (own_set (own_set OW4 _ _ AB) _ _ AB) _ _ AB, ((bel4.setCell (by simp) _).setCell (by simp) _).setCell (by simp) _⟩)
                · have own3 : w2.ownsRow W3.heap.size 5 1 (.slice A2 x c2) x (bv ((b.drop 17).take x)) := by simpa using own2
                  have AB : blk A2 ≠ some w.heap.size := fun e => by have := (own_blk_le own3 e).1; have := RS3.out.lt; omega
                  have sz2 := gr2.by_.size
                  simp at sz2
                  refine gen_world (Q := fun W => Exit.then _ _ Exit.normal _ W) (Fin3 w W3.heap.size b8.toNat tv A2 x c2 ((b.drop 17).take x)) (Fin3.mk3 RS3.out hb2 (by omega) (by omega) (fun o ho => ?_) own3 (gr2.ne (by simp; omega) (by simp))) ?_
                  · rw [gr2.cells.1 _ _ (by simp; omega) (by simp)]
                    have := new3 W3 rfl (.int .i64 0) (.int .i64 0) (.slice none 0 0) 24 o ho
                    rw [← World.cell?_alloc_lt _ (.cells #[] 5) ⟨W3.heap.size, o, none⟩ (by simp)] at this
                    exact this
                  clear own2 own3 gr2 hb2 sz2 ef
                  intro W4 F
                  obtain ⟨⟨bel, lt, r0, r1, r2, f0, f1, f2⟩, sz, q0, q1, q2, own⟩ := F
                  have OW := Lib.hid own
                  clear own
                  rcases hv : okV b8.toNat tv x with _ | _
                  · have R := Lib.hid (one_n3 HX.out (by
                      rw [HR.out, ok_iff]; rintro ⟨ht, h⟩; rw [HXL.out] at h
                      have := HTT.out.1 (by have : (t : Int) < _ := ht; omega)
                      rw [this] at hv; exact absurd (h.symm.trans hv) (by simp)))
                    have HV := Lib.hid hv
                    clear hv
                    go_wp2_with fail
                    go_at_call 44
                    refine (rValid_any _ _ A2 x c2 _).mono ?_
                    rintro e w4 ⟨rfl, hb4⟩
                    rw [HV.out]
                    have RS4 := Res3.more ⟨bel, lt, r0, r1, r2, f0, f1, f2⟩ hb4
                    obtain ⟨bel4, lt4, s0, s1, s2, g0, g1, g2⟩ := RS4
                    clear hb4
                    go_wp2_with fail
                    exact bodyPost_ret (v := .tuple #[.agg #[.int .i64 0, .int .i64 0, .slice none 0 0], .int .i64 0]) (by simp [results, Try.results50, go_sem, s0, s1, s2]) rfl (.inl ⟨R.out, rfl, ((bel4.setCell (by simp) _).setCell (by simp) _).setCell (by simp) _⟩)
                  · have ht63 : t < 9223372036854775808 := by
                      rcases Nat.lt_or_ge t 9223372036854775808 with h | h
                      · exact h
                      · have h1 := HTT.out.2 (by omega)
                        have h2 := (okV_p hv).2.2.1
                        omega
                    obtain rfl : tv = (t : Int) := HTT.out.1 ht63
                    have R := Lib.hid (one_y HX.out (by rw [HY.out]; have := hl.out; have := HQ.out; omega) (by rw [HZ.out, HC.out]) (by rw [HR.out, ok_iff]; exact ⟨by show (t : Int) < _; omega, by rw [HXL.out]; exact hv⟩))
                    have HV := Lib.hid hv
                    clear hv
                    go_wp2_with fail
                    go_at_call 44
                    refine (rValid_any _ _ A2 x c2 _).mono ?_
                    rintro e w4 ⟨rfl, hb4⟩
                    rw [HV.out]
                    have RS4 := Res3.more ⟨bel, lt, r0, r1, r2, f0, f1, f2⟩ hb4
                    obtain ⟨bel4, lt4, s0, s1, s2, g0, g1, g2⟩ := RS4
                    have p0 := (hb4.cell (p := ⟨W3.heap.size, 0, none⟩) sz).trans q0
                    have p1 := (hb4.cell (p := ⟨W3.heap.size, 1, none⟩) sz).trans q1
                    have p2 := (hb4.cell (p := ⟨W3.heap.size, 2, none⟩) sz).trans q2
                    have OW4 := own_below OW.out hb4
                    clear hb4
                    go_wp2_with fail
                    exact bodyPost_ret (v := .tuple #[.agg #[.int .i64 b8.toNat, .int .i64 t, .slice A2 x c2], .int .i64 (17 + x + 4)]) (by simp [results, Try.results50, go_sem, s0, s1, s2]) rfl (.inr ⟨_, x, A2, c2, R.out, by rw [HR.out]; exact HXL.out.symm, ret_val (by rw [HR.out]; simp; omega),
                      by rw [HR.out]; exact own_set (own_set (own_set OW4 _ _ AB) _ _ AB) _ _ AB, ((bel4.setCell (by simp) _).setCell (by simp) _).setCell (by simp) _⟩)
          · have R := Lib.hid (one_n2 (b := b) (by rw [HX.out, HZ.out, HC.out]; exact hzc))
            have hd : ((z : Int) != (ck : Int)) = true := by simp; omega
            go_wp2
            exact bodyPost_ret (v := .tuple #[.agg #[.int .i64 0, .int .i64 0, .slice none 0 0], .int .i64 0]) (by simp [results, Try.results50, go_sem, r0, r1, r2]) rfl (.inl ⟨R.out, rfl, (((bdrewN bel).setCell (by simp) _).setCell (by simp) _).setCell (by simp) _⟩)
        · have R := Lib.hid (one_n1 (b := b) (by rw [HX.out]; right; right; have := hl.out; omega))
          go_wp2
          exact bodyPost_ret (v := .tuple #[.agg #[.int .i64 0, .int .i64 0, .slice none 0 0], .int .i64 0]) (by simp [results, Try.results50, go_sem, r0, r1, r2]) rfl (.inl ⟨R.out, rfl, ((bel.setCell (by simp) _).setCell (by simp) _).setCell (by simp) _⟩)
      · have R := Lib.hid (one_n1 (b := b) (by rw [HX.out]; right; left; omega))
        go_wp2
        exact bodyPost_ret (v := .tuple #[.agg #[.int .i64 0, .int .i64 0, .slice none 0 0], .int .i64 0]) (by simp [results, Try.results50, go_sem, r0, r1, r2]) rfl (.inl ⟨R.out, rfl, ((bel.setCell (by simp) _).setCell (by simp) _).setCell (by simp) _⟩)
    · have R := Lib.hid (one_n1 (b := b) (by rw [HX.out, HY.out]; left; have := HQ.out; omega))
      have hd : ((x : Int) != (q : Int)) = true := by simp; omega
      go_wp2
      exact bodyPost_ret (v := .tuple #[.agg #[.int .i64 0, .int .i64 0, .slice none 0 0], .int .i64 0]) (by simp [results, Try.results50, go_sem, r0, r1, r2]) rfl (.inl ⟨R.out, rfl, ((bel.setCell (by simp) _).setCell (by simp) _).setCell (by simp) _⟩)
end Go.Proofs.Ytfkeedeiafegiaa.Wl
