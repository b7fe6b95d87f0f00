/- The law: WalDamage. -/
import Derived.Test.YtfkeedeiafegiaaWalL4
namespace Go.Proofs.Ytfkeedeiafegiaa.Wl
set_option linter.unusedVariables false
set_option linter.unusedSimpArgs false
open Go.RowKit

theorem encs_split : ∀ (vs : List Rec) (i : Nat), i < (encs vs).length → ∃ p r s, vs = p ++ r :: s ∧ (encs p).length ≤ i ∧ i < (encs p).length + (21 + r.d.length)
  | [], i, h => by simp [encs] at h
  | r :: vs, i, h => by
    rw [encs_cons, List.length_append, enc_len] at h
    rcases Nat.lt_or_ge i (21 + r.d.length) with h1 | h1
    · exact ⟨[], r, vs, rfl, by simp [encs], by simpa [encs] using h1⟩
    · obtain ⟨p, q, s, e, h2, h3⟩ := encs_split vs (i - (21 + r.d.length)) (by omega)
      exact ⟨r :: p, q, s, by rw [e]; rfl, by rw [encs_cons, List.length_append, enc_len]; omega, by rw [encs_cons, List.length_append, enc_len]; omega⟩
theorem damage {vs : List Rec} (h : ∀ r ∈ vs, ok r) {i : Nat} {x y : UInt8} (hy : (encs vs)[i]? = some y) (hne : x ≠ y) :
    ∃ p r s, vs = p ++ r :: s ∧ (encs p).length ≤ i ∧ i < (encs p).length + (21 + r.d.length) ∧ rd ((encs vs).set i x) = p ∧ glen ((encs vs).set i x) = (encs p).length := by
  obtain ⟨p, r, s, e, h1, h2⟩ := encs_split vs i (List.getElem?_eq_some_iff.1 hy).1
  have hb : encs vs = encs p ++ (enc r ++ encs s) := by rw [e, encs_app, encs_cons]
  obtain ⟨j, rfl⟩ : ∃ j, i = (encs p).length + j := ⟨i - (encs p).length, by omega⟩
  have hj : j < (enc r).length := by rw [enc_len]; omega
  have hyj : (enc r)[j]? = some y := by
    rw [hb, List.getElem?_append_right (by omega), List.getElem?_append_left (by omega)] at hy
    rw [← hy]; congr 1; omega
  have hs : (encs vs).set ((encs p).length + j) x = encs p ++ ((enc r).set j x ++ encs s) := by rw [hb]; exact set_app _ _ _ _ _ hj
  have hone := one_damaged (h r (by rw [e]; simp)) j y x hyj hne (encs s)
  have hrd : rd ((encs vs).set ((encs p).length + j) x) = p := rd_eq ⟨fun q hq => h q (by rw [e]; simp [hq]), _, hs, hone⟩
  exact ⟨p, r, s, e, h1, h2, hrd, by unfold glen; rw [hrd]⟩
theorem xor_byte (y u : UInt8) : bits .xor .u8 (y.toNat : Int) (u.toNat : Int) = ((y ^^^ u).toNat : Int) := by
  have := u8_xor_nat y.toNat u.toNat y.toNat_lt u.toNat_lt
  rw [this]; simp
theorem xor_ne {y u : UInt8} (h : u ≠ 0) : y ^^^ u ≠ y := by
  intro e
  apply h
  have h2 : y ^^^ (y ^^^ u) = y ^^^ y := by rw [e]
  rw [← UInt8.xor_assoc, UInt8.xor_self] at h2
  simpa using h2
theorem own_store {w : World} {base n c g : Nat} {l : List UInt8} (h : w.ownsRow base 5 1 (.slice (some ⟨g, 0, none⟩) n c) n (bv l)) (i : Nat) (x : UInt8) :
    (w.setCell ⟨g, i, none⟩ (.int .u8 (x.toNat : Int))).ownsRow base 5 1 (.slice (some ⟨g, 0, none⟩) n c) n (bv (l.set i x)) := by
  have := h.stored i (.int .u8 (x.toNat : Int))
  have e : bv (l.set i x) = (bv l).set i (.int .u8 (x.toNat : Int)) := by simp [bv, List.map_set]
  rw [e]; exact this.1

set_option maxHeartbeats 3200000 in
theorem WalDamage_walk (A : Option Addr) (n c : Nat) (l : List RV) (k a : Int) (w : World) (h : Hid (Rr w A n c l)) (hf : Hid (Fit l)) (k1 : -9223372036854775808 ≤ k) (k2 : k ≤ 9223372036854775807) (a1 : 0 ≤ a) (a2 : a ≤ 255) :
    Calls Try.prog 8 #[.slice A n c, .int .i64 k, .int .u8 a] w fun e w' => e = .returned (.bool true) ∧ Below w.heap.size w w' := by
  obtain ⟨u, rfl⟩ : ∃ u : UInt8, a = (u.toNat : Int) := ⟨UInt8.ofNat a.toNat, by simp; omega⟩
  clear a1 a2
  go_enter Try.func8, Try.ntmps8
  go_wp2_with fail
  go_at_call 13
  refine (awake_any _).mono ?_
  rintro e w1 ⟨rfl, b1⟩
  have h1 := Lib.hid (h.out.below b1)
  go_wp2_with fail
  go_at_call 17
  refine (great_any _ h1).mono ?_
  rintro e w2 ⟨rfl, b2⟩
  have h2 := Lib.hid (h1.out.below b2)
  have bw2 := b1.trans (b2.mono b1.size)
  clear b1 b2 h1
  rcases hg : greatB l with _ | _
  · have hgr := greatB_f hg
    have h40 : n ≤ 40 := by rw [h.out.len]; exact hgr.1
    have h5 := Lib.hid hgr.2
    have hll := log_le hg
    clear hg hgr
    by_cases hu0 : u = 0
    · subst hu0
      go_wp2_with fail
      go_ret
      exact ⟨rfl, bw2⟩
    have hu := Lib.hid hu0
    have hut : ((u.toNat : Int) == 0) = false := by
      have : u.toNat ≠ 0 := fun e => hu0 (UInt8.toNat_inj.1 e)
      simpa using this
    clear hu0
    go_wp2_with fail
    go_at_call 18
    refine (log_any _ h2 hf h40 h5).mono ?_
    obtain ⟨b, hb⟩ : ∃ b, encs (vals l) = b := ⟨_, rfl⟩
    have HB := Lib.hid hb
    rw [hb] at hll ⊢
    clear hb
    obtain ⟨q, hq⟩ : ∃ q, b.length = q := ⟨_, rfl⟩
    rw [hq] at hll ⊢
    have HQ := Lib.hid hq.symm
    clear hq
    rintro e w3 ⟨A3, c3, rfl, own3, b3⟩
    have bw3 := bw2.trans (b3.mono bw2.size)
    have OW3 := Lib.hid own3
    clear own3 b3 h2
    rcases Nat.eq_zero_or_pos q with hq0 | hq0
    · have hqq : ((q : Int) == 0) = true := by rw [hq0]; rfl
      clear hq0
      go_wp2_with fail
      go_ret
      exact ⟨rfl, bw3⟩
    have hqq : ((q : Int) == 0) = false := by simp; omega
    rcases Int.lt_or_le k 0 with hk0 | hk0
    · rcases Int.lt_or_le (-9223372036854775808) k with hk1 | hk1
      · have hkk := Lib.hid hk1
        obtain ⟨i, hi⟩ : ∃ i : Nat, -(k.tmod (q : Int)) = i := Int.eq_ofNat_of_zero_le (by have := Int.tmod_nonneg (q : Int) (show 0 ≤ -k by omega); rw [Int.neg_tmod] at this; exact this)
        have hiq : i < q := by have := Int.lt_tmod_of_pos k (show (0 : Int) < (q : Int) by omega); omega
        obtain ⟨g, rfl, hqc, hcm⟩ := own_pos OW3.out hq0
        go_wp2_with fail
        go_at_call 19
        refine (Read_any _ HQ (Lib.hid (Rd.of_own OW3.out)) (by omega)).mono ?_
        rintro e w4 ⟨A4, n4, c4, l4, rfl, hl4, rs4, b4⟩
        have bw4 := bw3.trans (b4.mono bw3.size)
        have ow4 := own_below OW3.out b4
        have hgl := (own_blk_le (g := g) OW3.out rfl).2
        have hgb := (own_blk_le (g := g) OW3.out rfl).1
        have z4 := b4.size
        have RS4 := Lib.hid rs4
        have HL4 := Lib.hid hl4
        clear hl4 rs4 b4
        obtain ⟨yb, hyb⟩ : ∃ yb, b[i]? = some yb := ⟨b[i]'(by have := HQ.out; omega), List.getElem?_eq_getElem _⟩
        have cy : w4.cell? ⟨g, i, none⟩ = some (.int .u8 (yb.toNat : Int)) := by
          rw [ow4.cellAt i (by omega), bv_get, hyb]; rfl
        have fy : w4.frozen? ⟨g, i, none⟩ = false := ow4.frozenAt i
        obtain ⟨xb, hxb⟩ : ∃ xb, yb ^^^ u = xb := ⟨_, rfl⟩
        have hx := xor_byte yb u
        rw [hxb] at hx
        have hxn : xb ≠ yb := by rw [← hxb]; exact xor_ne hu.out
        clear hxb
        have DM := Lib.hid (HB.out ▸ damage (vals_ok hf.out) (x := xb) (HB.out ▸ hyb) hxn)
        have ow5 := own_store ow4 i xb
        have rs5 : Rs (w4.setCell ⟨g, i, none⟩ (.int .u8 (xb.toNat : Int))) w3.heap.size A4 n4 c4 l4 :=
          RS4.out.kept (set_grown w4 ⟨g, i, none⟩ _) (by
            rcases h : blk A4 with _ | p
            · exact .inl rfl
            · refine .inr fun e => ?_
              have h1 := (own_blk_le RS4.out.row h).1
              have e2 : p = g := (by first | (rw [h] at e; injection e) | (injection e)); omega) (fun r hr => by
            rcases h : blk r.A with _ | p
            · exact .inl rfl
            · refine .inr fun e => ?_
              have h1 := (own_blk_le (RS4.out.dat r hr) h).1
              have e2 : p = g := (by first | (rw [h] at e; injection e) | (injection e)); omega)
        have OW5 := Lib.hid ow5
        have RS5 := Lib.hid rs5
        have bw5 : Below w.heap.size w (w4.setCell ⟨g, i, none⟩ (.int .u8 (xb.toNat : Int))) := bw4.setCell (by show w.heap.size ≤ g; have := bw2.size; omega) _
        have hi1 : (i : Int) < (q : Int) := by omega
        clear ow4 ow5 rs5 hyb RS4 OW3 hxn
        go_wp2_with fail
        obtain ⟨w5, hw5⟩ : ∃ w5, w4.setCell ⟨g, i, none⟩ (.int .u8 (xb.toNat : Int)) = w5 := ⟨_, rfl⟩
        rw [hw5] at OW5 RS5 bw5 ⊢
        clear hw5 cy fy hx
        go_at_call 19
        refine (Read_any (b := b.set i xb) _ (Lib.hid (by rw [List.length_set]; exact HQ.out)) (Lib.hid (Rd.of_own OW5.out)) (by omega)).mono ?_
        rintro e w6 ⟨A6, n6, c6, l6, rfl, hl6, rs6, b6⟩
        obtain ⟨pp, rr, ss, d1, d2, d3, d4, d5⟩ := DM.out
        rw [d4] at hl6
        rw [d5]
        have bw6 := bw5.trans (b6.mono bw5.size)
        have S4 := Lib.hid (RS5.out.rr.below b6)
        have S6 := Lib.hid rs6.rr
        have HL6 := Lib.hid hl6
        have HL4' : Hid (l4.map RV.r = pp ++ rr :: ss) := Lib.hid (by rw [HL4.out, ← HB.out, rd_encs (vals_ok hf.out)]; exact d1)
        have hn6 : n6 = pp.length := by rw [rs6.len, ← HL6.out, List.length_map]
        have hoks : ∀ r ∈ pp ++ rr :: ss, ok r := fun r hr => vals_ok hf.out r (by rw [d1]; exact hr)
        have HOK := Lib.hid hoks
        have HD2 := Lib.hid d2
        have HD3 := Lib.hid d3
        have HN6 := Lib.hid hn6
        have hel := encs_ge pp
        clear b6 rs6 hl6 d1 d4 d5 bw5 RS5 OW5 DM HL4 hn6 hoks
        obtain ⟨ee, hee⟩ : ∃ ee, (encs pp).length = ee := ⟨_, rfl⟩
        rw [hee] at d2 d3 hel ⊢
        have HEE := Lib.hid hee
        clear hee
        have hn6 : n6 ≤ 164680 := by have := HN6.out; omega
        go_wp2_with fail
        go_at_call 27
        refine (begins_any _ S6 S4).mono ?_
        rintro e w7 ⟨rfl, b7⟩
        rw [show begB (l6.map RV.r) (l4.map RV.r) = true by rw [HL6.out, HL4'.out]; exact begB_t rfl]
        have bw7 := bw6.trans (b7.mono bw6.size)
        have S4' := Lib.hid (S4.out.below b7)
        have hnc4 := S4'.out.row.nc
        have hc63 := S4'.out.row.c63
        clear b7 S4 S6 bw6
        have hn4 : pp.length < n4 := by have h1 := S4'.out.len; have h2 := congrArg List.length HL4'.out; rw [List.length_map, List.length_append, List.length_cons] at h2; omega
        go_wp2_with fail
        go_loopw [13, 64] (fun v k wr => ∃ (j : Nat), j ≤ pp.length ∧ k = .int .i64 j ∧ v = .int .i64 ((encs (pp.take j)).length : Nat) ∧ Below w7.heap.size w7 wr) (fun _ k _ => (n4 - intOf k).toNat)
        case atStart => exact ⟨0, by omega, rfl, rfl, Below.refl _ _⟩
        case round =>
          obtain ⟨j, hj, rfl, rfl, bw⟩ := hrel
          have hz := bw.size
          have hlt : j < n4 := by omega
          obtain ⟨ge, hge⟩ : ∃ ge, (encs (pp.take j)).length = ge := ⟨_, rfl⟩
          have hgle := encs_take_le pp j
          rw [hge, HEE.out] at hgle
          obtain ⟨g1, o1, r, rfl, hg1, hr, hrm, a0, a1, a2⟩ := (S4'.out.below bw).rec_ hlt
          have hrr := map_at hr
          rw [HL4'.out] at hrr
          have hro : ok r.r := HOK.out _ (List.mem_of_getElem? hrr)
          have hrl : r.d.length ≤ 4096 := ok_len hro
          by_cases hjp : j < pp.length
          · have hpr : pp[j]? = some r.r := by rw [List.getElem?_append_left hjp] at hrr; exact hrr
            have HT : Hid ((encs (pp.take (j + 1))).length = ge + (21 + r.d.length)) := Lib.hid (by
              rw [List.take_add_one, hpr]; show (encs (pp.take j ++ [r.r])).length = _; rw [encs_snoc, List.length_append, enc_len, hge]; rfl)
            have h8 := encs_take_le pp (j + 1)
            rw [HEE.out, HT.out] at h8
            have HGE := Lib.hid hge
            rw [hge]
            obtain ⟨nx, hnx⟩ : ∃ nx, r.d.length = nx := ⟨_, rfl⟩
            rw [hnx] at a2 hrl h8 HT
            clear hnx hge hrr hr hro hpr
            have hle : ge + (21 + nx) ≤ i := by omega
            have bw' : Below w7.heap.size w7 (wr.alloc (.cells #[.int .i64 r.k, .int .i64 r.t, .slice r.A nx r.c] 24)) := bel_alloc bw (Nat.le_refl _) _
            go_wp2_with fail
            go_roundw
            case rel => exact ⟨j + 1, by omega, by go_num, by rw [HT.out]; go_num, bw'⟩
            case measure => simp [intOf]; omega
          · obtain rfl : j = pp.length := by omega
            have hrr' : rr = r.r := by
              rw [List.getElem?_append_right (Nat.le_refl _), Nat.sub_self] at hrr
              simpa using hrr
            have hge2 : ge = ee := by rw [← hge, List.take_length, HEE.out]
            have hd3 : i < ee + (21 + r.d.length) := by rw [hrr'] at d3; exact d3
            rw [hge]
            obtain ⟨nx, hnx⟩ : ∃ nx, r.d.length = nx := ⟨_, rfl⟩
            rw [hnx] at a2 hrl hd3
            have heq : ((n6 : Int) == (pp.length : Int)) = true := by rw [HN6.out]; simp
            have bw' : Below w.heap.size w (wr.alloc (.cells #[.int .i64 r.k, .int .i64 r.t, .slice r.A nx r.c] 24)) := (bw7.trans (bw.mono bw7.size)).alloc (Nat.le_trans bw7.size hz) _
            clear hnx hge hrr hr hro hrr'
            have hlt2 : i < ge + (21 + nx) := by omega
            clear hge2
            go_wp2_with fail
            go_ret
            exact ⟨rfl, bw'⟩
      · obtain rfl : k = -9223372036854775808 := by omega
        have hw : wrap64 9223372036854775808 = -9223372036854775808 := by unfold wrap64; rfl
        have hiq : 0 < q := hq0
        obtain ⟨g, rfl, hqc, hcm⟩ := own_pos OW3.out hq0
        go_wp2_with fail
        go_at_call 19
        refine (Read_any _ HQ (Lib.hid (Rd.of_own OW3.out)) (by omega)).mono ?_
        rintro e w4 ⟨A4, n4, c4, l4, rfl, hl4, rs4, b4⟩
        have bw4 := bw3.trans (b4.mono bw3.size)
        have ow4 := own_below OW3.out b4
        have hgl := (own_blk_le (g := g) OW3.out rfl).2
        have hgb := (own_blk_le (g := g) OW3.out rfl).1
        have z4 := b4.size
        have RS4 := Lib.hid rs4
        have HL4 := Lib.hid hl4
        clear hl4 rs4 b4
        obtain ⟨yb, hyb⟩ : ∃ yb, b[0]? = some yb := ⟨b[0]'(by have := HQ.out; omega), List.getElem?_eq_getElem _⟩
        have cy : w4.cell? ⟨g, 0, none⟩ = some (.int .u8 (yb.toNat : Int)) := by
          rw [ow4.cellAt 0 (by omega), bv_get, hyb]; rfl
        have fy : w4.frozen? ⟨g, 0, none⟩ = false := ow4.frozenAt 0
        obtain ⟨xb, hxb⟩ : ∃ xb, yb ^^^ u = xb := ⟨_, rfl⟩
        have hx := xor_byte yb u
        rw [hxb] at hx
        have hxn : xb ≠ yb := by rw [← hxb]; exact xor_ne hu.out
        clear hxb
        have DM := Lib.hid (HB.out ▸ damage (vals_ok hf.out) (x := xb) (HB.out ▸ hyb) hxn)
        have ow5 := own_store ow4 0 xb
        have rs5 : Rs (w4.setCell ⟨g, 0, none⟩ (.int .u8 (xb.toNat : Int))) w3.heap.size A4 n4 c4 l4 :=
          RS4.out.kept (set_grown w4 ⟨g, 0, none⟩ _) (by
            rcases h : blk A4 with _ | p
            · exact .inl rfl
            · refine .inr fun e => ?_
              have h1 := (own_blk_le RS4.out.row h).1
              have e2 : p = g := (by first | (rw [h] at e; injection e) | (injection e)); omega) (fun r hr => by
            rcases h : blk r.A with _ | p
            · exact .inl rfl
            · refine .inr fun e => ?_
              have h1 := (own_blk_le (RS4.out.dat r hr) h).1
              have e2 : p = g := (by first | (rw [h] at e; injection e) | (injection e)); omega)
        have OW5 := Lib.hid ow5
        have RS5 := Lib.hid rs5
        have bw5 : Below w.heap.size w (w4.setCell ⟨g, 0, none⟩ (.int .u8 (xb.toNat : Int))) := bw4.setCell (by show w.heap.size ≤ g; have := bw2.size; omega) _
        have hi1 : ((0 : Nat) : Int) < (q : Int) := by omega
        clear ow4 ow5 rs5 hyb RS4 OW3 hxn
        go_wp2_with fail
        obtain ⟨w5, hw5⟩ : ∃ w5, w4.setCell ⟨g, 0, none⟩ (.int .u8 (xb.toNat : Int)) = w5 := ⟨_, rfl⟩
        rw [hw5] at OW5 RS5 bw5 ⊢
        clear hw5 cy fy hx
        go_at_call 19
        refine (Read_any (b := b.set 0 xb) _ (Lib.hid (by rw [List.length_set]; exact HQ.out)) (Lib.hid (Rd.of_own OW5.out)) (by omega)).mono ?_
        rintro e w6 ⟨A6, n6, c6, l6, rfl, hl6, rs6, b6⟩
        obtain ⟨pp, rr, ss, d1, d2, d3, d4, d5⟩ := DM.out
        rw [d4] at hl6
        rw [d5]
        have bw6 := bw5.trans (b6.mono bw5.size)
        have S4 := Lib.hid (RS5.out.rr.below b6)
        have S6 := Lib.hid rs6.rr
        have HL6 := Lib.hid hl6
        have HL4' : Hid (l4.map RV.r = pp ++ rr :: ss) := Lib.hid (by rw [HL4.out, ← HB.out, rd_encs (vals_ok hf.out)]; exact d1)
        have hn6 : n6 = pp.length := by rw [rs6.len, ← HL6.out, List.length_map]
        have hoks : ∀ r ∈ pp ++ rr :: ss, ok r := fun r hr => vals_ok hf.out r (by rw [d1]; exact hr)
        have HOK := Lib.hid hoks
        have HD2 := Lib.hid d2
        have HD3 := Lib.hid d3
        have HN6 := Lib.hid hn6
        have hel := encs_ge pp
        clear b6 rs6 hl6 d1 d4 d5 bw5 RS5 OW5 DM HL4 hn6 hoks
        obtain ⟨ee, hee⟩ : ∃ ee, (encs pp).length = ee := ⟨_, rfl⟩
        rw [hee] at d2 d3 hel ⊢
        have HEE := Lib.hid hee
        clear hee
        have hn6 : n6 ≤ 164680 := by have := HN6.out; omega
        go_wp2_with fail
        go_at_call 27
        refine (begins_any _ S6 S4).mono ?_
        rintro e w7 ⟨rfl, b7⟩
        rw [show begB (l6.map RV.r) (l4.map RV.r) = true by rw [HL6.out, HL4'.out]; exact begB_t rfl]
        have bw7 := bw6.trans (b7.mono bw6.size)
        have S4' := Lib.hid (S4.out.below b7)
        have hnc4 := S4'.out.row.nc
        have hc63 := S4'.out.row.c63
        clear b7 S4 S6 bw6
        have hn4 : pp.length < n4 := by have h1 := S4'.out.len; have h2 := congrArg List.length HL4'.out; rw [List.length_map, List.length_append, List.length_cons] at h2; omega
        go_wp2_with fail
        go_loopw [13, 64] (fun v k wr => ∃ (j : Nat), j ≤ pp.length ∧ k = .int .i64 j ∧ v = .int .i64 ((encs (pp.take j)).length : Nat) ∧ Below w7.heap.size w7 wr) (fun _ k _ => (n4 - intOf k).toNat)
        case atStart => exact ⟨0, by omega, rfl, rfl, Below.refl _ _⟩
        case round =>
          obtain ⟨j, hj, rfl, rfl, bw⟩ := hrel
          have hz := bw.size
          have hlt : j < n4 := by omega
          obtain ⟨ge, hge⟩ : ∃ ge, (encs (pp.take j)).length = ge := ⟨_, rfl⟩
          have hgle := encs_take_le pp j
          rw [hge, HEE.out] at hgle
          obtain ⟨g1, o1, r, rfl, hg1, hr, hrm, a0, a1, a2⟩ := (S4'.out.below bw).rec_ hlt
          have hrr := map_at hr
          rw [HL4'.out] at hrr
          have hro : ok r.r := HOK.out _ (List.mem_of_getElem? hrr)
          have hrl : r.d.length ≤ 4096 := ok_len hro
          by_cases hjp : j < pp.length
          · have hpr : pp[j]? = some r.r := by rw [List.getElem?_append_left hjp] at hrr; exact hrr
            have HT : Hid ((encs (pp.take (j + 1))).length = ge + (21 + r.d.length)) := Lib.hid (by
              rw [List.take_add_one, hpr]; show (encs (pp.take j ++ [r.r])).length = _; rw [encs_snoc, List.length_append, enc_len, hge]; rfl)
            have h8 := encs_take_le pp (j + 1)
            rw [HEE.out, HT.out] at h8
            have HGE := Lib.hid hge
            rw [hge]
            obtain ⟨nx, hnx⟩ : ∃ nx, r.d.length = nx := ⟨_, rfl⟩
            rw [hnx] at a2 hrl h8 HT
            clear hnx hge hrr hr hro hpr
            exfalso; omega
          · obtain rfl : j = pp.length := by omega
            have hrr' : rr = r.r := by
              rw [List.getElem?_append_right (Nat.le_refl _), Nat.sub_self] at hrr
              simpa using hrr
            have hge2 : ge = ee := by rw [← hge, List.take_length, HEE.out]
            have hd3 : 0 < ee + (21 + r.d.length) := by rw [hrr'] at d3; exact d3
            rw [hge]
            obtain ⟨nx, hnx⟩ : ∃ nx, r.d.length = nx := ⟨_, rfl⟩
            rw [hnx] at a2 hrl hd3
            have heq : ((n6 : Int) == (pp.length : Int)) = true := by rw [HN6.out]; simp
            have bw' : Below w.heap.size w (wr.alloc (.cells #[.int .i64 r.k, .int .i64 r.t, .slice r.A nx r.c] 24)) := (bw7.trans (bw.mono bw7.size)).alloc (Nat.le_trans bw7.size hz) _
            clear hnx hge hrr hr hro hrr'
            have hlt2 : 0 < ge + (21 + nx) := by omega
            clear hge2
            go_wp2_with fail
            go_ret
            exact ⟨rfl, bw'⟩
    · have hkk := Lib.hid hk0
      obtain ⟨i, hi⟩ : ∃ i : Nat, k % (q : Int) = i := Int.eq_ofNat_of_zero_le (Int.emod_nonneg k (show (q : Int) ≠ 0 by omega))
      have hiq : i < q := by have := Int.emod_lt_of_pos k (show (0 : Int) < (q : Int) by omega); omega
      obtain ⟨g, rfl, hqc, hcm⟩ := own_pos OW3.out hq0
      go_wp2_with fail
      go_at_call 19
      refine (Read_any _ HQ (Lib.hid (Rd.of_own OW3.out)) (by omega)).mono ?_
      rintro e w4 ⟨A4, n4, c4, l4, rfl, hl4, rs4, b4⟩
      have bw4 := bw3.trans (b4.mono bw3.size)
      have ow4 := own_below OW3.out b4
      have hgl := (own_blk_le (g := g) OW3.out rfl).2
      have hgb := (own_blk_le (g := g) OW3.out rfl).1
      have z4 := b4.size
      have RS4 := Lib.hid rs4
      have HL4 := Lib.hid hl4
      clear hl4 rs4 b4
      obtain ⟨yb, hyb⟩ : ∃ yb, b[i]? = some yb := ⟨b[i]'(by have := HQ.out; omega), List.getElem?_eq_getElem _⟩
      have cy : w4.cell? ⟨g, i, none⟩ = some (.int .u8 (yb.toNat : Int)) := by
        rw [ow4.cellAt i (by omega), bv_get, hyb]; rfl
      have fy : w4.frozen? ⟨g, i, none⟩ = false := ow4.frozenAt i
      obtain ⟨xb, hxb⟩ : ∃ xb, yb ^^^ u = xb := ⟨_, rfl⟩
      have hx := xor_byte yb u
      rw [hxb] at hx
      have hxn : xb ≠ yb := by rw [← hxb]; exact xor_ne hu.out
      clear hxb
      have DM := Lib.hid (HB.out ▸ damage (vals_ok hf.out) (x := xb) (HB.out ▸ hyb) hxn)
      have ow5 := own_store ow4 i xb
      have rs5 : Rs (w4.setCell ⟨g, i, none⟩ (.int .u8 (xb.toNat : Int))) w3.heap.size A4 n4 c4 l4 :=
        RS4.out.kept (set_grown w4 ⟨g, i, none⟩ _) (by
          rcases h : blk A4 with _ | p
          · exact .inl rfl
          · refine .inr fun e => ?_
            have h1 := (own_blk_le RS4.out.row h).1
            have e2 : p = g := (by first | (rw [h] at e; injection e) | (injection e)); omega) (fun r hr => by
          rcases h : blk r.A with _ | p
          · exact .inl rfl
          · refine .inr fun e => ?_
            have h1 := (own_blk_le (RS4.out.dat r hr) h).1
            have e2 : p = g := (by first | (rw [h] at e; injection e) | (injection e)); omega)
      have OW5 := Lib.hid ow5
      have RS5 := Lib.hid rs5
      have bw5 : Below w.heap.size w (w4.setCell ⟨g, i, none⟩ (.int .u8 (xb.toNat : Int))) := bw4.setCell (by show w.heap.size ≤ g; have := bw2.size; omega) _
      have hi1 : (i : Int) < (q : Int) := by omega
      clear ow4 ow5 rs5 hyb RS4 OW3 hxn
      go_wp2_with fail
      obtain ⟨w5, hw5⟩ : ∃ w5, w4.setCell ⟨g, i, none⟩ (.int .u8 (xb.toNat : Int)) = w5 := ⟨_, rfl⟩
      rw [hw5] at OW5 RS5 bw5 ⊢
      clear hw5 cy fy hx
      go_at_call 19
      refine (Read_any (b := b.set i xb) _ (Lib.hid (by rw [List.length_set]; exact HQ.out)) (Lib.hid (Rd.of_own OW5.out)) (by omega)).mono ?_
      rintro e w6 ⟨A6, n6, c6, l6, rfl, hl6, rs6, b6⟩
      obtain ⟨pp, rr, ss, d1, d2, d3, d4, d5⟩ := DM.out
      rw [d4] at hl6
      rw [d5]
      have bw6 := bw5.trans (b6.mono bw5.size)
      have S4 := Lib.hid (RS5.out.rr.below b6)
      have S6 := Lib.hid rs6.rr
      have HL6 := Lib.hid hl6
      have HL4' : Hid (l4.map RV.r = pp ++ rr :: ss) := Lib.hid (by rw [HL4.out, ← HB.out, rd_encs (vals_ok hf.out)]; exact d1)
      have hn6 : n6 = pp.length := by rw [rs6.len, ← HL6.out, List.length_map]
      have hoks : ∀ r ∈ pp ++ rr :: ss, ok r := fun r hr => vals_ok hf.out r (by rw [d1]; exact hr)
      have HOK := Lib.hid hoks
      have HD2 := Lib.hid d2
      have HD3 := Lib.hid d3
      have HN6 := Lib.hid hn6
      have hel := encs_ge pp
      clear b6 rs6 hl6 d1 d4 d5 bw5 RS5 OW5 DM HL4 hn6 hoks
      obtain ⟨ee, hee⟩ : ∃ ee, (encs pp).length = ee := ⟨_, rfl⟩
      rw [hee] at d2 d3 hel ⊢
      have HEE := Lib.hid hee
      clear hee
      have hn6 : n6 ≤ 164680 := by have := HN6.out; omega
      go_wp2_with fail
      go_at_call 27
      refine (begins_any _ S6 S4).mono ?_
      rintro e w7 ⟨rfl, b7⟩
      rw [show begB (l6.map RV.r) (l4.map RV.r) = true by rw [HL6.out, HL4'.out]; exact begB_t rfl]
      have bw7 := bw6.trans (b7.mono bw6.size)
      have S4' := Lib.hid (S4.out.below b7)
      have hnc4 := S4'.out.row.nc
      have hc63 := S4'.out.row.c63
      clear b7 S4 S6 bw6
      have hn4 : pp.length < n4 := by have h1 := S4'.out.len; have h2 := congrArg List.length HL4'.out; rw [List.length_map, List.length_append, List.length_cons] at h2; omega
      go_wp2_with fail
      go_loopw [13, 64] (fun v k wr => ∃ (j : Nat), j ≤ pp.length ∧ k = .int .i64 j ∧ v = .int .i64 ((encs (pp.take j)).length : Nat) ∧ Below w7.heap.size w7 wr) (fun _ k _ => (n4 - intOf k).toNat)
      case atStart => exact ⟨0, by omega, rfl, rfl, Below.refl _ _⟩
      case round =>
        obtain ⟨j, hj, rfl, rfl, bw⟩ := hrel
        have hz := bw.size
        have hlt : j < n4 := by omega
        obtain ⟨ge, hge⟩ : ∃ ge, (encs (pp.take j)).length = ge := ⟨_, rfl⟩
        have hgle := encs_take_le pp j
        rw [hge, HEE.out] at hgle
        obtain ⟨g1, o1, r, rfl, hg1, hr, hrm, a0, a1, a2⟩ := (S4'.out.below bw).rec_ hlt
        have hrr := map_at hr
        rw [HL4'.out] at hrr
        have hro : ok r.r := HOK.out _ (List.mem_of_getElem? hrr)
        have hrl : r.d.length ≤ 4096 := ok_len hro
        by_cases hjp : j < pp.length
        · have hpr : pp[j]? = some r.r := by rw [List.getElem?_append_left hjp] at hrr; exact hrr
          have HT : Hid ((encs (pp.take (j + 1))).length = ge + (21 + r.d.length)) := Lib.hid (by
            rw [List.take_add_one, hpr]; show (encs (pp.take j ++ [r.r])).length = _; rw [encs_snoc, List.length_append, enc_len, hge]; rfl)
          have h8 := encs_take_le pp (j + 1)
          rw [HEE.out, HT.out] at h8
          have HGE := Lib.hid hge
          rw [hge]
          obtain ⟨nx, hnx⟩ : ∃ nx, r.d.length = nx := ⟨_, rfl⟩
          rw [hnx] at a2 hrl h8 HT
          clear hnx hge hrr hr hro hpr
          have hle : ge + (21 + nx) ≤ i := by omega
          have bw' : Below w7.heap.size w7 (wr.alloc (.cells #[.int .i64 r.k, .int .i64 r.t, .slice r.A nx r.c] 24)) := bel_alloc bw (Nat.le_refl _) _
          go_wp2_with fail
          go_roundw
          case rel => exact ⟨j + 1, by omega, by go_num, by rw [HT.out]; go_num, bw'⟩
          case measure => simp [intOf]; omega
        · obtain rfl : j = pp.length := by omega
          have hrr' : rr = r.r := by
            rw [List.getElem?_append_right (Nat.le_refl _), Nat.sub_self] at hrr
            simpa using hrr
          have hge2 : ge = ee := by rw [← hge, List.take_length, HEE.out]
          have hd3 : i < ee + (21 + r.d.length) := by rw [hrr'] at d3; exact d3
          rw [hge]
          obtain ⟨nx, hnx⟩ : ∃ nx, r.d.length = nx := ⟨_, rfl⟩
          rw [hnx] at a2 hrl hd3
          have heq : ((n6 : Int) == (pp.length : Int)) = true := by rw [HN6.out]; simp
          have bw' : Below w.heap.size w (wr.alloc (.cells #[.int .i64 r.k, .int .i64 r.t, .slice r.A nx r.c] 24)) := (bw7.trans (bw.mono bw7.size)).alloc (Nat.le_trans bw7.size hz) _
          clear hnx hge hrr hr hro hrr'
          have hlt2 : i < ge + (21 + nx) := by omega
          clear hge2
          go_wp2_with fail
          go_ret
          exact ⟨rfl, bw'⟩
  · go_wp2_with fail
    go_ret
    exact ⟨rfl, bw2⟩
end Go.Proofs.Ytfkeedeiafegiaa.Wl
