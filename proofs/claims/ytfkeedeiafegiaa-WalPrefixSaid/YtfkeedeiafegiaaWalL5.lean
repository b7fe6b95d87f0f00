/- The law: WalPrefix. -/
import Derived.Test.YtfkeedeiafegiaaWalL4
namespace Go.Proofs.Ytfkeedeiafegiaa.Wl
set_option linter.unusedVariables false
set_option linter.unusedSimpArgs false
open Go.RowKit

set_option maxHeartbeats 1600000 in
theorem WalPrefix_walk (A : Option Addr) (n c : Nat) (l : List RV) (k : Int) (w : World) (h : Hid (Rr w A n c l)) (hf : Hid (Fit l)) (k1 : -9223372036854775808 ≤ k) (k2 : k ≤ 9223372036854775807) :
    Calls Try.prog 7 #[.slice A n c, .int .i64 k] w fun e w' => e = .returned (.bool true) ∧ Below w.heap.size w w' := by
  go_enter Try.func7, Try.ntmps7
  go_wp2_with fail
  go_at_call 13
  refine (awake_any _).mono ?_
  rintro e w1 ⟨rfl, b1⟩
  have h1 := Lib.hid (h.out.below b1)
  go_wp2_with fail
  go_at_call 17
  refine (great_any _ h1).mono ?_
  rintro e w2 ⟨rfl, b2⟩
  have h2 := Lib.hid (h1.out.below b2)
  have bw2 := b1.trans (b2.mono b1.size)
  clear b1 b2 h1
  rcases hg : greatB l with _ | _
  · have hgr := greatB_f hg
    have h40 : n ≤ 40 := by rw [h.out.len]; exact hgr.1
    have h5 := Lib.hid hgr.2
    have hll := log_le hg
    clear hg hgr
    go_wp2_with fail
    go_at_call 18
    refine (log_any _ h2 hf h40 h5).mono ?_
    obtain ⟨b, hb⟩ : ∃ b, encs (vals l) = b := ⟨_, rfl⟩
    have PF := Lib.hid (pre_facts hf.out hb)
    rw [hb] at hll ⊢
    clear hb
    obtain ⟨q, hq⟩ : ∃ q, b.length = q := ⟨_, rfl⟩
    rw [hq] at hll ⊢
    have HQ := Lib.hid hq.symm
    clear hq
    rintro e w3 ⟨A3, c3, rfl, own3, b3⟩
    have bw3 := bw2.trans (b3.mono bw2.size)
    have R3 := Lib.hid (Rd.of_own own3)
    clear own3 b3 h2 bw2
    rcases Nat.eq_zero_or_pos q with hq0 | hq0
    · have hnq : ¬ 0 < q := by omega
      have hq0' := Lib.hid hq0
      clear hq0
      go_wp2_with fail
      go_at_call 26
      refine (Cut_some _ _ HQ R3 (by omega) k1 k2).mono ?_
      rintro e w4 ⟨kc, A4, c4, rfl, own4, b4⟩
      obtain ⟨g1, g2, g3, g4, g5, g6⟩ := PF.out kc
      have G1 := Lib.hid g1
      have G4 := Lib.hid g4
      have G5 := Lib.hid g5
      have G6 := Lib.hid g6
      have R4 := Lib.hid (Rd.of_own own4)
      have hkc : kc = (b.take kc).length := by have := own4.1; rw [bv_len] at this; omega
      have HKC := Lib.hid hkc
      have bw4 := bw3.trans (b4.mono bw3.size)
      have R3' := Lib.hid (R3.out.below b4)
      have hkq : kc ≤ q := by have := HQ.out; have h9 := hkc; rw [List.length_take] at h9; omega
      clear own4 b4 g1 g4 g5 g6 hkc R3 bw3
      obtain ⟨cb, hcb⟩ : ∃ cb, b.take kc = cb := ⟨_, rfl⟩
      rw [hcb] at R4 HKC g3 G4 G5 G6
      clear hcb
      go_wp2_with fail
      go_at_call 19
      refine (Read_any _ HKC R4 (by omega)).mono ?_
      rintro e w5 ⟨A5, n5, c5, l5, rfl, hl5, rs5, b5⟩
      have bw5 := bw4.trans (b5.mono bw4.size)
      have R3 := Lib.hid (R3'.out.below b5)
      have R4' := Lib.hid (R4.out.below b5)
      have S5 := Lib.hid rs5.rr
      have HL5 := Lib.hid hl5
      clear b5 rs5 hl5 R3' R4 bw4
      obtain ⟨gc, hgc⟩ : ∃ gc, glen cb = gc := ⟨_, rfl⟩
      rw [hgc] at g3 G6 ⊢
      rw [← HKC.out] at g3
      clear hgc
      go_wp2_with fail
      go_at_call 19
      refine (Read_any _ HQ R3 (by omega)).mono ?_
      rintro e w6 ⟨A6, n6, c6, l6, rfl, hl6, rs6, b6⟩
      have bw6 := bw5.trans (b6.mono bw5.size)
      have R3' := Lib.hid (R3.out.below b6)
      have R4 := Lib.hid (R4'.out.below b6)
      have S5' := Lib.hid (S5.out.below b6)
      have S6 := Lib.hid rs6.rr
      have HL6 := Lib.hid hl6
      rw [show glen b = q by rw [g2, ← HQ.out]]
      clear b6 rs6 hl6 R3 R4' bw5 S5 g2
      go_wp2_with fail
      go_at_call 27
      refine (begins_any _ S5' S6).mono ?_
      rintro e w7 ⟨rfl, b7⟩
      rw [show begB (l5.map RV.r) (l6.map RV.r) = true by rw [HL5.out, HL6.out]; exact G4.out]
      have bw7 := bw6.trans (b7.mono bw6.size)
      have R3 := Lib.hid (R3'.out.below b7)
      have R4' := Lib.hid (R4.out.below b7)
      have S5 := Lib.hid (S5'.out.below b7)
      have S6' := Lib.hid (S6.out.below b7)
      clear b7 R3' R4 S5' S6 bw6
      go_wp2_with fail
      go_at_call 24
      refine (Committed_any _ HKC R4' (by omega)).mono ?_
      rintro e w8 ⟨A8, n8, c8, l8, rfl, rs8, hl8, b8⟩
      have bw8 := bw7.trans (b8.mono bw7.size)
      have R3' := Lib.hid (R3.out.below b8)
      have S5' := Lib.hid (S5.out.below b8)
      have S6 := Lib.hid (S6'.out.below b8)
      have S8 := Lib.hid rs8.rr
      have HL8 := Lib.hid hl8
      clear b8 R3 R4' S5 S6' bw7 rs8 hl8
      go_wp2_with fail
      go_at_call 24
      refine (Committed_any _ HQ R3' (by omega)).mono ?_
      rintro e w9 ⟨A9, n9, c9, l9, rfl, rs9, hl9, b9⟩
      have bw9 := bw8.trans (b9.mono bw8.size)
      have S5 := Lib.hid (S5'.out.below b9)
      have S6' := Lib.hid (S6.out.below b9)
      have S8' := Lib.hid (S8.out.below b9)
      have S9 := Lib.hid rs9.rr
      have HL9 := Lib.hid hl9
      clear b9 R3' S5' S6 S8 bw8 rs9 hl9
      go_wp2_with fail
      go_at_call 27
      refine (begins_any _ S8' S9).mono ?_
      rintro e w10 ⟨rfl, b10⟩
      rw [show begB (l8.map RV.r) (l9.map RV.r) = true by rw [HL8.out, HL9.out]; exact G5.out]
      have bw10 := bw9.trans (b10.mono bw9.size)
      have S6 := Lib.hid (S6'.out.below b10)
      clear b10 S6' S8' S9 bw9
      have hn5 : n5 = (rd cb).length := by rw [S5.out.len, ← HL5.out, List.length_map]
      have hn6 : n6 = (rd b).length := by rw [S6.out.len, ← HL6.out, List.length_map]
      by_cases h56 : n5 = n6
      · have he : ((n5 : Int) == (n6 : Int)) = true := by simp; omega
        have hn63 := S6.out.row.c63
        clear hn5 hn6
        subst h56
        go_wp2_with fail
        go_ret
        exact ⟨rfl, bw10⟩
      · have he : ((n5 : Int) == (n6 : Int)) = false := by simp; omega
        have hfit : ∃ (g o : Nat) (x : RV), A6 = some ⟨g, o, none⟩ ∧ g < w10.heap.size ∧ n5 < n6 ∧ w10.cell? ⟨g, o + n5 * 3 + 2, none⟩ = some (.slice x.A x.d.length x.c) ∧ kc < gc + (21 + x.d.length) ∧ x.d.length ≤ 4096 := by
          rcases G6.out with hh | ⟨r, hr, hlt⟩
          · exact absurd (by rw [hn5, hn6, hh]) h56
          · have hi : n5 < n6 := by have := (List.getElem?_eq_some_iff.1 hr).1; omega
            obtain ⟨g, o, x, ea, hg, hx, hxm, _, _, c2⟩ := S6.out.rec_ hi
            have : some x.r = some r := by rw [← map_at hx, HL6.out, hn5, hr]
            have hxr : x.r = r := Option.some.inj this
            have hxd : r.d = x.d := by rw [← hxr]; rfl
            refine ⟨g, o, x, ea, hg, hi, c2, ?_, ?_⟩
            · have h9 := HKC.out; rw [hxd] at hlt; omega
            · have := ok_len (rd_ok b r (List.mem_of_getElem? hr)); rw [hxd] at this; exact this
        obtain ⟨g, o, x, rfl, hg, hi, cc, hlt, h4⟩ := hfit
        obtain ⟨nx, hnx⟩ : ∃ nx, x.d.length = nx := ⟨_, rfl⟩
        rw [hnx] at cc hlt h4
        have hn63 := S6.out.row.c63
        have hn64 := S6.out.row.nc
        clear hn5 hn6 hnx h56
        go_wp2_with fail
        go_ret
        exact ⟨ret_bool (decide_eq_true (by omega)), bw10⟩
    · rcases Int.lt_or_le k 0 with hk0 | hk0
      · rcases Int.lt_or_le (-9223372036854775808) k with hk1 | hk1
        · go_wp2_with fail
          go_at_call 26
          refine (Cut_some _ _ HQ R3 (by omega) (by have := Int.tmod_lt_of_pos k (show (0 : Int) < (q : Int) + 1 by omega); omega) (by have := Int.lt_tmod_of_pos k (show (0 : Int) < (q : Int) + 1 by omega); omega)).mono ?_
          rintro e w4 ⟨kc, A4, c4, rfl, own4, b4⟩
          obtain ⟨g1, g2, g3, g4, g5, g6⟩ := PF.out kc
          have G1 := Lib.hid g1
          have G4 := Lib.hid g4
          have G5 := Lib.hid g5
          have G6 := Lib.hid g6
          have R4 := Lib.hid (Rd.of_own own4)
          have hkc : kc = (b.take kc).length := by have := own4.1; rw [bv_len] at this; omega
          have HKC := Lib.hid hkc
          have bw4 := bw3.trans (b4.mono bw3.size)
          have R3' := Lib.hid (R3.out.below b4)
          have hkq : kc ≤ q := by have := HQ.out; have h9 := hkc; rw [List.length_take] at h9; omega
          clear own4 b4 g1 g4 g5 g6 hkc R3 bw3
          obtain ⟨cb, hcb⟩ : ∃ cb, b.take kc = cb := ⟨_, rfl⟩
          rw [hcb] at R4 HKC g3 G4 G5 G6
          clear hcb
          go_wp2_with fail
          go_at_call 19
          refine (Read_any _ HKC R4 (by omega)).mono ?_
          rintro e w5 ⟨A5, n5, c5, l5, rfl, hl5, rs5, b5⟩
          have bw5 := bw4.trans (b5.mono bw4.size)
          have R3 := Lib.hid (R3'.out.below b5)
          have R4' := Lib.hid (R4.out.below b5)
          have S5 := Lib.hid rs5.rr
          have HL5 := Lib.hid hl5
          clear b5 rs5 hl5 R3' R4 bw4
          obtain ⟨gc, hgc⟩ : ∃ gc, glen cb = gc := ⟨_, rfl⟩
          rw [hgc] at g3 G6 ⊢
          rw [← HKC.out] at g3
          clear hgc
          go_wp2_with fail
          go_at_call 19
          refine (Read_any _ HQ R3 (by omega)).mono ?_
          rintro e w6 ⟨A6, n6, c6, l6, rfl, hl6, rs6, b6⟩
          have bw6 := bw5.trans (b6.mono bw5.size)
          have R3' := Lib.hid (R3.out.below b6)
          have R4 := Lib.hid (R4'.out.below b6)
          have S5' := Lib.hid (S5.out.below b6)
          have S6 := Lib.hid rs6.rr
          have HL6 := Lib.hid hl6
          rw [show glen b = q by rw [g2, ← HQ.out]]
          clear b6 rs6 hl6 R3 R4' bw5 S5 g2
          go_wp2_with fail
          go_at_call 27
          refine (begins_any _ S5' S6).mono ?_
          rintro e w7 ⟨rfl, b7⟩
          rw [show begB (l5.map RV.r) (l6.map RV.r) = true by rw [HL5.out, HL6.out]; exact G4.out]
          have bw7 := bw6.trans (b7.mono bw6.size)
          have R3 := Lib.hid (R3'.out.below b7)
          have R4' := Lib.hid (R4.out.below b7)
          have S5 := Lib.hid (S5'.out.below b7)
          have S6' := Lib.hid (S6.out.below b7)
          clear b7 R3' R4 S5' S6 bw6
          go_wp2_with fail
          go_at_call 24
          refine (Committed_any _ HKC R4' (by omega)).mono ?_
          rintro e w8 ⟨A8, n8, c8, l8, rfl, rs8, hl8, b8⟩
          have bw8 := bw7.trans (b8.mono bw7.size)
          have R3' := Lib.hid (R3.out.below b8)
          have S5' := Lib.hid (S5.out.below b8)
          have S6 := Lib.hid (S6'.out.below b8)
          have S8 := Lib.hid rs8.rr
          have HL8 := Lib.hid hl8
          clear b8 R3 R4' S5 S6' bw7 rs8 hl8
          go_wp2_with fail
          go_at_call 24
          refine (Committed_any _ HQ R3' (by omega)).mono ?_
          rintro e w9 ⟨A9, n9, c9, l9, rfl, rs9, hl9, b9⟩
          have bw9 := bw8.trans (b9.mono bw8.size)
          have S5 := Lib.hid (S5'.out.below b9)
          have S6' := Lib.hid (S6.out.below b9)
          have S8' := Lib.hid (S8.out.below b9)
          have S9 := Lib.hid rs9.rr
          have HL9 := Lib.hid hl9
          clear b9 R3' S5' S6 S8 bw8 rs9 hl9
          go_wp2_with fail
          go_at_call 27
          refine (begins_any _ S8' S9).mono ?_
          rintro e w10 ⟨rfl, b10⟩
          rw [show begB (l8.map RV.r) (l9.map RV.r) = true by rw [HL8.out, HL9.out]; exact G5.out]
          have bw10 := bw9.trans (b10.mono bw9.size)
          have S6 := Lib.hid (S6'.out.below b10)
          clear b10 S6' S8' S9 bw9
          have hn5 : n5 = (rd cb).length := by rw [S5.out.len, ← HL5.out, List.length_map]
          have hn6 : n6 = (rd b).length := by rw [S6.out.len, ← HL6.out, List.length_map]
          by_cases h56 : n5 = n6
          · have he : ((n5 : Int) == (n6 : Int)) = true := by simp; omega
            have hn63 := S6.out.row.c63
            clear hn5 hn6
            subst h56
            go_wp2_with fail
            go_ret
            exact ⟨rfl, bw10⟩
          · have he : ((n5 : Int) == (n6 : Int)) = false := by simp; omega
            have hfit : ∃ (g o : Nat) (x : RV), A6 = some ⟨g, o, none⟩ ∧ g < w10.heap.size ∧ n5 < n6 ∧ w10.cell? ⟨g, o + n5 * 3 + 2, none⟩ = some (.slice x.A x.d.length x.c) ∧ kc < gc + (21 + x.d.length) ∧ x.d.length ≤ 4096 := by
              rcases G6.out with hh | ⟨r, hr, hlt⟩
              · exact absurd (by rw [hn5, hn6, hh]) h56
              · have hi : n5 < n6 := by have := (List.getElem?_eq_some_iff.1 hr).1; omega
                obtain ⟨g, o, x, ea, hg, hx, hxm, _, _, c2⟩ := S6.out.rec_ hi
                have : some x.r = some r := by rw [← map_at hx, HL6.out, hn5, hr]
                have hxr : x.r = r := Option.some.inj this
                have hxd : r.d = x.d := by rw [← hxr]; rfl
                refine ⟨g, o, x, ea, hg, hi, c2, ?_, ?_⟩
                · have h9 := HKC.out; rw [hxd] at hlt; omega
                · have := ok_len (rd_ok b r (List.mem_of_getElem? hr)); rw [hxd] at this; exact this
            obtain ⟨g, o, x, rfl, hg, hi, cc, hlt, h4⟩ := hfit
            obtain ⟨nx, hnx⟩ : ∃ nx, x.d.length = nx := ⟨_, rfl⟩
            rw [hnx] at cc hlt h4
            have hn63 := S6.out.row.c63
            have hn64 := S6.out.row.nc
            clear hn5 hn6 hnx h56
            go_wp2_with fail
            go_ret
            exact ⟨ret_bool (decide_eq_true (by omega)), bw10⟩
        · obtain rfl : k = -9223372036854775808 := by omega
          have hw : wrap64 9223372036854775808 = -9223372036854775808 := by unfold wrap64; rfl
          go_wp2_with fail
          go_at_call 26
          refine (Cut_some _ _ HQ R3 (by omega) (by decide) (by decide)).mono ?_
          rintro e w4 ⟨kc, A4, c4, rfl, own4, b4⟩
          obtain ⟨g1, g2, g3, g4, g5, g6⟩ := PF.out kc
          have G1 := Lib.hid g1
          have G4 := Lib.hid g4
          have G5 := Lib.hid g5
          have G6 := Lib.hid g6
          have R4 := Lib.hid (Rd.of_own own4)
          have hkc : kc = (b.take kc).length := by have := own4.1; rw [bv_len] at this; omega
          have HKC := Lib.hid hkc
          have bw4 := bw3.trans (b4.mono bw3.size)
          have R3' := Lib.hid (R3.out.below b4)
          have hkq : kc ≤ q := by have := HQ.out; have h9 := hkc; rw [List.length_take] at h9; omega
          clear own4 b4 g1 g4 g5 g6 hkc R3 bw3
          obtain ⟨cb, hcb⟩ : ∃ cb, b.take kc = cb := ⟨_, rfl⟩
          rw [hcb] at R4 HKC g3 G4 G5 G6
          clear hcb
          go_wp2_with fail
          go_at_call 19
          refine (Read_any _ HKC R4 (by omega)).mono ?_
          rintro e w5 ⟨A5, n5, c5, l5, rfl, hl5, rs5, b5⟩
          have bw5 := bw4.trans (b5.mono bw4.size)
          have R3 := Lib.hid (R3'.out.below b5)
          have R4' := Lib.hid (R4.out.below b5)
          have S5 := Lib.hid rs5.rr
          have HL5 := Lib.hid hl5
          clear b5 rs5 hl5 R3' R4 bw4
          obtain ⟨gc, hgc⟩ : ∃ gc, glen cb = gc := ⟨_, rfl⟩
          rw [hgc] at g3 G6 ⊢
          rw [← HKC.out] at g3
          clear hgc
          go_wp2_with fail
          go_at_call 19
          refine (Read_any _ HQ R3 (by omega)).mono ?_
          rintro e w6 ⟨A6, n6, c6, l6, rfl, hl6, rs6, b6⟩
          have bw6 := bw5.trans (b6.mono bw5.size)
          have R3' := Lib.hid (R3.out.below b6)
          have R4 := Lib.hid (R4'.out.below b6)
          have S5' := Lib.hid (S5.out.below b6)
          have S6 := Lib.hid rs6.rr
          have HL6 := Lib.hid hl6
          rw [show glen b = q by rw [g2, ← HQ.out]]
          clear b6 rs6 hl6 R3 R4' bw5 S5 g2
          go_wp2_with fail
          go_at_call 27
          refine (begins_any _ S5' S6).mono ?_
          rintro e w7 ⟨rfl, b7⟩
          rw [show begB (l5.map RV.r) (l6.map RV.r) = true by rw [HL5.out, HL6.out]; exact G4.out]
          have bw7 := bw6.trans (b7.mono bw6.size)
          have R3 := Lib.hid (R3'.out.below b7)
          have R4' := Lib.hid (R4.out.below b7)
          have S5 := Lib.hid (S5'.out.below b7)
          have S6' := Lib.hid (S6.out.below b7)
          clear b7 R3' R4 S5' S6 bw6
          go_wp2_with fail
          go_at_call 24
          refine (Committed_any _ HKC R4' (by omega)).mono ?_
          rintro e w8 ⟨A8, n8, c8, l8, rfl, rs8, hl8, b8⟩
          have bw8 := bw7.trans (b8.mono bw7.size)
          have R3' := Lib.hid (R3.out.below b8)
          have S5' := Lib.hid (S5.out.below b8)
          have S6 := Lib.hid (S6'.out.below b8)
          have S8 := Lib.hid rs8.rr
          have HL8 := Lib.hid hl8
          clear b8 R3 R4' S5 S6' bw7 rs8 hl8
          go_wp2_with fail
          go_at_call 24
          refine (Committed_any _ HQ R3' (by omega)).mono ?_
          rintro e w9 ⟨A9, n9, c9, l9, rfl, rs9, hl9, b9⟩
          have bw9 := bw8.trans (b9.mono bw8.size)
          have S5 := Lib.hid (S5'.out.below b9)
          have S6' := Lib.hid (S6.out.below b9)
          have S8' := Lib.hid (S8.out.below b9)
          have S9 := Lib.hid rs9.rr
          have HL9 := Lib.hid hl9
          clear b9 R3' S5' S6 S8 bw8 rs9 hl9
          go_wp2_with fail
          go_at_call 27
          refine (begins_any _ S8' S9).mono ?_
          rintro e w10 ⟨rfl, b10⟩
          rw [show begB (l8.map RV.r) (l9.map RV.r) = true by rw [HL8.out, HL9.out]; exact G5.out]
          have bw10 := bw9.trans (b10.mono bw9.size)
          have S6 := Lib.hid (S6'.out.below b10)
          clear b10 S6' S8' S9 bw9
          have hn5 : n5 = (rd cb).length := by rw [S5.out.len, ← HL5.out, List.length_map]
          have hn6 : n6 = (rd b).length := by rw [S6.out.len, ← HL6.out, List.length_map]
          by_cases h56 : n5 = n6
          · have he : ((n5 : Int) == (n6 : Int)) = true := by simp; omega
            have hn63 := S6.out.row.c63
            clear hn5 hn6
            subst h56
            go_wp2_with fail
            go_ret
            exact ⟨rfl, bw10⟩
          · have he : ((n5 : Int) == (n6 : Int)) = false := by simp; omega
            have hfit : ∃ (g o : Nat) (x : RV), A6 = some ⟨g, o, none⟩ ∧ g < w10.heap.size ∧ n5 < n6 ∧ w10.cell? ⟨g, o + n5 * 3 + 2, none⟩ = some (.slice x.A x.d.length x.c) ∧ kc < gc + (21 + x.d.length) ∧ x.d.length ≤ 4096 := by
              rcases G6.out with hh | ⟨r, hr, hlt⟩
              · exact absurd (by rw [hn5, hn6, hh]) h56
              · have hi : n5 < n6 := by have := (List.getElem?_eq_some_iff.1 hr).1; omega
                obtain ⟨g, o, x, ea, hg, hx, hxm, _, _, c2⟩ := S6.out.rec_ hi
                have : some x.r = some r := by rw [← map_at hx, HL6.out, hn5, hr]
                have hxr : x.r = r := Option.some.inj this
                have hxd : r.d = x.d := by rw [← hxr]; rfl
                refine ⟨g, o, x, ea, hg, hi, c2, ?_, ?_⟩
                · have h9 := HKC.out; rw [hxd] at hlt; omega
                · have := ok_len (rd_ok b r (List.mem_of_getElem? hr)); rw [hxd] at this; exact this
            obtain ⟨g, o, x, rfl, hg, hi, cc, hlt, h4⟩ := hfit
            obtain ⟨nx, hnx⟩ : ∃ nx, x.d.length = nx := ⟨_, rfl⟩
            rw [hnx] at cc hlt h4
            have hn63 := S6.out.row.c63
            have hn64 := S6.out.row.nc
            clear hn5 hn6 hnx h56
            go_wp2_with fail
            go_ret
            exact ⟨ret_bool (decide_eq_true (by omega)), bw10⟩
      · go_wp2_with fail
        go_at_call 26
        refine (Cut_some _ _ HQ R3 (by omega) (by have := Int.emod_nonneg k (show (q : Int) + 1 ≠ 0 by omega); omega) (by have := Int.emod_lt_of_pos k (show (0 : Int) < (q : Int) + 1 by omega); omega)).mono ?_
        rintro e w4 ⟨kc, A4, c4, rfl, own4, b4⟩
        obtain ⟨g1, g2, g3, g4, g5, g6⟩ := PF.out kc
        have G1 := Lib.hid g1
        have G4 := Lib.hid g4
        have G5 := Lib.hid g5
        have G6 := Lib.hid g6
        have R4 := Lib.hid (Rd.of_own own4)
        have hkc : kc = (b.take kc).length := by have := own4.1; rw [bv_len] at this; omega
        have HKC := Lib.hid hkc
        have bw4 := bw3.trans (b4.mono bw3.size)
        have R3' := Lib.hid (R3.out.below b4)
        have hkq : kc ≤ q := by have := HQ.out; have h9 := hkc; rw [List.length_take] at h9; omega
        clear own4 b4 g1 g4 g5 g6 hkc R3 bw3
        obtain ⟨cb, hcb⟩ : ∃ cb, b.take kc = cb := ⟨_, rfl⟩
        rw [hcb] at R4 HKC g3 G4 G5 G6
        clear hcb
        go_wp2_with fail
        go_at_call 19
        refine (Read_any _ HKC R4 (by omega)).mono ?_
        rintro e w5 ⟨A5, n5, c5, l5, rfl, hl5, rs5, b5⟩
        have bw5 := bw4.trans (b5.mono bw4.size)
        have R3 := Lib.hid (R3'.out.below b5)
        have R4' := Lib.hid (R4.out.below b5)
        have S5 := Lib.hid rs5.rr
        have HL5 := Lib.hid hl5
        clear b5 rs5 hl5 R3' R4 bw4
        obtain ⟨gc, hgc⟩ : ∃ gc, glen cb = gc := ⟨_, rfl⟩
        rw [hgc] at g3 G6 ⊢
        rw [← HKC.out] at g3
        clear hgc
        go_wp2_with fail
        go_at_call 19
        refine (Read_any _ HQ R3 (by omega)).mono ?_
        rintro e w6 ⟨A6, n6, c6, l6, rfl, hl6, rs6, b6⟩
        have bw6 := bw5.trans (b6.mono bw5.size)
        have R3' := Lib.hid (R3.out.below b6)
        have R4 := Lib.hid (R4'.out.below b6)
        have S5' := Lib.hid (S5.out.below b6)
        have S6 := Lib.hid rs6.rr
        have HL6 := Lib.hid hl6
        rw [show glen b = q by rw [g2, ← HQ.out]]
        clear b6 rs6 hl6 R3 R4' bw5 S5 g2
        go_wp2_with fail
        go_at_call 27
        refine (begins_any _ S5' S6).mono ?_
        rintro e w7 ⟨rfl, b7⟩
        rw [show begB (l5.map RV.r) (l6.map RV.r) = true by rw [HL5.out, HL6.out]; exact G4.out]
        have bw7 := bw6.trans (b7.mono bw6.size)
        have R3 := Lib.hid (R3'.out.below b7)
        have R4' := Lib.hid (R4.out.below b7)
        have S5 := Lib.hid (S5'.out.below b7)
        have S6' := Lib.hid (S6.out.below b7)
        clear b7 R3' R4 S5' S6 bw6
        go_wp2_with fail
        go_at_call 24
        refine (Committed_any _ HKC R4' (by omega)).mono ?_
        rintro e w8 ⟨A8, n8, c8, l8, rfl, rs8, hl8, b8⟩
        have bw8 := bw7.trans (b8.mono bw7.size)
        have R3' := Lib.hid (R3.out.below b8)
        have S5' := Lib.hid (S5.out.below b8)
        have S6 := Lib.hid (S6'.out.below b8)
        have S8 := Lib.hid rs8.rr
        have HL8 := Lib.hid hl8
        clear b8 R3 R4' S5 S6' bw7 rs8 hl8
        go_wp2_with fail
        go_at_call 24
        refine (Committed_any _ HQ R3' (by omega)).mono ?_
        rintro e w9 ⟨A9, n9, c9, l9, rfl, rs9, hl9, b9⟩
        have bw9 := bw8.trans (b9.mono bw8.size)
        have S5 := Lib.hid (S5'.out.below b9)
        have S6' := Lib.hid (S6.out.below b9)
        have S8' := Lib.hid (S8.out.below b9)
        have S9 := Lib.hid rs9.rr
        have HL9 := Lib.hid hl9
        clear b9 R3' S5' S6 S8 bw8 rs9 hl9
        go_wp2_with fail
        go_at_call 27
        refine (begins_any _ S8' S9).mono ?_
        rintro e w10 ⟨rfl, b10⟩
        rw [show begB (l8.map RV.r) (l9.map RV.r) = true by rw [HL8.out, HL9.out]; exact G5.out]
        have bw10 := bw9.trans (b10.mono bw9.size)
        have S6 := Lib.hid (S6'.out.below b10)
        clear b10 S6' S8' S9 bw9
        have hn5 : n5 = (rd cb).length := by rw [S5.out.len, ← HL5.out, List.length_map]
        have hn6 : n6 = (rd b).length := by rw [S6.out.len, ← HL6.out, List.length_map]
        by_cases h56 : n5 = n6
        · have he : ((n5 : Int) == (n6 : Int)) = true := by simp; omega
          have hn63 := S6.out.row.c63
          clear hn5 hn6
          subst h56
          go_wp2_with fail
          go_ret
          exact ⟨rfl, bw10⟩
        · have he : ((n5 : Int) == (n6 : Int)) = false := by simp; omega
          have hfit : ∃ (g o : Nat) (x : RV), A6 = some ⟨g, o, none⟩ ∧ g < w10.heap.size ∧ n5 < n6 ∧ w10.cell? ⟨g, o + n5 * 3 + 2, none⟩ = some (.slice x.A x.d.length x.c) ∧ kc < gc + (21 + x.d.length) ∧ x.d.length ≤ 4096 := by
            rcases G6.out with hh | ⟨r, hr, hlt⟩
            · exact absurd (by rw [hn5, hn6, hh]) h56
            · have hi : n5 < n6 := by have := (List.getElem?_eq_some_iff.1 hr).1; omega
              obtain ⟨g, o, x, ea, hg, hx, hxm, _, _, c2⟩ := S6.out.rec_ hi
              have : some x.r = some r := by rw [← map_at hx, HL6.out, hn5, hr]
              have hxr : x.r = r := Option.some.inj this
              have hxd : r.d = x.d := by rw [← hxr]; rfl
              refine ⟨g, o, x, ea, hg, hi, c2, ?_, ?_⟩
              · have h9 := HKC.out; rw [hxd] at hlt; omega
              · have := ok_len (rd_ok b r (List.mem_of_getElem? hr)); rw [hxd] at this; exact this
          obtain ⟨g, o, x, rfl, hg, hi, cc, hlt, h4⟩ := hfit
          obtain ⟨nx, hnx⟩ : ∃ nx, x.d.length = nx := ⟨_, rfl⟩
          rw [hnx] at cc hlt h4
          have hn63 := S6.out.row.c63
          have hn64 := S6.out.row.nc
          clear hn5 hn6 hnx h56
          go_wp2_with fail
          go_ret
          exact ⟨ret_bool (decide_eq_true (by omega)), bw10⟩
  · go_wp2_with fail
    go_ret
    exact ⟨rfl, bw2⟩
end Go.Proofs.Ytfkeedeiafegiaa.Wl
