/- The law: WalMends. -/
import Derived.Test.YtfkeedeiafegiaaWalW22
namespace Go.Proofs.Ytfkeedeiafegiaa.Wl
set_option linter.unusedVariables false
set_option linter.unusedSimpArgs false
open Go.RowKit

set_option maxHeartbeats 1600000 in
theorem WalMends_walk (A : Option Addr) (n c : Nat) (l : List RV) (B : Option Addr) (m d : Nat) (x : List UInt8) (k f : Int) (w : World) (h : Hid (Rr w A n c l)) (hf : Hid (Fit l)) (hx : Hid (Rd w 1 B m d (bv x))) (k1 : -9223372036854775808 ≤ k) (k2 : k ≤ 9223372036854775807) (f1 : -9223372036854775808 ≤ f) (f2 : f ≤ 9223372036854775807) :
    Calls Try.prog 11 #[.slice A n c, .slice B m d, .int .i64 k, .int .i64 f] w fun e w' => e = .returned (.bool true) ∧ Below w.heap.size w w' := by
  obtain ⟨i0, hi, hz0, hz1, hz2⟩ := info_parts info_u8
  go_enter Try.func11, Try.ntmps11
  go_wp2_with fail
  go_at_call 13
  refine (awake_any _).mono ?_
  rintro e w1 ⟨rfl, b1⟩
  have h1 := Lib.hid (h.out.below b1)
  have x1 := Lib.hid (hx.out.below b1)
  go_wp2_with fail
  go_at_call 17
  refine (great_any _ h1).mono ?_
  rintro e w2 ⟨rfl, b2⟩
  have h2 := Lib.hid (h1.out.below b2)
  have x2 := Lib.hid (x1.out.below b2)
  have bw2 := b1.trans (b2.mono b1.size)
  clear b1 b2 h1 x1
  rcases hg : greatB l with _ | _
  · have hgr := greatB_f hg
    have h40 : n ≤ 40 := by rw [h.out.len]; exact hgr.1
    have h5 := Lib.hid hgr.2
    have hll := log_le hg
    have HGB := Lib.hid hg
    clear hg hgr
    by_cases hm : m ≤ 1000
    · go_wp2_with fail
      go_at_call 18
      refine (log_any _ h2 hf h40 h5).mono ?_
      obtain ⟨q, hq⟩ : ∃ q, (encs (vals l)).length = q := ⟨_, rfl⟩
      rw [hq] at hll ⊢
      have HQ := Lib.hid hq
      clear hq
      rintro e w3 ⟨A3, c3, rfl, own3, b3⟩
      have x3 := x2.out.below b3
      have z3 := b3.size
      go_wp2_with (at_builtin; refine wpList_app _ rfl (.tmp 24) (.tmp 25) 22 rfl w2.heap.size 5 i0 (.int .u8 0) 1 1 Try.underlying22 hi hz0 hz1 hz2 rfl (by omega) (by rfl) own3 (by rfl) x3 (bv_one _) (by omega) (by omega) z3 ?_; intro A4 c4 w4 own4 g4)
      have bw4 := bw2.trans ((g4.low b3 z3 (fun g e => (own_blk_le own3 e).1)).mono bw2.size)
      have R4 : Hid (Rd w4 1 A4 (q + m) c4 (bv (encs (vals l) ++ x))) := Lib.hid (by rw [bv_app]; exact Rd.of_own own4)
      have HL : Hid (q + m = (encs (vals l) ++ x).length) := Lib.hid (by rw [List.length_append, HQ.out]; have := hx.out.len; rw [bv_len] at this; omega)
      clear own3 own4 g4 x3 x2 h2 b3 bw2
      obtain ⟨b, hb⟩ : ∃ b, encs (vals l) ++ x = b := ⟨_, rfl⟩
      rw [hb] at R4 HL
      clear hb
      have CUT := cutN_le k (q + m)
      rcases Int.lt_or_le f 1 with hf1 | hf1
      · have HF := Lib.hid hf1
        clear hf1
        go_at_call 32
        refine (Compact_bad f _ HF.out).mono ?_
        rintro e w5 ⟨rfl, b5⟩
        have bw5 := bw4.trans (b5.mono bw4.size)
        have R5 := Lib.hid (R4.out.below b5)
        clear b5 R4 bw4
        go_wp2_with fail
        go_at_call 33
        refine (rCompact_bad f _ HF.out).mono ?_
        rintro e w6 ⟨rfl, b6⟩
        have bw6 := bw5.trans (b6.mono bw5.size)
        have R6 := Lib.hid (R5.out.below b6)
        clear b6 R5 bw5
        go_wp2_with fail
        go_at_call 16
        refine (Equal_any (a := []) (b := []) _ (Lib.hid (Rd.nil_ _ _)) (Lib.hid (Rd.nil_ _ _))).mono ?_
        rintro e w' ⟨rfl, rfl⟩
        rw [eqB_self]
        go_wp2_with fail
        go_at_call 26
        refine (Cut_any k _ HL R6 (by omega) k1 k2).mono ?_
        rintro e w7 ⟨A7, c7, rfl, own7, b7⟩
        have bw7 := bw6.trans (b7.mono bw6.size)
        have R7 := Lib.hid (R6.out.below b7)
        have D7 := Lib.hid (Rd.of_own own7)
        clear b7 R6 bw6 own7
        go_wp2_with fail
        go_at_call 34
        refine (rCut_any k _ HL R7 (by omega) k1 k2).mono ?_
        rintro e w8 ⟨A8, c8, rfl, own8, b8⟩
        have bw8 := bw7.trans (b8.mono bw7.size)
        have R8 := Lib.hid (R7.out.below b8)
        have D7' := Lib.hid (D7.out.below b8)
        have D8 := Lib.hid (Rd.of_own own8)
        clear b8 R7 bw7 own8 D7
        go_wp2_with fail
        go_at_call 16
        refine (Equal_any _ D7' D8).mono ?_
        rintro e w' ⟨rfl, rfl⟩
        rw [eqB_self]
        go_wp2_with fail
        go_at_call 35
        refine (Repair_any _ HL R8 (by omega)).mono ?_
        rintro e w9 ⟨A9, c9, rfl, own9, b9⟩
        have bw9 := bw8.trans (b9.mono bw8.size)
        have R9 := Lib.hid (R8.out.below b9)
        have D9 := Lib.hid (Rd.of_own own9)
        clear b9 R8 bw8 own9
        go_wp2_with fail
        go_at_call 36
        refine (rRepair_any _ HL R9 (by omega)).mono ?_
        rintro e wa ⟨Aa, ca, rfl, owna, ba⟩
        have bwa := bw9.trans (ba.mono bw9.size)
        have D9' := Lib.hid (D9.out.below ba)
        have Da := Lib.hid (Rd.of_own owna)
        clear ba R9 bw9 owna D9
        go_wp2_with fail
        go_at_call 16
        refine (Equal_any _ D9' Da).mono ?_
        rintro e w' ⟨rfl, rfl⟩
        rw [eqB_self]
        go_wp2_with fail
        go_ret
        exact ⟨rfl, bwa⟩
      · have HF := Lib.hid hf1
        clear hf1
        go_at_call 32
        refine (Compact_ok f _ HL R4 (by omega) HF.out f2).mono ?_
        rintro e w5 ⟨A5, n5, c5, rfl, hn5, own5, b5⟩
        have bw5 := bw4.trans (b5.mono bw4.size)
        have R5 := Lib.hid (R4.out.below b5)
        have D5 := Lib.hid (Rd.of_own own5)
        clear b5 R4 bw4 own5 hn5
        go_wp2_with fail
        go_at_call 33
        refine (rCompact_ok f _ HL R5 (by omega) HF.out f2).mono ?_
        rintro e w6 ⟨A6, n6, c6, rfl, hn6, own6, b6⟩
        have bw6 := bw5.trans (b6.mono bw5.size)
        have R6 := Lib.hid (R5.out.below b6)
        have D5' := Lib.hid (D5.out.below b6)
        have D6 := Lib.hid (Rd.of_own own6)
        clear b6 R5 bw5 own6 hn6 D5
        go_wp2_with fail
        go_at_call 16
        refine (Equal_any _ D5' D6).mono ?_
        rintro e w' ⟨rfl, rfl⟩
        rw [eqB_self]
        go_wp2_with fail
        go_at_call 26
        refine (Cut_any k _ HL R6 (by omega) k1 k2).mono ?_
        rintro e w7 ⟨A7, c7, rfl, own7, b7⟩
        have bw7 := bw6.trans (b7.mono bw6.size)
        have R7 := Lib.hid (R6.out.below b7)
        have D7 := Lib.hid (Rd.of_own own7)
        clear b7 R6 bw6 own7
        go_wp2_with fail
        go_at_call 34
        refine (rCut_any k _ HL R7 (by omega) k1 k2).mono ?_
        rintro e w8 ⟨A8, c8, rfl, own8, b8⟩
        have bw8 := bw7.trans (b8.mono bw7.size)
        have R8 := Lib.hid (R7.out.below b8)
        have D7' := Lib.hid (D7.out.below b8)
        have D8 := Lib.hid (Rd.of_own own8)
        clear b8 R7 bw7 own8 D7
        go_wp2_with fail
        go_at_call 16
        refine (Equal_any _ D7' D8).mono ?_
        rintro e w' ⟨rfl, rfl⟩
        rw [eqB_self]
        go_wp2_with fail
        go_at_call 35
        refine (Repair_any _ HL R8 (by omega)).mono ?_
        rintro e w9 ⟨A9, c9, rfl, own9, b9⟩
        have bw9 := bw8.trans (b9.mono bw8.size)
        have R9 := Lib.hid (R8.out.below b9)
        have D9 := Lib.hid (Rd.of_own own9)
        clear b9 R8 bw8 own9
        go_wp2_with fail
        go_at_call 36
        refine (rRepair_any _ HL R9 (by omega)).mono ?_
        rintro e wa ⟨Aa, ca, rfl, owna, ba⟩
        have bwa := bw9.trans (ba.mono bw9.size)
        have D9' := Lib.hid (D9.out.below ba)
        have Da := Lib.hid (Rd.of_own owna)
        clear ba R9 bw9 owna D9
        go_wp2_with fail
        go_at_call 16
        refine (Equal_any _ D9' Da).mono ?_
        rintro e w' ⟨rfl, rfl⟩
        rw [eqB_self]
        go_wp2_with fail
        go_ret
        exact ⟨rfl, bwa⟩
    · go_wp2_with fail
      go_ret
      exact ⟨rfl, bw2⟩
  · go_wp2_with fail
    go_ret
    exact ⟨rfl, bw2⟩
end Go.Proofs.Ytfkeedeiafegiaa.Wl
