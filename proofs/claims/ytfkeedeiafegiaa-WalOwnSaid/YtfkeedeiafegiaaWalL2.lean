/- The laws: WalReads, WalAppends. -/
import Derived.Test.YtfkeedeiafegiaaWalL1
namespace Go.Proofs.Ytfkeedeiafegiaa.Wl
set_option linter.unusedVariables false
set_option linter.unusedSimpArgs false
open Go.RowKit

theorem log_le {l : List RV} (h : greatB l = false) : (encs (vals l)).length ≤ 164680 := by
  have h1 := vals_len (greatB_f h).2
  have h2 := (greatB_f h).1
  have h3 : l.length * 4117 ≤ 40 * 4117 := Nat.mul_le_mul_right _ h2
  omega
set_option maxHeartbeats 1600000 in
theorem WalReads_walk (A : Option Addr) (n c : Nat) (l : List RV) (B : Option Addr) (m d : Nat) (x : List UInt8) (w : World) (h : Hid (Rr w A n c l)) (hf : Hid (Fit l)) (hx : Hid (Rd w 1 B m d (bv x))) :
    Calls Try.prog 4 #[.slice A n c, .slice B m d] w fun e w' => e = .returned (.bool true) ∧ Below w.heap.size w w' := by
  obtain ⟨i0, hi, hz0, hz1, hz2⟩ := info_parts info_u8
  go_enter Try.func4, Try.ntmps4
  go_wp2_with fail
  go_at_call 13
  refine (awake_any _).mono ?_
  rintro e w1 ⟨rfl, b1⟩
  have h1 := Lib.hid (h.out.below b1)
  have x1 := Lib.hid (hx.out.below b1)
  go_wp2_with fail
  go_at_call 17
  refine (great_any _ h1).mono ?_
  rintro e w2 ⟨rfl, b2⟩
  have h2 := Lib.hid (h1.out.below b2)
  have x2 := Lib.hid (x1.out.below b2)
  have bw2 := b1.trans (b2.mono b1.size)
  clear b1 b2 h1 x1
  rcases hg : greatB l with _ | _
  · have hgr := greatB_f hg
    have h40 : n ≤ 40 := by rw [h.out.len]; exact hgr.1
    have h5 := Lib.hid hgr.2
    have hll := log_le hg
    have HGB := Lib.hid hg
    clear hg hgr
    by_cases hm : m ≤ 1000
    · go_wp2_with fail
      go_at_call 18
      refine (log_any _ h2 hf h40 h5).mono ?_
      obtain ⟨q, hq⟩ : ∃ q, (encs (vals l)).length = q := ⟨_, rfl⟩
      rw [hq] at hll ⊢
      have HQ := Lib.hid hq
      clear hq
      rintro e w3 ⟨A3, c3, rfl, own3, b3⟩
      have x3 := x2.out.below b3
      have z3 := b3.size
      go_wp2_with (at_builtin; refine wpList_app _ rfl (.tmp 20) (.tmp 21) 22 rfl w2.heap.size 5 i0 (.int .u8 0) 1 1 Try.underlying22 hi hz0 hz1 hz2 rfl (by omega) (by rfl) own3 (by rfl) x3 (bv_one _) (by omega) (by omega) z3 ?_; intro A4 c4 w4 own4 g4)
      have bw4 := bw2.trans ((g4.low b3 z3 (fun g e => (own_blk_le own3 e).1)).mono bw2.size)
      have R4 : Hid (Rd w4 1 A4 (q + m) c4 (bv (encs (vals l) ++ x))) := Lib.hid (by rw [bv_app]; exact Rd.of_own own4)
      have HL : Hid (q + m = (encs (vals l) ++ x).length) := Lib.hid (by rw [List.length_append, HQ.out]; have := hx.out.len; rw [bv_len] at this; omega)
      clear own3 own4 g4 x3 x2 h2 b3 bw2
      obtain ⟨b, hb⟩ : ∃ b, encs (vals l) ++ x = b := ⟨_, rfl⟩
      rw [hb] at R4 HL
      clear hb
      go_at_call 19
      refine (Read_any _ HL R4 (by omega)).mono ?_
      rintro e w5 ⟨A5, n5, c5, l5, rfl, hl5, rs5, b5⟩
      have bw5 := bw4.trans (b5.mono bw4.size)
      have R5 := Lib.hid (R4.out.below b5)
      have S5 := Lib.hid rs5.rr
      have HL5 := Lib.hid hl5
      clear b5 rs5 hl5 R4 bw4
      go_wp2_with fail
      go_at_call 20
      refine (rRead_any _ HL R5 (by omega)).mono ?_
      rintro e w6 ⟨A6, n6, c6, l6, rfl, hl6, rs6, b6⟩
      have bw6 := bw5.trans (b6.mono bw5.size)
      have S5' := Lib.hid (S5.out.below b6)
      have S6 := Lib.hid rs6.rr
      have HL6 := Lib.hid hl6
      clear b6 rs6 hl6 R5 bw5 S5
      go_wp2_with fail
      go_at_call 21
      refine (equal_any _ S5' S6).mono ?_
      rintro e w7 ⟨rfl, b7⟩
      rw [show eqR (l5.map RV.r) (l6.map RV.r) = true by rw [HL5.out, HL6.out]; exact eqR_self _]
      have bw7 := bw6.trans (b7.mono bw6.size)
      go_wp2_with fail
      go_ret
      exact ⟨rfl, bw7⟩
    · go_wp2_with fail
      go_ret
      exact ⟨rfl, bw2⟩
  · go_wp2_with fail
    go_ret
    exact ⟨rfl, bw2⟩
end Go.Proofs.Ytfkeedeiafegiaa.Wl
