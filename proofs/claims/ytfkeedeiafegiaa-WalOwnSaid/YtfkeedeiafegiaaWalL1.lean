/- The laws: WalEncodes, WalReads. -/
import Derived.Test.YtfkeedeiafegiaaWalW18
namespace Go.Proofs.Ytfkeedeiafegiaa.Wl
set_option linter.unusedVariables false
set_option linter.unusedSimpArgs false
open Go.RowKit

theorem WalEncodes_walk (k t : Int) (A : Option Addr) (n c : Nat) (d : List UInt8) (w : World) (t2 : t ≤ 9223372036854775807) (hd : Hid (Rd w 1 A n c (bv d))) :
    Calls Try.prog 3 #[.agg #[.int .i64 k, .int .i64 t, .slice A n c]] w fun e w' => e = .returned (.bool true) ∧ Below w.heap.size w w' := by
  have hd0 := Lib.hid (hd.out.alloc (.cells #[.int .i64 k, .int .i64 t, .slice A n c] 24))
  obtain ⟨x0, x1, x2⟩ := box3 w (.int .i64 k) (.int .i64 t) (.slice A n c) 24
  have X0 := Lib.hid x0
  have X1 := Lib.hid x1
  have X2 := Lib.hid x2
  clear x0 x1 x2
  go_enter Try.func3, Try.ntmps3
  go_wp2_with fail
  go_at_call 13
  refine (awake_any _).mono ?_
  rintro e w1 ⟨rfl, b1⟩
  have hlt : w.heap.size < (w.alloc (.cells #[.int .i64 k, .int .i64 t, .slice A n c] 24)).heap.size := by simp
  have bw1 : Below w.heap.size w w1 := bel_step ((Below.refl _ _).alloc (Nat.le_refl _) _) b1 (Nat.le_refl _)
  have x0 := (b1.cell (p := ⟨w.heap.size, 0, none⟩) hlt).trans X0.out
  have x1 := (b1.cell (p := ⟨w.heap.size, 1, none⟩) hlt).trans X1.out
  have x2 := (b1.cell (p := ⟨w.heap.size, 2, none⟩) hlt).trans X2.out
  have hd1 := Lib.hid (hd0.out.below b1)
  have hlt1 : w.heap.size < w1.heap.size := by have := b1.size; omega
  clear hd0 b1 hlt X0 X1 X2
  by_cases hn : n ≤ 5000
  · go_wp2_with fail
    rcases hv : okV k t n with _ | _
    · have HV := Lib.hid hv
      clear hv
      go_at_call 14
      refine (Encode_bad k t _ HV.out).mono ?_
      rintro e w2 ⟨rfl, b2⟩
      have y0 := (b2.cell (p := ⟨w.heap.size, 0, none⟩) hlt1).trans x0
      have y1 := (b2.cell (p := ⟨w.heap.size, 1, none⟩) hlt1).trans x1
      have y2 := (b2.cell (p := ⟨w.heap.size, 2, none⟩) hlt1).trans x2
      have bw2 := bw1.trans (b2.mono bw1.size)
      clear x0 x1 x2 b2
      go_wp2_with fail
      go_at_call 15
      refine (rEncode_bad k t _ HV.out).mono ?_
      rintro e w3 ⟨rfl, b3⟩
      have bw3 := bw2.trans (b3.mono bw2.size)
      clear b3 y0 y1 y2
      go_wp2_with fail
      go_at_call 16
      refine (Equal_any (a := []) (b := []) _ (Lib.hid (Rd.nil_ _ _)) (Lib.hid (Rd.nil_ _ _))).mono ?_
      rintro e w' ⟨rfl, rfl⟩
      rw [eqB_self]
      go_wp2_with fail
      go_ret
      exact ⟨rfl, bw3⟩
    · have HV := Lib.hid hv
      clear hv
      go_at_call 14
      refine (Encode_ok k t _ hd1 HV.out t2).mono ?_
      rintro e w2 ⟨A2, c2, rfl, own2, b2⟩
      have y0 := (b2.cell (p := ⟨w.heap.size, 0, none⟩) hlt1).trans x0
      have y1 := (b2.cell (p := ⟨w.heap.size, 1, none⟩) hlt1).trans x1
      have y2 := (b2.cell (p := ⟨w.heap.size, 2, none⟩) hlt1).trans x2
      have bw2 := bw1.trans (b2.mono bw1.size)
      have hd2 := Lib.hid (hd1.out.below b2)
      have R2 := Lib.hid (Rd.of_own own2)
      clear x0 x1 x2 b2 own2 hd1
      go_wp2_with fail
      go_at_call 15
      refine (rEncode_ok k t _ hd2 HV.out t2).mono ?_
      rintro e w3 ⟨A3, c3, rfl, own3, b3⟩
      have bw3 := bw2.trans (b3.mono bw2.size)
      have R2' := Lib.hid (R2.out.below b3)
      have R3 := Lib.hid (Rd.of_own own3)
      clear b3 y0 y1 y2 own3 R2 hd2
      go_wp2_with fail
      go_at_call 16
      refine (Equal_any _ R2' R3).mono ?_
      rintro e w' ⟨rfl, rfl⟩
      rw [eqB_self]
      go_wp2_with fail
      go_ret
      exact ⟨rfl, bw3⟩
  · go_wp2_with fail
    go_ret
    exact ⟨rfl, bw1⟩
end Go.Proofs.Ytfkeedeiafegiaa.Wl
