/- PageSums. -/
import Derived.Test.YtphiblmkgbkdmaaDoorPgA1
namespace Go.Proofs.YtphiblmkgbkdmaaDoor.Pg
set_option linter.unusedVariables false
set_option linter.unusedSimpArgs false
open Go.RowKit Wl

set_option maxRecDepth 20000 in
set_option maxHeartbeats 800000 in
theorem PageSums_walk (A : Option Addr) (n c : Nat) (d : List UInt8) (w : World) (G : Hid (Gl w)) (h : Hid (Rd w 1 A n c (bv d))) : Calls Tryd.prog 3 #[.slice A n c] w fun e w' => e = .returned (.bool true) ∧ Below w.heap.size w w' := by
  have hn : Hid (n = d.length) := Lib.hid (by have := h.out.len; rw [bv_len] at this; omega)
  go_enter Tryd.func3, Tryd.ntmps3
  go_wp2_with fail
  go_at_call 11
  refine (awake_any w G).mono ?_
  rintro e w1 ⟨rfl, b1⟩
  have h1 := Lib.hid (h.out.below b1)
  by_cases hb : 2000 < n
  · have e1 : decide ((n : Int) > 2000) = true := decide_eq_true (by omega)
    go_wp2_with fail
    go_ret
    exact ⟨rfl, b1⟩
  · have e1 : decide ((n : Int) > 2000) = false := decide_eq_false (by omega)
    obtain ⟨Z, hZ⟩ : ∃ Z : Int, ((crc d : Nat) : Int) = Z := ⟨_, rfl⟩
    have S1 := Sum_any w1 hn h1
    have S2 := rSum_any w1 hn h1
    rw [hZ] at S1 S2
    have S1 := Lib.hid S1
    have S2 := Lib.hid S2
    clear hZ
    go_wp2_with fail
    go_at_call 12
    refine S1.out.mono ?_
    rintro e w' ⟨rfl, rfl⟩
    go_wp2_with fail
    go_at_call 13
    refine S2.out.mono ?_
    rintro e w' ⟨rfl, rfl⟩
    go_wp2_with fail
    go_ret
    exact ⟨rfl, b1⟩
end Go.Proofs.YtphiblmkgbkdmaaDoor.Pg
