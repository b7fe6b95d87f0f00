/- Walk of slices.Equal at steps: equal tables. -/
import Derived.Test.YtplgladflhglaaaLeapS
namespace Go.Proofs.Ytplgladflhglaaa.Lp
set_option linter.unusedVariables false
set_option linter.unusedSimpArgs false
open Go.RowKit

theorem Equal_same {sl sl' : Option Addr} {n b o cap b' o' cap' : Nat} {A T A' T' : Nat → Int} (w : World) (h : Hid (Tab w sl n b o A T)) (h' : Hid (Tab w sl' n b' o' A' T')) (hA : Hid (∀ i, i < n → A' i = A i ∧ T' i = T i)) :
    Calls Try.prog 22 #[.slice sl n cap, .slice sl' n cap'] w fun e w' => e = .returned (.bool true) ∧ ∃ q, w' = w.drewN q := by
  have hn := h.out.n62
  go_enter Try.func22, Try.ntmps22
  go_wp2
  go_loopw [13] (fun i wr => (∃ q, wr = w.drewN q) ∧ ∃ j : Nat, j ≤ n ∧ i = .int .i64 j) (fun i _ => (n - intOf i).toNat)
  case atStart => exact ⟨⟨0, rfl⟩, 0, by omega, rfl⟩
  case round =>
    obtain ⟨⟨q, rfl⟩, j, hj, rfl⟩ := hrel
    by_cases hlt : j < n
    · have hs := h.out.sl (by omega)
      have hs' := h'.out.sl (by omega)
      have cA := h.out.cA j hlt
      have cT := h.out.cT j hlt
      have cA' := h'.out.cA j hlt
      have cT' := h'.out.cT j hlt
      have hb1 := h.out.lt (by omega)
      have hb2 := h'.out.lt (by omega)
      rw [(hA.out j hlt).1] at cA'
      rw [(hA.out j hlt).2] at cT'
      subst hs hs'
      obtain ⟨x, hx⟩ : ∃ x, A j = x := ⟨_, rfl⟩
      obtain ⟨y, hy⟩ : ∃ y, T j = y := ⟨_, rfl⟩
      rw [hx] at cA cA'
      rw [hy] at cT cT'
      clear hx hy
      go_wp2_with fail
      go_quiet (fail)
      go_wp2
      go_roundw
      case rel => exact ⟨⟨_, rfl⟩, j + 1, by omega, by go_num⟩
      case measure => simp [intOf]; omega
    · obtain rfl : j = n := by omega
      go_wp2
      go_ret
      exact ⟨rfl, q, rfl⟩

end Go.Proofs.Ytplgladflhglaaa.Lp
