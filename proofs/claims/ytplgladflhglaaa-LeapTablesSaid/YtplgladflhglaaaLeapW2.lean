/- Walks through the reference of leap seconds: instants of atomic times. -/
import Derived.Test.YtplgladflhglaaaLeapW
namespace Go.Proofs.Ytplgladflhglaaa.Lp
set_option linter.unusedVariables false
set_option linter.unusedSimpArgs false
open Go.RowKit

theorem rCivil_any {sl : Option Addr} {n b o cap : Nat} {A T : Nat → Int} (x : Int) (w : World) (h : Hid (Tab w sl n b o A T)) (hk : Hid (M.Ok n A T)) (h1 : -9223372036854775808 ≤ x) (h2 : x ≤ 9223372036854775807) :
    Calls Try.prog 16 #[.agg #[.slice sl n cap], .int .i64 x] w fun e w' => e = .returned (.tuple #[.int .i64 (M.civ n A x).1.1, .bool (M.civ n A x).1.2, .int .i64 (M.civ n A x).2]) ∧ Below w.heap.size w w' := by
  have hn := hk.out.n100
  by_cases hr : x < -62135596800 ∨ 253402300800 + (n : Int) ≤ x
  · have R := Lib.hid (M.civ_range (A := A) hr)
    have hr' : x < -62135596800 ∨ (-62135596800 ≤ x ∧ 253402300800 + (n : Int) ≤ x) := by omega
    clear hr
    rcases hr' with hr | ⟨hr, hr'⟩
    all_goals
      go_enter Try.func16, Try.ntmps16
      go_wp2
      go_ret3
      exact ⟨ret_civ R.out, (Below.refl _ _).alloc (Nat.le_refl _) _⟩
  · obtain ⟨k, k1, k3, k4, hc⟩ := M.civ_cases hk.out hr
    have r1 : -62135596800 ≤ x := by omega
    have r2 : x < 253402300800 + (n : Int) := by omega
    have K3 := Lib.hid k3
    have K4 := Lib.hid k4
    have HC := Lib.hid hc
    clear hr k3 k4 hc
    go_enter Try.func16, Try.ntmps16
    go_wp2
    go_loopw [7, 8] (fun c i wr => (Below w.heap.size w wr ∧ w.heap.size < wr.heap.size ∧ wr.cell? ⟨w.heap.size, 0, none⟩ = some (.slice sl n cap)) ∧ ∃ j : Nat, j ≤ n ∧ i = .int .i64 j ∧ c = .int .i64 (min j k : Nat) ∧ (j ≤ k ∨ ¬ (k < n ∧ A k + k = x))) (fun _ i _ => (n - intOf i).toNat)
    case atStart => exact ⟨⟨(Below.refl _ _).alloc (Nat.le_refl _) _, by simp, by simp [go_sem]⟩, 0, by omega, rfl, by simp, .inl (by omega)⟩
    case round =>
      obtain ⟨⟨hb0, hz, hcell⟩, j, hj, rfl, rfl, hjk⟩ := hrel
      by_cases hlt : j < n
      · have hs := h.out.sl (by omega)
        have hb := h.out.lt (by omega)
        have ht := h.out.below hb0
        have cA := ht.cA j hlt
        have cT := ht.cT j hlt
        rw [hk.out.tt j hlt] at cT
        have a1 := hk.out.lo j hlt
        have a2 := hk.out.hi j hlt
        have hb' := ht.lt (by omega)
        subst hs
        clear ht
        by_cases hjlt : j < k
        · have lt := K3.out j hjlt
          have e1 : (x == A j + ((j : Int) + 1) - 1) = false := by simp; omega
          have e2 : decide (A j + ((j : Int) + 1) - 1 < x) = true := by simp; omega
          rw [show min j k = j by omega]
          clear hjk
          go_wp2
          go_roundw
          case rel => exact ⟨⟨hb0.alloc hb0.size _, by simp; omega, by simp [go_sem, *]⟩, j + 1, by omega, by go_num, by rw [show min (j + 1) k = j + 1 by omega]; go_num, .inl (by omega)⟩
          case measure => simp [intOf]; omega
        · have le := K4.out j (by omega) hlt
          by_cases he : A j + (j : Int) = x
          · obtain rfl : j = k := by
              rcases HC.out with ⟨c1, c2, c3⟩ | ⟨c1, c2⟩
              · rcases Nat.lt_or_ge k j with h' | h'
                · have := hk.out.mono h' hlt; omega
                · omega
              · rcases Nat.lt_or_ge k j with h' | h'
                · have := hk.out.mono h' hlt; have := c1 (by omega); omega
                · omega
            have R : Hid (M.civ n A x = ((A j, true), 0)) := Lib.hid (by
              rcases HC.out with ⟨c1, c2, c3⟩ | ⟨c1, c2⟩
              · exact c3
              · have := c1 hlt; omega)
            have e1 : (x == A j + ((j : Int) + 1) - 1) = true := by simp; omega
            clear hjk
            go_wp2
            go_ret3
            exact ⟨ret_civ R.out, hb0.alloc hb0.size _⟩
          · have e1 : (x == A j + ((j : Int) + 1) - 1) = false := by simp; omega
            have e2 : decide (A j + ((j : Int) + 1) - 1 < x) = false := by simp; omega
            have nx : Hid (j + 1 ≤ k ∨ ¬ (k < n ∧ A k + k = x)) := Lib.hid (.inr (by
              rcases Nat.lt_or_ge k j with h' | h'
              · rcases hjk with h'' | h''
                · omega
                · exact h''
              · obtain rfl : j = k := by omega
                intro hh; exact he hh.2))
            rw [show min j k = k by omega]
            clear hjk he
            go_wp2
            go_roundw
            case rel => exact ⟨⟨hb0.alloc hb0.size _, by simp; omega, by simp [go_sem, *]⟩, j + 1, by omega, by go_num, by rw [show min (j + 1) k = k by omega], nx.out⟩
            case measure => simp [intOf]; omega
      · obtain rfl : j = n := by omega
        have R : Hid (M.civ j A x = ((x - k, false), 0)) := Lib.hid (by
          rcases HC.out with ⟨c1, c2, c3⟩ | ⟨c1, c2⟩
          · rcases hjk with h' | h'
            · omega
            · exact absurd ⟨c1, c2⟩ h'
          · exact c2)
        rw [show min j k = k by omega]
        clear hjk
        go_wp2
        go_ret3
        exact ⟨ret_civ R.out, hb0⟩

end Go.Proofs.Ytplgladflhglaaa.Lp
