/- Walks through leap: the instant of an atomic time. -/
import Derived.Test.YtplgladflhglaaaLeapC
namespace Go.Proofs.Ytplgladflhglaaa.Lp
set_option linter.unusedVariables false
set_option linter.unusedSimpArgs false
open Go.RowKit

/-- The instant of an atomic time, for any table. -/
noncomputable def M.cvl (n : Nat) (A T : Nat → Int) (x : Int) : (Int × Bool) × Int := if M.okb n A T = false then ((0, false), 1) else M.civ n A x
theorem M.cvl_1 {n : Nat} {A T : Nat → Int} {x : Int} (h : M.okb n A T = false) : M.cvl n A T x = ((0, false), 1) := by simp only [M.cvl, if_pos h]
theorem M.cvl_0 {n : Nat} {A T : Nat → Int} {x : Int} (h : M.okb n A T = true) : M.cvl n A T x = M.civ n A x := by simp only [M.cvl, h]; rw [if_neg (by simp)]
theorem ret_cvl {n : Nat} {A T : Nat → Int} {x a c : Int} {b : Bool} (h : M.cvl n A T x = ((a, b), c)) : Ending.returned (.tuple #[.int .i64 a, .bool b, .int .i64 c]) = .returned (.tuple #[.int .i64 (M.cvl n A T x).1.1, .bool (M.cvl n A T x).1.2, .int .i64 (M.cvl n A T x).2]) := by rw [h]

set_option maxHeartbeats 2000000 in
theorem Civil_any {sl : Option Addr} {n b o cap : Nat} {A T : Nat → Int} (x : Int) (w : World) (h : Hid (Tab w sl n b o A T)) (h1 : -9223372036854775808 ≤ x) (h2 : x ≤ 9223372036854775807) :
    Calls Try.prog 14 #[.agg #[.slice sl n cap], .int .i64 x] w fun e w' => e = .returned (.tuple #[.int .i64 (M.cvl n A T x).1.1, .bool (M.cvl n A T x).1.2, .int .i64 (M.cvl n A T x).2]) ∧ Below w.heap.size w w' := by
  rcases hv : M.okb n A T with _ | _
  · have R := Lib.hid (M.cvl_1 (x := x) hv)
    have V := Lib.hid hv
    clear hv
    go_enter Try.func14, Try.ntmps14
    go_wp2_with (go_at_call 19; refine (Valid_at _ (Lib.hid (h.out.alloc2 _ _)) V).mono ?_; rintro e w2 ⟨rfl, hb⟩)
    go_ret3
    exact ⟨ret_cvl R.out, (((Below.refl _ _).alloc (Nat.le_refl _) _).alloc (by simp) _).trans (hb.mono (by simp; omega))⟩
  · have V := Lib.hid hv
    have hok := Lib.hid (M.ok_of_b hv)
    have hn := hok.out.n100
    by_cases hr : x < -62135596800 ∨ 253402300800 + (n : Int) ≤ x
    · have R := Lib.hid ((M.cvl_0 hv).trans (M.civ_range (A := A) hr))
      have hr' : x < -62135596800 ∨ (-62135596800 ≤ x ∧ 253402300800 + (n : Int) ≤ x) := by omega
      clear hr hv
      rcases hr' with hr | ⟨hr, hr'⟩
      all_goals
        go_enter Try.func14, Try.ntmps14
        go_wp2_with (go_at_call 19; refine (Valid_at _ (Lib.hid (h.out.alloc2 _ _)) V).mono ?_; rintro e w2 ⟨rfl, hb⟩; have hc0 : w2.cell? ⟨w.heap.size, 0, none⟩ = some (.slice sl n cap) := ((bcell hb).1 w.heap.size 0 (by simp; omega)).trans (by simp [go_sem]); have hc1 : w2.cell? ⟨w.heap.size + 1, 0, none⟩ = some (.int .i64 x) := ((bcell hb).1 (w.heap.size + 1) 0 (by simp)).trans (by simp [go_sem]))
        go_ret3
        exact ⟨ret_cvl R.out, (((Below.refl _ _).alloc (Nat.le_refl _) _).alloc (by simp) _).trans (hb.mono (by simp; omega))⟩
    · obtain ⟨k, k1, k3, k4, hc⟩ := M.civ_cases hok.out hr
      rw [← M.cvl_0 hv] at hc
      have r1 : -62135596800 ≤ x := by omega
      have r2 : x < 253402300800 + (n : Int) := by omega
      have K3 := Lib.hid k3
      have K4 := Lib.hid k4
      have HC := Lib.hid hc
      clear hr k3 k4 hc hv
      go_enter Try.func14, Try.ntmps14
      go_wp2_with (go_at_call 19; refine (Valid_at _ (Lib.hid (h.out.alloc2 _ _)) V).mono ?_; rintro e w2 ⟨rfl, hb⟩; have hc0 : w2.cell? ⟨w.heap.size, 0, none⟩ = some (.slice sl n cap) := ((bcell hb).1 w.heap.size 0 (by simp; omega)).trans (by simp [go_sem]); have hc1 : w2.cell? ⟨w.heap.size + 1, 0, none⟩ = some (.int .i64 x) := ((bcell hb).1 (w.heap.size + 1) 0 (by simp)).trans (by simp [go_sem]))
      have HT : Hid (Tab w2 sl n b o A T) := Lib.hid ((h.out.alloc2 _ _).below hb)
      have HB : Hid (Below w.heap.size w w2) := Lib.hid ((((Below.refl _ _).alloc (Nat.le_refl _) _).alloc (by simp) _).trans (hb.mono (by simp; omega)))
      clear hb
      go_wp2
      go_loopw [5, 6] (fun i j wr => (∃ q, wr = w2.drewN q) ∧ ∃ lo hi : Nat, i = .int .i64 lo ∧ j = .int .i64 hi ∧ lo ≤ k ∧ k ≤ hi ∧ hi ≤ n) (fun i j _ => (intOf j - intOf i).toNat)
      case atStart => exact ⟨⟨0, rfl⟩, 0, n, rfl, rfl, by omega, k1, Nat.le_refl _⟩
      case round =>
        obtain ⟨⟨q, rfl⟩, lo, hi, rfl, rfl, c1, c2, c3⟩ := hrel
        by_cases hlt : lo < hi
        · obtain ⟨m, hm⟩ : ∃ m, (lo + hi) / 2 = m := ⟨_, rfl⟩
          have hm' : ((lo : Int) + (hi : Int)) / 2 = (m : Int) := by omega
          have m1 : lo ≤ m := by omega
          have m2 : m < hi := by omega
          clear hm
          have hs := HT.out.sl (by omega)
          have hb := HT.out.lt (by omega)
          have cA := HT.out.cA m (by omega)
          have cT := HT.out.cT m (by omega)
          rw [hok.out.tt m (by omega)] at cT
          have a1 := hok.out.lo m (by omega)
          have a2 := hok.out.hi m (by omega)
          subst hs
          rcases Nat.lt_or_ge m k with hmk | hmk
          · have le := K3.out m hmk
            have e1 : decide (x ≤ A m + ((m : Int) + 1) - 1) = false := by simp; omega
            have e2 : (!decide (x ≤ A m + ((m : Int) + 1) - 1)) = true := by simp; omega
            go_wp2
            go_quiet (fail)
            go_wp2
            go_roundw
            case rel => exact ⟨⟨_, rfl⟩, m + 1, hi, by go_num, rfl, by omega, c2, c3⟩
            case measure => simp [intOf]; omega
          · have lt := K4.out m hmk (by omega)
            have e1 : decide (x ≤ A m + ((m : Int) + 1) - 1) = true := by simp; omega
            have e2 : (!decide (x ≤ A m + ((m : Int) + 1) - 1)) = false := by simp; omega
            go_wp2
            go_quiet (fail)
            go_wp2
            go_roundw
            case rel => exact ⟨⟨_, rfl⟩, lo, m, rfl, rfl, c1, hmk, by omega⟩
            case measure => simp [intOf]; omega
        · obtain rfl : lo = k := by omega
          obtain rfl : lo = hi := by omega
          by_cases hkn : lo < n
          · have hs := HT.out.sl (by omega)
            have hb := HT.out.lt (by omega)
            have cA := HT.out.cA lo (by omega)
            have cT := HT.out.cT lo (by omega)
            rw [hok.out.tt lo (by omega)] at cT
            have a1 := hok.out.lo lo (by omega)
            have a2 := hok.out.hi lo (by omega)
            subst hs
            by_cases he : A lo + (lo : Int) = x
            · have R : Hid (M.cvl n A T x = ((A lo, true), 0)) := Lib.hid (by
                rcases HC.out with ⟨_, _, c3⟩ | ⟨c1, _⟩
                · exact c3
                · have := c1 hkn; omega)
              have e1 : (A lo + ((lo : Int) + 1) - 1 == x) = true := by simp; omega
              have e0 : decide ((lo : Int) < (n : Int)) = true := by simp; omega
              go_wp2
              go_quiet (fail)
              go_wp2
              go_ret3
              exact ⟨ret_cvl R.out, bdrewN HB.out⟩
            · have R : Hid (M.cvl n A T x = ((x - lo, false), 0)) := Lib.hid (by
                rcases HC.out with ⟨_, c2, _⟩ | ⟨_, c3⟩
                · exact absurd c2 he
                · exact c3)
              have e1 : (A lo + ((lo : Int) + 1) - 1 == x) = false := by simp; omega
              have e0 : decide ((lo : Int) < (n : Int)) = true := by simp; omega
              go_wp2
              go_quiet (fail)
              go_wp2
              go_ret3
              exact ⟨ret_cvl R.out, bdrewN HB.out⟩
          · have R : Hid (M.cvl n A T x = ((x - lo, false), 0)) := Lib.hid (by
              rcases HC.out with ⟨c1, _, _⟩ | ⟨_, c3⟩
              · exact absurd c1 hkn
              · exact c3)
            have e0 : decide ((lo : Int) < (n : Int)) = false := by simp; omega
            go_wp2
            go_quiet (fail)
            go_wp2
            go_ret3
            exact ⟨ret_cvl R.out, bdrewN HB.out⟩

end Go.Proofs.Ytplgladflhglaaa.Lp
