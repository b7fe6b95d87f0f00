/- Walks: the reference's Lengths, Shape; a law's look at long pages. -/
import Derived.Test.YtphiblmkgbkdmaaDoorPgA1
namespace Go.Proofs.YtphiblmkgbkdmaaDoor.Pg
set_option linter.unusedVariables false
set_option linter.unusedSimpArgs false
open Go.RowKit Wl

theorem rLengths_any {A B : Option Addr} {n c m d : Nat} (w : World) : Calls Tryd.prog 24 #[.slice A n c, .slice B m d] w fun e w' => e = .returned (.bool (lenB n m)) ∧ w = w' := by
  by_cases h1 : 1 ≤ n
  · have d1 : decide ((1 : Int) ≤ (n : Int)) = true := decide_eq_true (by omega)
    by_cases h2 : n ≤ 40
    · have d2 : decide ((n : Int) ≤ 40) = true := decide_eq_true (by omega)
      by_cases h3 : m ≤ 120
      · have R : Hid (true = lenB n m) := Lib.hid (decide_eq_true ⟨h1, h2, h3⟩).symm
        have d3 : decide ((m : Int) ≤ 120) = true := decide_eq_true (by omega)
        go_enter Tryd.func24, Tryd.ntmps24
        go_wp2
        go_ret
        exact ⟨ret_bool (by rw [← R.out]), rfl⟩
      · have R : Hid (false = lenB n m) := Lib.hid (decide_eq_false (by omega)).symm
        have d3 : decide ((m : Int) ≤ 120) = false := decide_eq_false (by omega)
        go_enter Tryd.func24, Tryd.ntmps24
        go_wp2
        go_ret
        exact ⟨ret_bool (by rw [← R.out]), rfl⟩
    · have R : Hid (false = lenB n m) := Lib.hid (decide_eq_false (by omega)).symm
      have d2 : decide ((n : Int) ≤ 40) = false := decide_eq_false (by omega)
      go_enter Tryd.func24, Tryd.ntmps24
      go_wp2
      go_ret
      exact ⟨ret_bool (by rw [← R.out]), rfl⟩
  · have R : Hid (false = lenB n m) := Lib.hid (decide_eq_false (by omega)).symm
    have d1 : decide ((1 : Int) ≤ (n : Int)) = false := decide_eq_false (by omega)
    go_enter Tryd.func24, Tryd.ntmps24
    go_wp2
    go_ret
    exact ⟨ret_bool (by rw [← R.out]), rfl⟩
set_option maxRecDepth 20000 in
set_option maxHeartbeats 3200000 in
theorem rShape_ok {f : FV} {PA FA : Option Addr} {n pc m fc : Nat} {r0 : Int} (hcs : CsOf f PA n pc r0 FA m fc) (w : World) (HF : Hid (Fl w f)) (SH : Hid (Shp f.f)) :
    Calls Tryd.prog 23 #[.agg #[.slice PA n pc, .int .i64 r0, .slice FA m fc]] w fun e w' => e = .returned (.bool true) ∧ Below w.heap.size w w' := by
  obtain ⟨h1, h2, h3, h4, h5, h6, h7⟩ := cs_root hcs
  have hp : Hid (Pr w PA n pc f.ps) := Lib.hid (by have := HF.out.pg; rw [← h2, ← h4, ← h5] at this; exact this)
  have hf : Hid (Rd w 1 FA m fc (iv f.free)) := Lib.hid (by have := HF.out.fr; rw [← h3, ← h6, ← h7] at this; exact this)
  have n4 : n ≤ 4096 := by have := SH.out.n4; simp only [FV.f, List.length_map] at this; omega
  have r1 : -1 ≤ r0 := by have := SH.out.r1; simp only [FV.f] at this; omega
  have r2 : r0 < n := by have := SH.out.r2; simp only [FV.f, List.length_map] at this; omega
  have FR : Hid (∀ (i : Nat) (x : Int), f.free[i]? = some x → 0 ≤ x ∧ x < n ∧ (∀ y, 0 < i → f.free[i - 1]? = some y → y < x) ∧ x ≠ r0) := Lib.hid fun i x hx => by
    have h := SH.out.fr i x hx
    simp only [FV.f, List.length_map] at h
    rw [h2, h1]; exact h
  have P2 : Hid (∀ x ∈ f.ps, x.d.length = 256) := Lib.hid fun x hx => SH.out.p256 x.d (List.mem_map.2 ⟨x, hx, rfl⟩)
  have hm4 : m ≤ 4096 := by
    have h := frok_len SH.out.fr
    simp only [FV.f, List.length_map] at h
    omega
  clear h1 h2 h3 h4 h5 h6 h7
  have hmc := hf.out.nc
  have hm63 := hf.out.c63
  have hnc := hp.out.row.nc
  have hn63 := hp.out.row.c63
  have d1 : decide ((4096 : Int) < (n : Int)) = false := decide_eq_false (by omega)
  have d2 : decide (r0 < -1) = false := decide_eq_false (by omega)
  have d3 : decide ((n : Int) ≤ r0) = false := decide_eq_false (by omega)
  obtain ⟨W0, hW0⟩ : ∃ W0, w.alloc (.cells #[.slice PA n pc, .int .i64 r0, .slice FA m fc] 30) = W0 := ⟨_, rfl⟩
  have hb0 : Below w.heap.size w W0 := hW0 ▸ bal _ _
  have B0 : Hid (Bx W0 w.heap.size [.slice PA n pc, .int .i64 r0, .slice FA m fc]) := Lib.hid (hW0 ▸ Bx.new w #[.slice PA n pc, .int .i64 r0, .slice FA m fc] _)
  have HW0 := Lib.hid hW0
  clear hW0
  have hf := Lib.hid (Rd.below hf.out hb0)
  have hp := Lib.hid (hp.out.below hb0)
  have z0 := B0.out.at_ 0 (by simp)
  have z1 := B0.out.at_ 1 (by simp)
  have z2 := B0.out.at_ 2 (by simp)
  simp only [List.getElem?_cons_succ, List.getElem?_cons_zero] at z0 z1 z2
  go_enter Tryd.func23, Tryd.ntmps23
  go_upto_region 1 with fail
  rw [HW0.out]
  go_wp2_with fail
  go_loopw [3] (fun iv wr => ∃ j : Nat, j ≤ n ∧ iv = .int .i64 j ∧ W0 = wr) (fun iv _ => (n - intOf iv).toNat)
  case atStart => exact ⟨0, by omega, rfl, rfl⟩
  case round =>
    obtain ⟨j, hj, rfl, rfl⟩ := hrel
    by_cases hlt : j < n
    · obtain ⟨g, o, x, rfl, hg, hx, hc⟩ := Rd.at1 (val := PV.v) hp.out.row hlt
      have h256 := P2.out x (List.mem_of_getElem? hx)
      unfold PV.v at hc
      rw [h256] at hc
      clear hx
      go_wp2_with fail
      go_roundw
      case rel => exact ⟨j + 1, by omega, by go_num, by first | trivial | rfl⟩
      case measure => simp [intOf]; omega
    · obtain rfl : n = j := by omega
      go_wp2_with fail
      go_loopw [4] (fun iv wr => ∃ j : Nat, j ≤ m ∧ iv = .int .i64 j ∧ Below W0.heap.size W0 wr) (fun iv _ => (m - intOf iv).toNat)
      case atStart => exact ⟨0, by omega, rfl, Below.refl _ _⟩
      case round =>
        obtain ⟨j, hj, rfl, bw⟩ := hrel
        have Bq := Lib.hid (B0.out.step bw)
        have hfq := Lib.hid (Rd.below hf.out bw)
        have z0 := Bq.out.at_ 0 (by simp)
        have z1 := Bq.out.at_ 1 (by simp)
        have z2 := Bq.out.at_ 2 (by simp)
        simp only [List.getElem?_cons_succ, List.getElem?_cons_zero] at z0 z1 z2
        by_cases hlt : j < m
        · obtain ⟨g, o, x, rfl, hg, hx, hc⟩ := Rd.at1 hfq.out hlt
          have HX := Lib.hid hx
          obtain ⟨f1, f2, f3, f4⟩ := FR.out j x hx
          have e1 : decide (x < 0) = false := decide_eq_false (by omega)
          have e2 : decide ((n : Int) ≤ x) = false := decide_eq_false (by omega)
          have e4 : decide (x = r0) = false := decide_eq_false f4
          have zlt := Bq.out.lt
          clear hx
          rcases j with _ | j
          · rw [Nat.add_zero] at hc
            clear f3
            go_wp2_with fail
            have hS := Abv.cells wr
            refine wp_region_abv (by kernel_rfl) (by kernel_rfl) ?_
            repeat (go_big_quiet_step ((fail)))
            refine wpQuiet_nil ?_
            rintro w2 hw2
            clear hS
            have bw2 := bw.trans (hw2.mono bw.size)
            clear hw2
            go_wp2_with fail
            go_roundw
            case rel => exact ⟨0 + 1, by omega, by first | trivial | go_num, bw2⟩
            case measure => simp [intOf]; omega
          · obtain ⟨g', o', y, e', _, hy, hcy⟩ := Rd.at1 hfq.out (show j < m by omega)
            injection e' with e'; injection e' with e' e''; subst e' e''
            have hyx := f3 y (by omega) (by simpa using hy)
            have e3 : decide (x ≤ y) = false := decide_eq_false (by omega)
            clear hy f3
            go_wp2_with fail
            have hS := Abv.cells wr
            refine wp_region_abv (by kernel_rfl) (by kernel_rfl) ?_
            repeat (go_big_quiet_step ((fail)))
            refine wpQuiet_nil ?_
            rintro w2 hw2
            clear hS
            have bw2 := bw.trans (hw2.mono bw.size)
            clear hw2
            go_wp2_with fail
            go_roundw
            case rel => exact ⟨j + 1 + 1, by omega, by first | trivial | go_num, bw2⟩
            case measure => simp [intOf]; omega
        · obtain rfl : j = m := by omega
          go_wp2_with fail
          go_ret
          exact ⟨rfl, hb0.trans (bw.mono hb0.size)⟩
end Go.Proofs.YtphiblmkgbkdmaaDoor.Pg
