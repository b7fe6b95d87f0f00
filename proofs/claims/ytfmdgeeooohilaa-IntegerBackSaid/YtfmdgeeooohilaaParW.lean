/- Walk of integer.Parse. -/
import Derived.Test.YtfmdgeeooohilaaIntW3
import Derived.Test.YtfmdgeeooohilaaParM
namespace Go.Proofs.Ytfmdgeeooohilaa
set_option linter.unusedVariables false
set_option linter.unusedSimpArgs false
open Go.RowKit

theorem str_empty {t : ByteArray} (h : t.size = 0) : t = ⟨#[]⟩ := by
  rcases t with ⟨⟨l⟩⟩
  cases l with
  | nil => rfl
  | cons a l => simp [ByteArray.size] at h
theorem str_full {t : ByteArray} (h : t.size ≠ 0) : t.toList.isEmpty = false := by
  rw [ByteArray.toList_eq]
  rcases t with ⟨⟨l⟩⟩
  cases l with
  | nil => exact absurd rfl h
  | cons a l => rfl
theorem ret_ps {s : ByteArray} {a b : Int} (h : M.ps s = (a, b)) : Ending.returned (.tuple #[.int .i64 a, .int .i64 b]) = .returned (.tuple #[.int .i64 (M.ps s).1, .int .i64 (M.ps s).2]) := by rw [h]

set_option maxHeartbeats 2000000 in
theorem Parse_any (s : ByteArray) (w : World) (hs : s.size ≤ 9223372036854775807) : Calls Try.prog 27 #[.string s] w fun e w' =>
    e = .returned (.tuple #[.int .i64 (M.ps s).1, .int .i64 (M.ps s).2]) ∧ w = w' := by
  by_cases hb : 30 < s.size
  · have R := Lib.hid (M.ps_full hb)
    go_enter Try.func27, Try.ntmps27
    go_wp2
    go_ret2
    exact ⟨ret_ps R.out, rfl⟩
  · have hb' : s.size ≤ 30 := by omega
    have K : ∃ (t : ByteArray) (ng : Bool) (lim : Int) (sg : Int → Int), t.size ≤ 30 ∧ (ng = true → 1 ≤ s.size ∧ s.extract 1 s.size = t) ∧ (ng = false → s = t) ∧ (ng = true ↔ (0 < s.size ∧ M.ch s 0 = 45)) ∧ (lim = 9223372036854775807 ∨ lim = 9223372036854775808) ∧
        (t.size = 0 ∨ ¬ M.digsTo t t.size → M.ps s = (0, 3)) ∧ (t.size ≠ 0 → M.digsTo t t.size → M.pn t t.size ≤ lim → M.ps s = (sg (M.pn t t.size), 0)) ∧ (t.size ≠ 0 → M.digsTo t t.size → lim < M.pn t t.size → M.ps s = (0, 9)) ∧
        (∀ v w, 0 ≤ v → v ≤ lim → Calls Try.prog 30 #[.int .u64 v, .bool ng] w fun e w' => e = .returned (.tuple #[.int .i64 (sg v), .bool true]) ∧ w = w') ∧
        (∀ v w, lim < v → v ≤ 18446744073709551615 → Calls Try.prog 30 #[.int .u64 v, .bool ng] w fun e w' => e = .returned (.tuple #[.int .i64 0, .bool false]) ∧ w = w') := by
      by_cases h45 : 0 < s.size ∧ M.ch s 0 = 45
      · refine ⟨s.extract 1 s.size, true, 9223372036854775808, fun v => -v, by simp [ByteArray.size_extract]; omega, fun _ => ⟨by omega, rfl⟩, fun h => by simp at h, by simp [h45], .inr rfl, fun h => ?_, fun h0 h1 h2 => ?_, fun h0 h1 h2 => ?_, fun v w h1 h2 => signed_neg v w h1 h2, fun v w h1 h2 => signed_no v true w (.inl ⟨rfl, h1⟩) h2⟩
        · rw [M.ps_neg hb h45]; exact M.pd_form h
        · rw [M.ps_neg hb h45]; exact M.pd_neg h0 h1 h2
        · rw [M.ps_neg hb h45]; exact M.pd_big h0 h1 (.inl ⟨rfl, h2⟩)
      · refine ⟨s, false, 9223372036854775807, fun v => v, by omega, fun h => by simp at h, fun _ => rfl, by simp [h45], .inl rfl, fun h => ?_, fun h0 h1 h2 => ?_, fun h0 h1 h2 => ?_, fun v w h1 h2 => signed_pos v w h1 h2, fun v w h1 h2 => signed_no v false w (.inr ⟨rfl, h1⟩) h2⟩
        · rw [M.ps_pos hb h45]; exact M.pd_form h
        · rw [M.ps_pos hb h45]; exact M.pd_pos h0 h1 h2
        · rw [M.ps_pos hb h45]; exact M.pd_big h0 h1 (.inr ⟨rfl, h2⟩)
    obtain ⟨t, ng, lim, sg, ht, k1, k2, k3, hlim, r3, r0, r9, s1, s0⟩ := K
    have R3 := Lib.hid r3
    have R0 := Lib.hid r0
    have R9 := Lib.hid r9
    have S1 := Lib.hid s1
    have S0 := Lib.hid s0
    clear r3 r0 r9 s1 s0
    have hE : (0 < s.size ∧ ng = true ∧ s.extract 1 s.size = t ∧ M.ch s 0 = 45) ∨ (0 < s.size ∧ ng = false ∧ s = t ∧ M.ch s 0 ≠ 45) ∨ (s.size = 0 ∧ ng = false ∧ s = t) := by
      rcases Nat.eq_zero_or_pos s.size with h0 | h0
      · cases ng
        · exact .inr (.inr ⟨h0, rfl, k2 rfl⟩)
        · have := (k1 rfl).1; omega
      · cases ng
        · exact .inr (.inl ⟨h0, rfl, k2 rfl, fun h => by simpa using k3.2 ⟨h0, h⟩⟩)
        · exact .inl ⟨h0, rfl, (k1 rfl).2, (k3.1 rfl).2⟩
    clear k1 k2 k3 hb hs
    rcases hE with ⟨h0, rfl, hx, h45⟩ | ⟨h0, rfl, rfl, h45⟩ | ⟨h0, rfl, rfl⟩
    · have e45 : ((s[0].toNat : Int) == 45) = true := by rw [M.ch_eq]; simp [h45]
      have h1 : (1 : Int) ≤ (s.size : Int) := by omega
      have HX := Lib.hid hx
      clear h45
      by_cases ht0 : t.size = 0
      · have := str_empty ht0
        subst this
        have R := Lib.hid (R3.out (.inl rfl))
        go_enter Try.func27, Try.ntmps27
        go_wp2
        go_ret2
        exact ⟨ret_ps R.out, rfl⟩
      · have ht1 := str_full ht0
        have hr : Hid (t.size ≠ 0) := Lib.hid ht0
        clear ht0
        go_enter Try.func27, Try.ntmps27
        go_wp2
        go_loop [5, 6, 29] (fun m big i => ∃ (j : Nat) (v : Int) (b : Bool), j ≤ t.size ∧ i = .int .i64 j ∧ m = .int .u64 v ∧ big = .bool b ∧ 0 ≤ v ∧ v ≤ 9223372036854775809 ∧ Hid (M.digsTo t j) ∧ ((b = false ∧ Hid (v = M.pn t j)) ∨ (b = true ∧ Hid (9223372036854775808 < M.pn t j)))) (fun _ _ i => (t.size - intOf i).toNat)
        case atStart => exact ⟨0, 0, false, by omega, rfl, rfl, rfl, by omega, by omega, Lib.hid fun i hi => absurd hi (by omega), .inl ⟨rfl, Lib.hid rfl⟩⟩
        case round =>
          obtain ⟨j, v, b, hj, rfl, rfl, rfl, v0, v9, hd, hb⟩ := hrel
          by_cases hlt : j < t.size
          · have E := Lib.hid (M.ch_eq t j hlt)
            by_cases hc : M.isDig t j
            · have c1 : 48 ≤ (t[j].toNat : Int) := by rw [E.out]; exact hc.1
              have c2 : (t[j].toNat : Int) ≤ 57 := by rw [E.out]; exact hc.2
              have nd : Hid (M.digsTo t (j + 1)) := Lib.hid (M.pn_step hd.out hc)
              have ps : Hid (M.pn t (j + 1) = 10 * M.pn t j + ((t[j].toNat : Int) - 48)) := Lib.hid (by rw [E.out]; rfl)
              have pm : Hid (M.pn t j ≤ M.pn t (j + 1)) := Lib.hid (M.pn_mono nd.out)
              clear hc
              rcases hb with ⟨rfl, hv⟩ | ⟨rfl, hv⟩
              · by_cases hg : 922337203685477580 < v
                · go_wp2
                  go_round
                  case rel => exact ⟨j + 1, v, true, by omega, by go_num, rfl, rfl, v0, v9, nd, .inr ⟨rfl, Lib.hid (by have := ps.out; have := hv.out; omega)⟩⟩
                  case measure => simp [intOf]; omega
                · have hg' : v ≤ 922337203685477580 := by omega
                  clear hg
                  go_wp2
                  go_round
                  case rel => exact ⟨j + 1, 10 * v + ((t[j].toNat : Int) - 48), false, by omega, by go_num, rfl, rfl, by omega, by omega, nd, .inl ⟨rfl, Lib.hid (by rw [ps.out, hv.out])⟩⟩
                  case measure => simp [intOf]; omega
              · have nx : Hid (9223372036854775808 < M.pn t (j + 1)) := Lib.hid (by have := pm.out; have := hv.out; omega)
                by_cases hg : 922337203685477580 < v
                · go_wp2
                  go_round
                  case rel => exact ⟨j + 1, v, true, by omega, by go_num, rfl, rfl, v0, v9, nd, .inr ⟨rfl, nx⟩⟩
                  case measure => simp [intOf]; omega
                · have hg' : v ≤ 922337203685477580 := by omega
                  clear hg
                  go_wp2
                  go_round
                  case rel => exact ⟨j + 1, v, true, by omega, by go_num, rfl, rfl, v0, v9, nd, .inr ⟨rfl, nx⟩⟩
                  case measure => simp [intOf]; omega
            · have R := Lib.hid (R3.out (.inr fun h => hc (h j hlt)))
              have hc' : (t[j].toNat : Int) < 48 ∨ (48 ≤ (t[j].toNat : Int) ∧ 57 < (t[j].toNat : Int)) := by rw [E.out]; unfold M.isDig at hc; omega
              clear hc hb
              rcases hc' with c1 | ⟨c1, c2⟩
              all_goals
                go_wp2
                go_ret2
                exact ⟨ret_ps R.out, rfl⟩
          · obtain rfl : j = t.size := by omega
            clear hlt
            rcases hb with ⟨rfl, hv⟩ | ⟨rfl, hv⟩
            · by_cases hl : v ≤ lim
              · have R := Lib.hid (R0.out hr.out hd.out (by rw [← hv.out]; exact hl))
                have SS : Hid (∀ w, Calls Try.prog 30 #[.int .u64 v, .bool true] w fun e w' => e = .returned (.tuple #[.int .i64 (sg v), .bool true]) ∧ w = w') := Lib.hid fun w => S1.out v w v0 hl
                clear hl
                go_wp2_with (go_at_call 30; refine (SS.out _).mono ?_; rintro e w' ⟨rfl, rfl⟩)
                go_ret2
                exact ⟨ret_ps (by rw [R.out, hv.out]), rfl⟩
              · have R := Lib.hid (R9.out hr.out hd.out (by rw [← hv.out]; omega))
                have SS : Hid (∀ w, Calls Try.prog 30 #[.int .u64 v, .bool true] w fun e w' => e = .returned (.tuple #[.int .i64 0, .bool false]) ∧ w = w') := Lib.hid fun w => S0.out v w (by omega) (by omega)
                clear hl
                go_wp2_with (go_at_call 30; refine (SS.out _).mono ?_; rintro e w' ⟨rfl, rfl⟩)
                go_ret2
                exact ⟨ret_ps R.out, rfl⟩
            · have R := Lib.hid (R9.out hr.out hd.out (by have := hv.out; omega))
              have SS : Hid (∃ (p : Int) (ok : Bool), ∀ w, Calls Try.prog 30 #[.int .u64 v, .bool true] w fun e w' => e = .returned (.tuple #[.int .i64 p, .bool ok]) ∧ w = w') := Lib.hid (by
                by_cases hl : v ≤ lim
                · exact ⟨_, _, fun w => S1.out v w v0 hl⟩
                · exact ⟨_, _, fun w => S0.out v w (by omega) (by omega)⟩)
              obtain ⟨p, ok, SS⟩ := SS.out
              have SX := Lib.hid SS
              clear SS
              go_wp2_with (go_at_call 30; refine (SX.out _).mono ?_; rintro e w' ⟨rfl, rfl⟩)
              go_ret2
              exact ⟨ret_ps R.out, rfl⟩
    · have e45 : ((s[0].toNat : Int) == 45) = false := by rw [M.ch_eq]; simp [h45]
      have ht1 := str_full (t := s) (by omega)
      have hr : Hid (s.size ≠ 0) := Lib.hid (by omega)
      clear h45
      go_enter Try.func27, Try.ntmps27
      go_wp2
      go_loop [5, 6, 29] (fun m big i => ∃ (j : Nat) (v : Int) (b : Bool), j ≤ s.size ∧ i = .int .i64 j ∧ m = .int .u64 v ∧ big = .bool b ∧ 0 ≤ v ∧ v ≤ 9223372036854775809 ∧ Hid (M.digsTo s j) ∧ ((b = false ∧ Hid (v = M.pn s j)) ∨ (b = true ∧ Hid (9223372036854775808 < M.pn s j)))) (fun _ _ i => (s.size - intOf i).toNat)
      case atStart => exact ⟨0, 0, false, by omega, rfl, rfl, rfl, by omega, by omega, Lib.hid fun i hi => absurd hi (by omega), .inl ⟨rfl, Lib.hid rfl⟩⟩
      case round =>
        obtain ⟨j, v, b, hj, rfl, rfl, rfl, v0, v9, hd, hb⟩ := hrel
        by_cases hlt : j < s.size
        · have E := Lib.hid (M.ch_eq s j hlt)
          by_cases hc : M.isDig s j
          · have c1 : 48 ≤ (s[j].toNat : Int) := by rw [E.out]; exact hc.1
            have c2 : (s[j].toNat : Int) ≤ 57 := by rw [E.out]; exact hc.2
            have nd : Hid (M.digsTo s (j + 1)) := Lib.hid (M.pn_step hd.out hc)
            have ps : Hid (M.pn s (j + 1) = 10 * M.pn s j + ((s[j].toNat : Int) - 48)) := Lib.hid (by rw [E.out]; rfl)
            have pm : Hid (M.pn s j ≤ M.pn s (j + 1)) := Lib.hid (M.pn_mono nd.out)
            clear hc
            rcases hb with ⟨rfl, hv⟩ | ⟨rfl, hv⟩
            · by_cases hg : 922337203685477580 < v
              · go_wp2
                go_round
                case rel => exact ⟨j + 1, v, true, by omega, by go_num, rfl, rfl, v0, v9, nd, .inr ⟨rfl, Lib.hid (by have := ps.out; have := hv.out; omega)⟩⟩
                case measure => simp [intOf]; omega
              · have hg' : v ≤ 922337203685477580 := by omega
                clear hg
                go_wp2
                go_round
                case rel => exact ⟨j + 1, 10 * v + ((s[j].toNat : Int) - 48), false, by omega, by go_num, rfl, rfl, by omega, by omega, nd, .inl ⟨rfl, Lib.hid (by rw [ps.out, hv.out])⟩⟩
                case measure => simp [intOf]; omega
            · have nx : Hid (9223372036854775808 < M.pn s (j + 1)) := Lib.hid (by have := pm.out; have := hv.out; omega)
              by_cases hg : 922337203685477580 < v
              · go_wp2
                go_round
                case rel => exact ⟨j + 1, v, true, by omega, by go_num, rfl, rfl, v0, v9, nd, .inr ⟨rfl, nx⟩⟩
                case measure => simp [intOf]; omega
              · have hg' : v ≤ 922337203685477580 := by omega
                clear hg
                go_wp2
                go_round
                case rel => exact ⟨j + 1, v, true, by omega, by go_num, rfl, rfl, v0, v9, nd, .inr ⟨rfl, nx⟩⟩
                case measure => simp [intOf]; omega
          · have R := Lib.hid (R3.out (.inr fun h => hc (h j hlt)))
            have hc' : (s[j].toNat : Int) < 48 ∨ (48 ≤ (s[j].toNat : Int) ∧ 57 < (s[j].toNat : Int)) := by rw [E.out]; unfold M.isDig at hc; omega
            clear hc hb
            rcases hc' with c1 | ⟨c1, c2⟩
            all_goals
              go_wp2
              go_ret2
              exact ⟨ret_ps R.out, rfl⟩
        · obtain rfl : j = s.size := by omega
          clear hlt
          rcases hb with ⟨rfl, hv⟩ | ⟨rfl, hv⟩
          · by_cases hl : v ≤ lim
            · have R := Lib.hid (R0.out hr.out hd.out (by rw [← hv.out]; exact hl))
              have SS : Hid (∀ w, Calls Try.prog 30 #[.int .u64 v, .bool false] w fun e w' => e = .returned (.tuple #[.int .i64 (sg v), .bool true]) ∧ w = w') := Lib.hid fun w => S1.out v w v0 hl
              clear hl
              go_wp2_with (go_at_call 30; refine (SS.out _).mono ?_; rintro e w' ⟨rfl, rfl⟩)
              go_ret2
              exact ⟨ret_ps (by rw [R.out, hv.out]), rfl⟩
            · have R := Lib.hid (R9.out hr.out hd.out (by rw [← hv.out]; omega))
              have SS : Hid (∀ w, Calls Try.prog 30 #[.int .u64 v, .bool false] w fun e w' => e = .returned (.tuple #[.int .i64 0, .bool false]) ∧ w = w') := Lib.hid fun w => S0.out v w (by omega) (by omega)
              clear hl
              go_wp2_with (go_at_call 30; refine (SS.out _).mono ?_; rintro e w' ⟨rfl, rfl⟩)
              go_ret2
              exact ⟨ret_ps R.out, rfl⟩
          · have R := Lib.hid (R9.out hr.out hd.out (by have := hv.out; omega))
            have SS : Hid (∃ (p : Int) (ok : Bool), ∀ w, Calls Try.prog 30 #[.int .u64 v, .bool false] w fun e w' => e = .returned (.tuple #[.int .i64 p, .bool ok]) ∧ w = w') := Lib.hid (by
              by_cases hl : v ≤ lim
              · exact ⟨_, _, fun w => S1.out v w v0 hl⟩
              · exact ⟨_, _, fun w => S0.out v w (by omega) (by omega)⟩)
            obtain ⟨p, ok, SS⟩ := SS.out
            have SX := Lib.hid SS
            clear SS
            go_wp2_with (go_at_call 30; refine (SX.out _).mono ?_; rintro e w' ⟨rfl, rfl⟩)
            go_ret2
            exact ⟨ret_ps R.out, rfl⟩
    · have := str_empty h0
      subst this
      have R := Lib.hid (R3.out (.inl rfl))
      go_enter Try.func27, Try.ntmps27
      go_wp2
      go_ret2
      exact ⟨ret_ps R.out, rfl⟩

end Go.Proofs.Ytfmdgeeooohilaa
