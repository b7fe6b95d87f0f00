/- Walk of the reference's parsing of integers. -/
import Derived.Test.YtfmdgeeooohilaaParW
import Derived.Test.YtfmdgeeooohilaaParM2
import Derived.Test.YtfmdgeeooohilaaIntR
namespace Go.Proofs.Ytfmdgeeooohilaa
set_option linter.unusedVariables false
set_option linter.unusedSimpArgs false
open Go.RowKit

theorem rMul_at {a b l e : Int} (w : World) (h1 : -9223372036854775808 ≤ a) (h2 : a ≤ 9223372036854775807) (h3 : -9223372036854775808 ≤ b) (h4 : b ≤ 9223372036854775807)
    (h : Hid (M.ml a b = (l, e))) :
    Calls Try.prog 26 #[.int .i64 a, .int .i64 b] w fun x w' => x = .returned (.tuple #[.int .i64 l, .int .i64 e]) ∧ ∃ n, w' = w.drewN n :=
  (rMul_any a b w h1 h2 h3 h4).mono fun _ _ ⟨he, hw⟩ => ⟨he.trans (by rw [h.out]), hw⟩

set_option maxHeartbeats 4000000 in
theorem rParse_any (s : ByteArray) (w : World) (hs : s.size ≤ 9223372036854775807) : Calls Try.prog 28 #[.string s] w fun e w' =>
    e = .returned (.tuple #[.int .i64 (M.ps s).1, .int .i64 (M.ps s).2]) ∧ ∃ q, w' = w.drewN q := by
  by_cases hb : 30 < s.size
  · have R := Lib.hid (M.ps_full hb)
    go_enter Try.func28, Try.ntmps28
    go_wp2
    go_ret2
    exact ⟨ret_ps R.out, 0, rfl⟩
  · obtain ⟨t, lim, sg, ht, hE, r3, r0, r9⟩ := M.ps_parts s hb
    have hb' : s.size ≤ 30 := by omega
    have R3 := Lib.hid r3
    have R0 := Lib.hid r0
    have R9 := Lib.hid r9
    clear r3 r0 r9 hb hs
    rcases hE with ⟨h0, h45, hx, rfl, rfl⟩ | ⟨h0, h45, rfl, rfl, rfl⟩ | ⟨h0, rfl⟩
    · have e45 : ((s[0].toNat : Int) == 45) = true := by rw [M.ch_eq]; simp [h45]
      have h1 : (1 : Int) ≤ (s.size : Int) := by omega
      have hse := str_full (t := s) (by omega)
      have HX := Lib.hid hx
      clear h45
      by_cases ht0 : t.size = 0
      · have := str_empty ht0
        subst this
        have R := Lib.hid (R3.out (.inl rfl))
        go_enter Try.func28, Try.ntmps28
        go_wp2
        go_ret2
        exact ⟨ret_ps R.out, 0, rfl⟩
      · have ht1 := str_full ht0
        have hr : Hid (t.size ≠ 0) := Lib.hid ht0
        clear ht0
        go_enter Try.func28, Try.ntmps28
        go_wp2
        go_loopw [5] (fun i wr => (∃ q, wr = w.drewN q) ∧ ∃ (j : Nat), j ≤ t.size ∧ i = .int .i64 j ∧ Hid (M.digsTo t j)) (fun i _ => (t.size - intOf i).toNat)
        case atStart => exact ⟨⟨0, rfl⟩, 0, by omega, rfl, Lib.hid fun i hi => absurd hi (by omega)⟩
        case round =>
          obtain ⟨⟨q, rfl⟩, j, hj, rfl, hd⟩ := hrel
          by_cases hlt : j < t.size
          · have E := Lib.hid (M.ch_eq t j hlt)
            by_cases hc : M.isDig t j
            · have c1 : 48 ≤ (t[j].toNat : Int) := by rw [E.out]; exact hc.1
              have c2 : (t[j].toNat : Int) ≤ 57 := by rw [E.out]; exact hc.2
              have nd : Hid (M.digsTo t (j + 1)) := Lib.hid (M.pn_step hd.out hc)
              clear hc
              go_wp2
              go_roundw
              case rel => exact ⟨⟨_, rfl⟩, j + 1, by omega, by go_num, nd⟩
              case measure => simp [intOf]; omega
            · have R := Lib.hid (R3.out (.inr fun h => hc (h j hlt)))
              have hc' : (t[j].toNat : Int) < 48 ∨ (48 ≤ (t[j].toNat : Int) ∧ 57 < (t[j].toNat : Int)) := by rw [E.out]; unfold M.isDig at hc; omega
              clear hc
              rcases hc' with c1 | ⟨c1, c2⟩
              all_goals
                go_wp2
                go_ret2
                exact ⟨ret_ps R.out, _, rfl⟩
          · obtain rfl : j = t.size := by omega
            clear hlt
            have hall := hd
            go_wp2
            go_loopw [6, 7] (fun n i wr => (∃ q, wr = w.drewN q) ∧ ∃ (j : Nat), j ≤ t.size ∧ i = .int .i64 j ∧ n = .int .i64 (-1 * M.pn t j) ∧ M.pn t j ≤ 9223372036854775808) (fun _ i _ => (t.size - intOf i).toNat)
            case atStart => exact ⟨⟨_, rfl⟩, 0, by omega, rfl, rfl, by show (0 : Int) ≤ _; omega⟩
            case round =>
              obtain ⟨⟨q, rfl⟩, j, hj, rfl, rfl, hle⟩ := hrel
              by_cases hlt : j < t.size
              · have p0 := M.pn_nonneg (k := j) fun i hi => hall.out i (by omega)
                have E := M.ch_eq t j hlt
                have hc := hall.out j hlt
                have c1 : 48 ≤ (t[j].toNat : Int) := by rw [E]; exact hc.1
                have c2 : (t[j].toNat : Int) ≤ 57 := by rw [E]; exact hc.2
                have ps : Hid (M.pn t (j + 1) = 10 * M.pn t j + ((t[j].toNat : Int) - 48)) := Lib.hid (by rw [E]; rfl)
                have mono : Hid (M.pn t (j + 1) ≤ M.pn t t.size) := Lib.hid (by
                  have := M.pn_le (s := t) (k := j + 1) (j := t.size - (j + 1)) (by rw [show j + 1 + (t.size - (j + 1)) = t.size by omega]; exact hall.out)
                  rw [show j + 1 + (t.size - (j + 1)) = t.size by omega] at this; exact this)
                clear hc E
                obtain ⟨p, hp⟩ : ∃ p, M.pn t j = p := ⟨_, rfl⟩
                obtain ⟨x, hx⟩ : ∃ x : Int, -1 * p = x := ⟨_, rfl⟩
                have PS : Hid (M.pn t (j + 1) = 10 * p + ((t[j].toNat : Int) - 48)) := Lib.hid (by rw [← hp]; exact ps.out)
                rw [hp] at p0 hle ⊢
                rw [hx]
                have x1 : -9223372036854775808 ≤ x := by omega
                have x2 : x ≤ 9223372036854775807 := by omega
                by_cases hm : -9223372036854775808 ≤ x * 10 ∧ x * 10 ≤ 9223372036854775807
                · have hml := Lib.hid (M.ml_ok hm)
                  by_cases ha : -9223372036854775808 ≤ x * 10 + -1 * ((t[j].toNat : Int) - 48) ∧ x * 10 + -1 * ((t[j].toNat : Int) - 48) ≤ 9223372036854775807
                  · obtain ⟨m1, m2⟩ := hm
                    obtain ⟨a1, a2⟩ := ha
                    have HR : Hid (x * 10 + -((t[j].toNat : Int) - 48) = -1 * M.pn t (j + 1) ∧ M.pn t (j + 1) ≤ 9223372036854775808) := Lib.hid (by rw [PS.out]; omega)
                    clear ps hp hx mono PS
                    go_wp2_with (first
                      | (go_at_call 26; refine (rMul_at _ x1 x2 (by omega) (by omega) hml).mono ?_; rintro e w' ⟨rfl, n1, rfl⟩)
                      | (go_at_call 25; refine (rAdd_ok _ _ _ (by omega) (by omega) (by omega) (by omega) (by omega) (by omega)).mono ?_; rintro e w' ⟨rfl, rfl⟩))
                    go_roundw
                    case rel => exact ⟨⟨_, rfl⟩, j + 1, by omega, by go_num, by rw [← HR.out.1], HR.out.2⟩
                    case measure => simp [intOf]; omega
                  · obtain ⟨m1, m2⟩ := hm
                    have R := Lib.hid (R9.out hr.out hall.out (by have := mono.out; have := PS.out; omega))
                    have HA : Hid (x * 10 + -((t[j].toNat : Int) - 48) < -9223372036854775808 ∨ 9223372036854775807 < x * 10 + -((t[j].toNat : Int) - 48)) := Lib.hid (by omega)
                    clear ps hp hx mono PS ha
                    go_wp2_with (first
                      | (go_at_call 26; refine (rMul_at _ x1 x2 (by omega) (by omega) hml).mono ?_; rintro e w' ⟨rfl, n1, rfl⟩)
                      | (go_at_call 25; refine (rAdd_big _ _ _ (by omega) (by omega) (by omega) (by omega) HA.out).mono ?_; rintro e w' ⟨rfl, rfl⟩))
                    go_ret2
                    exact ⟨ret_ps R.out, _, rfl⟩
                · have hml := Lib.hid (M.ml_big hm)
                  have R := Lib.hid (R9.out hr.out hall.out (by have := mono.out; have := PS.out; omega))
                  clear ps hp hx mono PS hm
                  go_wp2_with (first
                    | (go_at_call 26; refine (rMul_at _ x1 x2 (by omega) (by omega) hml).mono ?_; rintro e w' ⟨rfl, n1, rfl⟩)
                    | (go_at_call 25; refine (rAdd_ok _ _ _ (by omega) (by omega) (by omega) (by omega) (by omega) (by omega)).mono ?_; rintro e w' ⟨rfl, rfl⟩))
                  go_ret2
                  exact ⟨ret_ps R.out, _, rfl⟩
              · obtain rfl : j = t.size := by omega
                have R := Lib.hid (R0.out hr.out hall.out hle)
                clear hlt hle
                go_wp2
                go_ret2
                exact ⟨ret_ps R.out, _, rfl⟩
    · have e45 : ((s[0].toNat : Int) == 45) = false := by rw [M.ch_eq]; simp [h45]
      have ht1 := str_full (t := s) (by omega)
      have hr : Hid (s.size ≠ 0) := Lib.hid (by omega)
      clear h45
      go_enter Try.func28, Try.ntmps28
      go_wp2
      go_loopw [5] (fun i wr => (∃ q, wr = w.drewN q) ∧ ∃ (j : Nat), j ≤ s.size ∧ i = .int .i64 j ∧ Hid (M.digsTo s j)) (fun i _ => (s.size - intOf i).toNat)
      case atStart => exact ⟨⟨0, rfl⟩, 0, by omega, rfl, Lib.hid fun i hi => absurd hi (by omega)⟩
      case round =>
        obtain ⟨⟨q, rfl⟩, j, hj, rfl, hd⟩ := hrel
        by_cases hlt : j < s.size
        · have E := Lib.hid (M.ch_eq s j hlt)
          by_cases hc : M.isDig s j
          · have c1 : 48 ≤ (s[j].toNat : Int) := by rw [E.out]; exact hc.1
            have c2 : (s[j].toNat : Int) ≤ 57 := by rw [E.out]; exact hc.2
            have nd : Hid (M.digsTo s (j + 1)) := Lib.hid (M.pn_step hd.out hc)
            clear hc
            go_wp2
            go_roundw
            case rel => exact ⟨⟨_, rfl⟩, j + 1, by omega, by go_num, nd⟩
            case measure => simp [intOf]; omega
          · have R := Lib.hid (R3.out (.inr fun h => hc (h j hlt)))
            have hc' : (s[j].toNat : Int) < 48 ∨ (48 ≤ (s[j].toNat : Int) ∧ 57 < (s[j].toNat : Int)) := by rw [E.out]; unfold M.isDig at hc; omega
            clear hc
            rcases hc' with c1 | ⟨c1, c2⟩
            all_goals
              go_wp2
              go_ret2
              exact ⟨ret_ps R.out, _, rfl⟩
        · obtain rfl : j = s.size := by omega
          clear hlt
          have hall := hd
          go_wp2
          go_loopw [6, 7] (fun n i wr => (∃ q, wr = w.drewN q) ∧ ∃ (j : Nat), j ≤ s.size ∧ i = .int .i64 j ∧ n = .int .i64 (1 * M.pn s j) ∧ M.pn s j ≤ 9223372036854775807) (fun _ i _ => (s.size - intOf i).toNat)
          case atStart => exact ⟨⟨_, rfl⟩, 0, by omega, rfl, rfl, by show (0 : Int) ≤ _; omega⟩
          case round =>
            obtain ⟨⟨q, rfl⟩, j, hj, rfl, rfl, hle⟩ := hrel
            by_cases hlt : j < s.size
            · have p0 := M.pn_nonneg (k := j) fun i hi => hall.out i (by omega)
              have E := M.ch_eq s j hlt
              have hc := hall.out j hlt
              have c1 : 48 ≤ (s[j].toNat : Int) := by rw [E]; exact hc.1
              have c2 : (s[j].toNat : Int) ≤ 57 := by rw [E]; exact hc.2
              have ps : Hid (M.pn s (j + 1) = 10 * M.pn s j + ((s[j].toNat : Int) - 48)) := Lib.hid (by rw [E]; rfl)
              have mono : Hid (M.pn s (j + 1) ≤ M.pn s s.size) := Lib.hid (by
                have := M.pn_le (s := s) (k := j + 1) (j := s.size - (j + 1)) (by rw [show j + 1 + (s.size - (j + 1)) = s.size by omega]; exact hall.out)
                rw [show j + 1 + (s.size - (j + 1)) = s.size by omega] at this; exact this)
              clear hc E
              obtain ⟨p, hp⟩ : ∃ p, M.pn s j = p := ⟨_, rfl⟩
              obtain ⟨x, hx⟩ : ∃ x : Int, 1 * p = x := ⟨_, rfl⟩
              have PS : Hid (M.pn s (j + 1) = 10 * p + ((s[j].toNat : Int) - 48)) := Lib.hid (by rw [← hp]; exact ps.out)
              rw [hp] at p0 hle ⊢
              rw [hx]
              have x1 : -9223372036854775808 ≤ x := by omega
              have x2 : x ≤ 9223372036854775807 := by omega
              by_cases hm : -9223372036854775808 ≤ x * 10 ∧ x * 10 ≤ 9223372036854775807
              · have hml := Lib.hid (M.ml_ok hm)
                by_cases ha : -9223372036854775808 ≤ x * 10 + 1 * ((s[j].toNat : Int) - 48) ∧ x * 10 + 1 * ((s[j].toNat : Int) - 48) ≤ 9223372036854775807
                · obtain ⟨m1, m2⟩ := hm
                  obtain ⟨a1, a2⟩ := ha
                  have HR : Hid (x * 10 + ((s[j].toNat : Int) - 48) = 1 * M.pn s (j + 1) ∧ M.pn s (j + 1) ≤ 9223372036854775807) := Lib.hid (by rw [PS.out]; omega)
                  clear ps hp hx mono PS
                  go_wp2_with (first
                    | (go_at_call 26; refine (rMul_at _ x1 x2 (by omega) (by omega) hml).mono ?_; rintro e w' ⟨rfl, n1, rfl⟩)
                    | (go_at_call 25; refine (rAdd_ok _ _ _ (by omega) (by omega) (by omega) (by omega) (by omega) (by omega)).mono ?_; rintro e w' ⟨rfl, rfl⟩))
                  go_roundw
                  case rel => exact ⟨⟨_, rfl⟩, j + 1, by omega, by go_num, by rw [← HR.out.1], HR.out.2⟩
                  case measure => simp [intOf]; omega
                · obtain ⟨m1, m2⟩ := hm
                  have R := Lib.hid (R9.out hr.out hall.out (by have := mono.out; have := PS.out; omega))
                  have HA : Hid (x * 10 + ((s[j].toNat : Int) - 48) < -9223372036854775808 ∨ 9223372036854775807 < x * 10 + ((s[j].toNat : Int) - 48)) := Lib.hid (by omega)
                  clear ps hp hx mono PS ha
                  go_wp2_with (first
                    | (go_at_call 26; refine (rMul_at _ x1 x2 (by omega) (by omega) hml).mono ?_; rintro e w' ⟨rfl, n1, rfl⟩)
                    | (go_at_call 25; refine (rAdd_big _ _ _ (by omega) (by omega) (by omega) (by omega) HA.out).mono ?_; rintro e w' ⟨rfl, rfl⟩))
                  go_ret2
                  exact ⟨ret_ps R.out, _, rfl⟩
              · have hml := Lib.hid (M.ml_big hm)
                have R := Lib.hid (R9.out hr.out hall.out (by have := mono.out; have := PS.out; omega))
                clear ps hp hx mono PS hm
                go_wp2_with (first
                  | (go_at_call 26; refine (rMul_at _ x1 x2 (by omega) (by omega) hml).mono ?_; rintro e w' ⟨rfl, n1, rfl⟩)
                  | (go_at_call 25; refine (rAdd_ok _ _ _ (by omega) (by omega) (by omega) (by omega) (by omega) (by omega)).mono ?_; rintro e w' ⟨rfl, rfl⟩))
                go_ret2
                exact ⟨ret_ps R.out, _, rfl⟩
            · obtain rfl : j = s.size := by omega
              have R := Lib.hid (R0.out hr.out hall.out hle)
              clear hlt hle
              go_wp2
              go_ret2
              exact ⟨ret_ps R.out, _, rfl⟩
    · have := str_empty h0
      subst this
      have R := Lib.hid (R3.out (.inl rfl))
      go_enter Try.func28, Try.ntmps28
      go_wp2
      go_ret2
      exact ⟨ret_ps R.out, 0, rfl⟩

end Go.Proofs.Ytfmdgeeooohilaa
