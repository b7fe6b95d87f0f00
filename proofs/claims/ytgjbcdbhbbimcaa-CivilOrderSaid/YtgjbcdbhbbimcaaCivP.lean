/- Walks through the reference's parsing of dates. -/
import Derived.Test.YtgjbcdbhbbimcaaCivR
import Derived.Test.YtgjbcdbhbbimcaaParseM
import Derived.Deep.RegionWith
import Derived.Deep.RegionHeld3
import Derived.Deep.DrawnRows
namespace Go.Proofs.Ytgjbcdbhbbimcaa
set_option linter.unusedVariables false
set_option linter.unusedSimpArgs false
open Go.RowKit
attribute [local go_sem ↓] Go.wp_at_zero Go.wp_at_succ

theorem number_any (s : ByteArray) (w : World) (t : ByteArray) (a : Nat) (h4 : s.size ≤ 4) (hs : ∀ i, i < s.size → M.ch s i = M.ch t (a + i)) (hd : ∀ i, i < s.size → 48 ≤ M.ch t (a + i) ∧ M.ch t (a + i) ≤ 57) :
    Calls Try.prog 46 #[.string s] w fun e w' => e = .returned (.int .i64 (M.pn t a s.size)) ∧ w = w' := by
  have HS := Lib.hid hs
  have HD := Lib.hid hd
  clear hs hd
  go_enter Try.func46, Try.ntmps46
  go_wp2
  go_loop [3, 4] (fun n i => ∃ j : Nat, j ≤ s.size ∧ i = .int .i64 j ∧ n = .int .i64 (M.pn t a j)) (fun _ i => (s.size - intOf i).toNat)
  case atStart => exact ⟨0, by omega, rfl, rfl⟩
  case round =>
    obtain ⟨j, hj, rfl, rfl⟩ := hrel
    by_cases hlt : j < s.size
    · have bd := M.pn_bd t a j fun i hi => HD.out i (by omega)
      have b1 : 0 ≤ M.pn t a j := bd.1
      have b2 : M.pn t a j ≤ 10000 := by
        have h := bd.2
        have hj4 : j = 0 ∨ j = 1 ∨ j = 2 ∨ j = 3 := by omega
        rcases hj4 with rfl | rfl | rfl | rfl <;> simp at h <;> omega
      have c := HD.out j hlt
      have e := M.ch_eq s j hlt
      have c1 : 48 ≤ (s[j].toNat : Int) := by rw [e, HS.out j hlt]; exact c.1
      have c2 : (s[j].toNat : Int) ≤ 57 := by rw [e, HS.out j hlt]; exact c.2
      have E := Lib.hid (e.trans (HS.out j hlt))
      clear bd c e
      go_wp2
      go_round
      case rel => exact ⟨j + 1, by omega, by go_num, by rw [E.out]; rfl⟩
      case measure => simp [intOf]; omega
    · obtain rfl : j = s.size := by omega
      go_wp2
      go_ret
      exact ⟨rfl, rfl⟩

theorem Form_any (s : ByteArray) (w : World) (hs : s.size ≤ 9223372036854775807) : Calls Try.prog 45 #[.string s] w fun e w' => e = .returned (.bool (M.form s)) ∧ w = w' := by
  by_cases h10 : s.size = 10
  · have H10 := Lib.hid h10
    have k10 : ((s.size : Int) != 10) = false := by simp; omega
    have k10' : s.size ≤ 10 := by omega
    have k10'' : 10 ≤ s.size := by omega
    clear h10
    go_enter Try.func45, Try.ntmps45
    go_wp2
    go_loop [3] (fun i => ∃ j : Nat, j ≤ 10 ∧ i = .int .i64 j ∧ Hid (∀ p, p < j → M.okAt s p)) (fun i => (10 - intOf i).toNat)
    case atStart => exact ⟨0, by omega, rfl, Lib.hid fun p hp => absurd hp (by omega)⟩
    case round =>
      obtain ⟨j, hj, rfl, hok⟩ := hrel
      by_cases hlt : j < 10
      · have hlt' : j < s.size := by omega
        have E := Lib.hid (M.ch_eq s j hlt')
        by_cases h47 : j = 4 ∨ j = 7
        · by_cases hc : M.ch s j = 45
          · have e45 : ((s[j].toNat : Int) != 45) = false := by rw [E.out]; simp [hc]
            have nx : Hid (∀ p, p < j + 1 → M.okAt s p) := Lib.hid fun p hp => by
              by_cases h : p = j
              · subst h; exact (M.okAt_dash h47).2 hc
              · exact hok.out p (by omega)
            clear hc
            rcases h47 with rfl | rfl
            all_goals
              go_wp2
              go_round
              case rel => exact ⟨_, by omega, by rfl, nx⟩
              case measure => simp [intOf]
          · have e45 : ((s[j].toNat : Int) != 45) = true := by rw [E.out]; simp [hc]
            have R := Lib.hid (M.form_f (s := s) fun h => hc ((M.okAt_dash h47).1 (h.2 j hlt)))
            clear hc
            rcases h47 with rfl | rfl
            all_goals
              go_wp2
              go_ret
              exact ⟨ret_bool R.out.symm, rfl⟩
        · have k4 : ((j : Int) == 4) = false := by simp; omega
          have k7 : ((j : Int) == 7) = false := by simp; omega
          by_cases hc : 48 ≤ M.ch s j ∧ M.ch s j ≤ 57
          · have nx : Hid (∀ p, p < j + 1 → M.okAt s p) := Lib.hid fun p hp => by
              by_cases h : p = j
              · subst h; exact (M.okAt_dig h47).2 hc
              · exact hok.out p (by omega)
            have c1 : 48 ≤ (s[j].toNat : Int) := by rw [E.out]; exact hc.1
            have c2 : (s[j].toNat : Int) ≤ 57 := by rw [E.out]; exact hc.2
            clear hc h47
            go_wp2
            go_round
            case rel => exact ⟨j + 1, by omega, by go_num, nx⟩
            case measure => simp [intOf]; omega
          · have R := Lib.hid (M.form_f (s := s) fun h => hc ((M.okAt_dig h47).1 (h.2 j hlt)))
            by_cases hc1 : M.ch s j < 48
            · have c1 : (s[j].toNat : Int) < 48 := by rw [E.out]; exact hc1
              clear hc h47 hc1
              go_wp2
              go_ret
              exact ⟨ret_bool R.out.symm, rfl⟩
            · have c1 : 48 ≤ (s[j].toNat : Int) := by rw [E.out]; omega
              have c2 : 57 < (s[j].toNat : Int) := by rw [E.out]; omega
              clear hc h47 hc1
              go_wp2
              go_ret
              exact ⟨ret_bool R.out.symm, rfl⟩
      · have R := Lib.hid (M.form_t (s := s) ⟨H10.out, fun i hi => hok.out i (by omega)⟩)
        go_wp2
        go_ret
        exact ⟨ret_bool R.out.symm, rfl⟩
  · have k10 : ((s.size : Int) != 10) = true := by simp; omega
    have R := Lib.hid (M.form_f (s := s) fun h => h10 h.1)
    clear h10
    go_enter Try.func45, Try.ntmps45
    go_wp2
    go_ret
    exact ⟨ret_bool R.out.symm, rfl⟩

theorem ret_prs {s : ByteArray} {a b c e : Int} (h : M.prs s = ((a, b, c), e)) : Ending.returned (.tuple #[.agg #[.int .i64 a, .int .i64 b, .int .i64 c], .int .i64 e]) =
    .returned (.tuple #[.agg #[.int .i64 (M.prs s).1.1, .int .i64 (M.prs s).1.2.1, .int .i64 (M.prs s).1.2.2], .int .i64 (M.prs s).2]) := by rw [h]

theorem ch_extract (s : ByteArray) (a b i : Nat) (hb : b ≤ s.size) (hi : i < b - a) : M.ch (s.extract a b) i = M.ch s (a + i) := by
  have hsz : (s.extract a b).size = b - a := by simp [ByteArray.size_extract]; omega
  rw [← M.ch_eq _ _ (by omega), ← M.ch_eq _ _ (by omega)]
  simp [ByteArray.getElem_extract]

theorem rParse_any (s : ByteArray) (w : World) (hs : s.size ≤ 9223372036854775807) : Calls Try.prog 35 #[.string s] w fun e w' =>
    e = .returned (.tuple #[.agg #[.int .i64 (M.prs s).1.1, .int .i64 (M.prs s).1.2.1, .int .i64 (M.prs s).1.2.2], .int .i64 (M.prs s).2]) ∧ Below w.heap.size w w' := by
  rcases hf : M.form s with _ | _
  · have R := Lib.hid (M.prs_3 hf)
    go_enter Try.func35, Try.ntmps35
    go_wp2_with (go_at_call 45; refine (Form_any _ _ hs).mono ?_; rintro e w' ⟨rfl, rfl⟩)
    exact bodyPost_ret (v := .tuple #[.agg #[.int .i64 0, .int .i64 0, .int .i64 0], .int .i64 3]) (by simp [results, Try.results35, go_sem]) rfl ⟨ret_prs R.out, (Below.refl _ _).alloc (Nat.le_refl _) _⟩
  · have hF := Lib.hid (M.form_iff.1 hf)
    have hsz : s.size = 10 := hF.out.1
    have c1 : 4 ≤ s.size := by omega
    have c2 : 7 ≤ s.size := by omega
    have c3 : 8 ≤ s.size := by omega
    have e1 : (s.extract 0 4).size = 4 := by simp [ByteArray.size_extract]; omega
    have e2 : (s.extract 5 7).size = 2 := by simp [ByteArray.size_extract]; omega
    have e3 : (s.extract 8 s.size).size = 2 := by simp [ByteArray.size_extract]; omega
    have N1 : ∀ w, Calls Try.prog 46 #[.string (s.extract 0 4)] w fun e w' => e = .returned (.int .i64 (M.pn s 0 4)) ∧ w = w' := fun w => by
      have := number_any (s.extract 0 4) w s 0 (by omega) (fun i hi => by rw [ch_extract s 0 4 i (by omega) (by omega)]) (fun i hi => M.form_dig hf (by omega) (by omega) (by omega))
      rw [e1] at this; exact this
    have N2 : ∀ w, Calls Try.prog 46 #[.string (s.extract 5 7)] w fun e w' => e = .returned (.int .i64 (M.pn s 5 2)) ∧ w = w' := fun w => by
      have := number_any (s.extract 5 7) w s 5 (by omega) (fun i hi => by rw [ch_extract s 5 7 i (by omega) (by omega)]) (fun i hi => M.form_dig hf (by omega) (by omega) (by omega))
      rw [e2] at this; exact this
    have N3 : ∀ w, Calls Try.prog 46 #[.string (s.extract 8 s.size)] w fun e w' => e = .returned (.int .i64 (M.pn s 8 2)) ∧ w = w' := fun w => by
      have := number_any (s.extract 8 s.size) w s 8 (by omega) (fun i hi => by rw [ch_extract s 8 s.size i (by omega) (by omega)]) (fun i hi => M.form_dig hf (by omega) (by omega) (by omega))
      rw [e3] at this; exact this
    have HN := Lib.hid (And.intro N1 (And.intro N2 N3))
    clear N1 N2 N3 e1 e2 e3 hsz
    go_enter Try.func35, Try.ntmps35
    go_wp2_with (go_at_call 45; refine (Form_any _ _ hs).mono ?_; rintro e w' ⟨rfl, rfl⟩)
    have g1 : (4 : Int) ≤ (s.size : Int) := by omega
    have g2 : (7 : Int) ≤ (s.size : Int) := by omega
    have g3 : (8 : Int) ≤ (s.size : Int) := by omega
    go_region_held3 (fun w' => True) (trivial) (first | (go_at_call_of 46 (Value.string (s.extract 0 4)); refine (HN.out.1 _).mono ?_; rintro e w' ⟨rfl, rfl⟩) | (go_at_call_of 46 (Value.string (s.extract 5 7)); refine (HN.out.2.1 _).mono ?_; rintro e w' ⟨rfl, rfl⟩) | (go_at_call_of 46 (Value.string (s.extract 8 s.size)); refine (HN.out.2.2 _).mono ?_; rintro e w' ⟨rfl, rfl⟩))
    all_goals
      rcases hv : M.vld (M.pn s 0 4) (M.pn s 5 2) (M.pn s 8 2) with _ | _
      · have R := Lib.hid (M.prs_1 hf hv)
        go_wp2_with (go_at_call 16; refine (rValid_any _ _ _ _).mono ?_; rintro e w2 ⟨rfl, hb2⟩; obtain ⟨hc2, hf2⟩ := bcell hb2)
        have q0 : w2.cell? ⟨w.heap.size, 0, none⟩ = some (.int .i64 0) := by rw [hc2 _ _ (by simp; omega)]; simp [go_sem]
        have q1 : w2.cell? ⟨w.heap.size, 1, none⟩ = some (.int .i64 0) := by rw [hc2 _ _ (by simp; omega)]; simp [go_sem]
        have q2 : w2.cell? ⟨w.heap.size, 2, none⟩ = some (.int .i64 0) := by rw [hc2 _ _ (by simp; omega)]; simp [go_sem]
        exact bodyPost_ret (v := .tuple #[.agg #[.int .i64 0, .int .i64 0, .int .i64 0], .int .i64 1]) (by simp [results, Try.results35, go_sem, q0, q1, q2]) rfl ⟨ret_prs R.out, by
          iterate 3 refine Below.setCell ?_ ?_ _
          · exact Below.trans (by repeat (first | exact Below.refl _ _ | refine Below.alloc ?_ (by simp) _ | refine bdrewN ?_ | refine Below.drew ?_)) (hb2.mono (by simp; omega))
          all_goals (first | (simp; done) | (simp; omega))⟩
      · have R := Lib.hid (M.prs_0 hf hv)
        go_wp2_with (go_at_call 16; refine (rValid_any _ _ _ _).mono ?_; rintro e w2 ⟨rfl, hb2⟩; obtain ⟨hc2, hf2⟩ := bcell hb2)
        have q0 : w2.cell? ⟨w.heap.size, 0, none⟩ = some (.int .i64 0) := by rw [hc2 _ _ (by simp; omega)]; simp [go_sem]
        have q1 : w2.cell? ⟨w.heap.size, 1, none⟩ = some (.int .i64 0) := by rw [hc2 _ _ (by simp; omega)]; simp [go_sem]
        have q2 : w2.cell? ⟨w.heap.size, 2, none⟩ = some (.int .i64 0) := by rw [hc2 _ _ (by simp; omega)]; simp [go_sem]
        exact bodyPost_ret (v := .tuple #[.agg #[.int .i64 (M.pn s 0 4), .int .i64 (M.pn s 5 2), .int .i64 (M.pn s 8 2)], .int .i64 0]) (by simp [results, Try.results35, go_sem, q0, q1, q2]) rfl ⟨ret_prs R.out, by
          iterate 3 refine Below.setCell ?_ ?_ _
          · exact Below.trans (by repeat (first | exact Below.refl _ _ | refine Below.alloc ?_ (by simp) _ | refine bdrewN ?_ | refine Below.drew ?_)) (hb2.mono (by simp; omega))
          all_goals (first | (simp; done) | (simp; omega))⟩

end Go.Proofs.Ytgjbcdbhbbimcaa
