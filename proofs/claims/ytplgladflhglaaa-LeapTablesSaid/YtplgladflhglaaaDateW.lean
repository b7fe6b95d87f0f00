/- Walks through the reference's dates of leap seconds. -/
import Derived.Test.YtplgladflhglaaaJulW2
import Derived.Test.YtplgladflhglaaaCivP2
namespace Go.Proofs.Ytplgladflhglaaa
set_option linter.unusedVariables false
set_option linter.unusedSimpArgs false
open Go.RowKit

theorem sAdd (a b : Int) (w : World) (h1 : 0 ≤ a) (h2 : a ≤ 100000) (h3 : 0 ≤ b) (h4 : b ≤ 9) :
    Calls Try.prog 65 #[.int .i64 a, .int .i64 b] w fun e w' => e = .returned (.tuple #[.int .i64 (a + b), .int .i64 0]) ∧ w = w' := by
  have hs : 0 ≤ a + b := by omega
  have k1 : decide (a < 0) = false := by simp; omega
  have k2 : decide (b < 0) = false := by simp; omega
  have k3 : decide (a + b < 0) = false := by simp; omega
  go_enter Try.func65, Try.ntmps65
  go_wp2; go_ret2
  exact ⟨rfl, rfl⟩
theorem sMul (a : Int) (w : World) (h1 : 0 ≤ a) (h2 : a ≤ 1000) :
    Calls Try.prog 64 #[.int .i64 a, .int .i64 10] w fun e w' => e = .returned (.tuple #[.int .i64 (a * 10), .int .i64 0]) ∧ ∃ n, w' = w.drewN n := by
  by_cases h0 : a = 0
  · subst h0
    go_enter Try.func64, Try.ntmps64
    go_wp2; go_ret2
    exact ⟨rfl, 0, rfl⟩
  · have k0 : (a == 0) = false := by simp [h0]
    have k1 : (a == -9223372036854775808) = false := by simp; omega
    have k2 : (a * 10 / 10 != a) = false := by simp
    have k3 : (a * 10).tdiv 10 = a := Int.mul_tdiv_cancel _ (by omega)
    have k4 : a * 10 / 10 = a := Int.mul_ediv_cancel _ (by omega)
    clear h0
    go_enter Try.func64, Try.ntmps64
    go_wp2
    go_ret2
    exact ⟨rfl, 0, rfl⟩

theorem txt_full {t : ByteArray} (h : t.size ≠ 0) : t.toList.isEmpty = false := by
  rw [ByteArray.toList_eq]
  rcases t with ⟨⟨l⟩⟩
  cases l with
  | nil => exact absurd rfl h
  | cons a l => rfl

set_option maxHeartbeats 1000000 in
/-- The number of two or four digits. -/
theorem sParse (s : ByteArray) (w : World) (t : ByteArray) (a : Nat) (h0 : 1 ≤ s.size) (h4 : s.size ≤ 4) (hs : ∀ i, i < s.size → M.ch s i = M.ch t (a + i)) (hd : ∀ i, i < s.size → 48 ≤ M.ch t (a + i) ∧ M.ch t (a + i) ≤ 57) :
    Calls Try.prog 54 #[.string s] w fun e w' => e = .returned (.tuple #[.int .i64 (M.pn t a s.size), .int .i64 0]) ∧ ∃ q, w' = w.drewN q := by
  have HS := Lib.hid hs
  have HD := Lib.hid hd
  have hc : ∀ j, (hj : j < s.size) → 48 ≤ ((s[j]'hj).toNat : Int) ∧ ((s[j]'hj).toNat : Int) ≤ 57 := fun j hj => by
    rw [M.ch_eq s j hj, hs j hj]; exact hd j hj
  have HC := Lib.hid hc
  have c0 := hc 0 (by omega)
  have e45 : ((s[0].toNat : Int) == 45) = false := by simp; omega
  have hse := txt_full (t := s) (by omega)
  clear hs hd hc c0
  go_enter Try.func54, Try.ntmps54
  go_wp2
  go_loopw [5] (fun i wr => (∃ q, wr = w.drewN q) ∧ ∃ (j : Nat), j ≤ s.size ∧ i = .int .i64 j) (fun i _ => (s.size - intOf i).toNat)
  case atStart => exact ⟨⟨0, rfl⟩, 0, by omega, rfl⟩
  case round =>
    obtain ⟨⟨q, rfl⟩, j, hj, rfl⟩ := hrel
    by_cases hlt : j < s.size
    · obtain ⟨c1, c2⟩ := HC.out j hlt
      go_wp2
      go_roundw
      case rel => exact ⟨⟨_, rfl⟩, j + 1, by omega, by go_num⟩
      case measure => simp [intOf]; omega
    · obtain rfl : j = s.size := by omega
      clear hlt
      go_wp2
      go_loopw [6, 7] (fun n i wr => (∃ q, wr = w.drewN q) ∧ ∃ (j : Nat), j ≤ s.size ∧ i = .int .i64 j ∧ n = .int .i64 (M.pn t a j)) (fun _ i _ => (s.size - intOf i).toNat)
      case atStart => exact ⟨⟨_, rfl⟩, 0, by omega, rfl, rfl⟩
      case round =>
        obtain ⟨⟨q, rfl⟩, j, hj, rfl, rfl⟩ := hrel
        have bd := M.pn_bd t a j fun i hi => HD.out i (by omega)
        have b1 : 0 ≤ M.pn t a j := bd.1
        by_cases hlt : j < s.size
        · have b2 : M.pn t a j ≤ 1000 := by
            have h := bd.2
            have hj4 : j = 0 ∨ j = 1 ∨ j = 2 ∨ j = 3 := by omega
            rcases hj4 with rfl | rfl | rfl | rfl <;> simp at h <;> omega
          obtain ⟨c1, c2⟩ := HC.out j hlt
          have nx : Hid (M.pn t a (j + 1) = M.pn t a j * 10 + ((s[j].toNat : Int) - 48)) := Lib.hid (by
            rw [M.ch_eq s j hlt, HS.out j hlt]; show 10 * M.pn t a j + _ = _; omega)
          clear bd
          go_wp2_with (first
            | (go_at_call 64; refine (sMul _ _ b1 b2).mono ?_; rintro e w' ⟨rfl, n1, rfl⟩)
            | (go_at_call 65; refine (sAdd _ _ _ (by omega) (by omega) (by omega) (by omega)).mono ?_; rintro e w' ⟨rfl, rfl⟩))
          go_roundw
          case rel => exact ⟨⟨_, rfl⟩, j + 1, by omega, by go_num, by rw [nx.out]⟩
          case measure => simp [intOf]; omega
        · obtain rfl : j = s.size := by omega
          clear bd hlt
          go_wp2
          go_ret2
          exact ⟨rfl, _, rfl⟩

/-- The day of the text of a date. -/
noncomputable def M.dl (s : ByteArray) : Int × Bool := if M.form s = true then (M.dy (M.pn s 0 4) (M.pn s 5 2) (M.pn s 8 2), M.vld (M.pn s 0 4) (M.pn s 5 2) (M.pn s 8 2)) else (0, false)
theorem M.dl_no {s : ByteArray} (h : M.form s = false) : M.dl s = (0, false) := by simp [M.dl, h]
theorem M.dl_yes {s : ByteArray} (h : M.form s = true) : M.dl s = (M.dy (M.pn s 0 4) (M.pn s 5 2) (M.pn s 8 2), M.vld (M.pn s 0 4) (M.pn s 5 2) (M.pn s 8 2)) := by simp [M.dl, h]
theorem ret_dl {s : ByteArray} {a : Int} {v : Bool} (h : M.dl s = (a, v)) : Ending.returned (.tuple #[.int .i64 a, .bool v]) = .returned (.tuple #[.int .i64 (M.dl s).1, .bool (M.dl s).2]) := by rw [h]

set_option maxHeartbeats 2000000 in
theorem date_any (s : ByteArray) (w : World) (hs : s.size ≤ 9223372036854775807) :
    Calls Try.prog 40 #[.string s] w fun e w' => e = .returned (.tuple #[.int .i64 (M.dl s).1, .bool (M.dl s).2]) ∧ Below w.heap.size w w' := by
  by_cases h10 : s.size = 10
  · have k10 : ((s.size : Int) != 10) = false := by simp; omega
    have k10' : s.size ≤ 10 := by omega
    have k10'' : 10 ≤ s.size := by omega
    have l4 : 4 < s.size := by omega
    have l7 : 7 < s.size := by omega
    have c4 := M.ch_eq s 4 l4
    have c7 := M.ch_eq s 7 l7
    by_cases h4 : M.ch s 4 = 45
    · have e4 : ((s[4].toNat : Int) != 45) = false := by rw [c4]; simp [h4]
      by_cases h7 : M.ch s 7 = 45
      · have e7 : ((s[7].toNat : Int) != 45) = false := by rw [c7]; simp [h7]
        have H47 := Lib.hid (And.intro h4 h7)
        have H10 := Lib.hid h10
        clear c4 c7 h4 h7 h10
        go_enter Try.func40, Try.ntmps40
        go_wp2
        go_loop [4] (fun i => ∃ j : Nat, j ≤ 10 ∧ i = .int .i64 j ∧ Hid (∀ p, p < j → M.okAt s p)) (fun i => (10 - intOf i).toNat)
        case atStart => exact ⟨0, by omega, rfl, Lib.hid fun p hp => absurd hp (by omega)⟩
        case round =>
          obtain ⟨j, hj, rfl, hok⟩ := hrel
          by_cases hlt : j < 10
          · have hlt' : j < s.size := by omega
            have E := Lib.hid (M.ch_eq s j hlt')
            by_cases h47 : j = 4 ∨ j = 7
            · have nx : Hid (∀ p, p < j + 1 → M.okAt s p) := Lib.hid fun p hp => by
                by_cases h : p = j
                · subst h
                  rw [M.okAt_dash h47]
                  rcases h47 with rfl | rfl
                  · exact H47.out.1
                  · exact H47.out.2
                · exact hok.out p (by omega)
              rcases h47 with rfl | rfl
              all_goals
                go_wp2
                go_round
                case rel => exact ⟨_, by omega, by rfl, nx⟩
                case measure => simp [intOf]
            · have k4 : ((j : Int) != 4) = true := by simp; omega
              have k7 : ((j : Int) != 7) = true := by simp; omega
              by_cases hc : 48 ≤ M.ch s j ∧ M.ch s j ≤ 57
              · have nx : Hid (∀ p, p < j + 1 → M.okAt s p) := Lib.hid fun p hp => by
                  by_cases h : p = j
                  · subst h; exact (M.okAt_dig h47).2 hc
                  · exact hok.out p (by omega)
                have c1 : 48 ≤ (s[j].toNat : Int) := by rw [E.out]; exact hc.1
                have c2 : (s[j].toNat : Int) ≤ 57 := by rw [E.out]; exact hc.2
                clear hc h47
                go_wp2
                go_round
                case rel => exact ⟨j + 1, by omega, by go_num, nx⟩
                case measure => simp [intOf]; omega
              · have R := Lib.hid (M.dl_no (M.form_f (s := s) fun h => hc ((M.okAt_dig h47).1 (h.2 j hlt))))
                have hc' : (s[j].toNat : Int) < 48 ∨ (48 ≤ (s[j].toNat : Int) ∧ 57 < (s[j].toNat : Int)) := by rw [E.out]; omega
                clear hc h47
                rcases hc' with c1 | ⟨c1, c2⟩
                all_goals
                  go_wp2
                  go_ret2
                  exact ⟨ret_dl R.out, Below.refl _ _⟩
          · have hf : M.form s = true := M.form_t (s := s) ⟨H10.out, fun i hi => hok.out i (by omega)⟩
            have R := Lib.hid (M.dl_yes hf)
            have e1 : (s.extract 0 4).size = 4 := by simp [ByteArray.size_extract]; omega
            have e2 : (s.extract 5 7).size = 2 := by simp [ByteArray.size_extract]; omega
            have e3 : (s.extract 8 s.size).size = 2 := by simp [ByteArray.size_extract]; omega
            have b1 := M.pn_bd s 0 4 fun i hi => M.form_dig hf (by omega) (by omega) (by omega)
            have b2 := M.pn_bd s 5 2 fun i hi => M.form_dig hf (by omega) (by omega) (by omega)
            have b3 := M.pn_bd s 8 2 fun i hi => M.form_dig hf (by omega) (by omega) (by omega)
            have N1 : Hid (∀ w, Calls Try.prog 54 #[.string (s.extract 0 4)] w fun e w' => e = .returned (.tuple #[.int .i64 (M.pn s 0 4), .int .i64 0]) ∧ ∃ q, w' = w.drewN q) := Lib.hid fun w => by
              have := sParse (s.extract 0 4) w s 0 (by omega) (by omega) (fun i hi => by rw [ch_extract s 0 4 i (by omega) (by omega)]) (fun i hi => M.form_dig hf (by omega) (by omega) (by omega))
              rw [e1] at this; exact this
            have N2 : Hid (∀ w, Calls Try.prog 54 #[.string (s.extract 5 7)] w fun e w' => e = .returned (.tuple #[.int .i64 (M.pn s 5 2), .int .i64 0]) ∧ ∃ q, w' = w.drewN q) := Lib.hid fun w => by
              have := sParse (s.extract 5 7) w s 5 (by omega) (by omega) (fun i hi => by rw [ch_extract s 5 7 i (by omega) (by omega)]) (fun i hi => M.form_dig hf (by omega) (by omega) (by omega))
              rw [e2] at this; exact this
            have N3 : Hid (∀ w, Calls Try.prog 54 #[.string (s.extract 8 s.size)] w fun e w' => e = .returned (.tuple #[.int .i64 (M.pn s 8 2), .int .i64 0]) ∧ ∃ q, w' = w.drewN q) := Lib.hid fun w => by
              have := sParse (s.extract 8 s.size) w s 8 (by omega) (by omega) (fun i hi => by rw [ch_extract s 8 s.size i (by omega) (by omega)]) (fun i hi => M.form_dig hf (by omega) (by omega) (by omega))
              rw [e3] at this; exact this
            obtain ⟨y, hy⟩ : ∃ y, M.pn s 0 4 = y := ⟨_, rfl⟩
            obtain ⟨m, hm⟩ : ∃ m, M.pn s 5 2 = m := ⟨_, rfl⟩
            obtain ⟨d, hd⟩ : ∃ d, M.pn s 8 2 = d := ⟨_, rfl⟩
            rw [hy] at b1 N1 R
            rw [hm] at b2 N2 R
            rw [hd] at b3 N3 R
            have HG : Hid (∀ w, Calls Try.prog 55 #[.agg #[.int .i64 y, .int .i64 m, .int .i64 d]] w fun e w' => e = .returned (.tuple #[.int .i64 (M.dy y m d), .bool (M.vld y m d)]) ∧ Below w.heap.size w w') := Lib.hid fun w => by
              cases hv : M.vld y m d
              · have := Greg_no y m d w b1.1 (by have := b1.2; simp at this; omega) b2.1 (by have := b2.2; simp at this; omega) b3.1 (by have := b3.2; simp at this; omega) hv
                rw [hv] at this; exact this
              · have := Greg_yes y m d w hv
                rw [hv] at this; exact this
            have x8 : 8 ≤ s.size := by omega
            have j10 : ¬ j < s.size := by omega
            have j11 : s.size ≤ j := by omega
            clear b1 b2 b3 e1 e2 e3 hf hy hm hd hlt
            go_wp2_with fail
            refine (N1.out _).mono ?_; rintro e w1 ⟨rfl, n1, rfl⟩
            go_wp2_with fail
            refine (N2.out _).mono ?_; rintro e w2 ⟨rfl, n2, rfl⟩
            go_wp2_with fail
            refine (N3.out _).mono ?_; rintro e w3 ⟨rfl, n3, rfl⟩
            go_wp2_with fail
            refine (HG.out _).mono ?_; rintro e w4 ⟨rfl, hb⟩
            go_wp2_with fail
            go_ret2
            exact ⟨ret_dl R.out, bundrewN hb⟩
      · have e7 : ((s[7].toNat : Int) != 45) = true := by rw [c7]; simp [h7]
        have R := Lib.hid (M.dl_no (M.form_f (s := s) fun h => h7 ((M.okAt_dash (i := 7) (by omega)).1 (h.2 7 (by omega)))))
        clear c4 c7 h4 h7 h10
        go_enter Try.func40, Try.ntmps40
        go_wp2
        go_ret2
        exact ⟨ret_dl R.out, Below.refl _ _⟩
    · have e4 : ((s[4].toNat : Int) != 45) = true := by rw [c4]; simp [h4]
      have R := Lib.hid (M.dl_no (M.form_f (s := s) fun h => h4 ((M.okAt_dash (i := 4) (by omega)).1 (h.2 4 (by omega)))))
      clear c4 c7 h4 h10
      go_enter Try.func40, Try.ntmps40
      go_wp2
      go_ret2
      exact ⟨ret_dl R.out, Below.refl _ _⟩
  · have k10 : ((s.size : Int) != 10) = true := by simp; omega
    have R := Lib.hid (M.dl_no (M.form_f (s := s) fun h => h10 h.1))
    clear h10
    go_enter Try.func40, Try.ntmps40
    go_wp2
    go_ret2
    exact ⟨ret_dl R.out, Below.refl _ _⟩

end Go.Proofs.Ytplgladflhglaaa
