/- Walks through package civil and its reference: the n-th weekday of a month. -/
import Derived.Test.YtgjbcdbhbbimcaaCivW3
namespace Go.Proofs.Ytgjbcdbhbbimcaa
set_option linter.unusedVariables false
set_option linter.unusedSimpArgs false
open Go.RowKit

theorem ret_nth {y m k n a e : Int} (h : M.nth y m k n = (a, e)) : Ending.returned (.tuple #[.int .i64 a, .int .i64 e]) = .returned (.tuple #[.int .i64 (M.nth y m k n).1, .int .i64 (M.nth y m k n).2]) := by rw [h]

set_option maxHeartbeats 1000000 in
theorem Nth_any (y m k n : Int) (w : World) (n1 : -9223372036854775808 ≤ n) (n2 : n ≤ 9223372036854775807) :
    Calls Try.prog 27 #[.int .i64 y, .int .i64 m, .int .i64 k, .int .i64 n] w fun e w' => e = .returned (.tuple #[.int .i64 (M.nth y m k n).1, .int .i64 (M.nth y m k n).2]) ∧ ∃ j, w' = w.drewN j := by
  have lb := M.len_bd y m
  by_cases h0 : M.len y m = 0
  · have R := Lib.hid (M.nth_1 (y := y) (m := m) (k := k) (n := n) (.inl h0))
    have k0 : (M.len y m == 0) = true := by simp [h0]
    clear h0
    go_enter Try.func27, Try.ntmps27
    go_wp2_with (go_at_call 19; refine (Length_any _ _ _).mono ?_; rintro e w' ⟨rfl, rfl⟩)
    go_ret2
    exact ⟨ret_nth R.out, 0, rfl⟩
  · have k0 : (M.len y m == 0) = false := by simp [h0]
    have lpos : 0 < M.len y m := by omega
    obtain ⟨y1, y2, m1, m2⟩ := M.len_pos lpos
    have lo := M.len_lo (y := y) (m := m) ⟨y1, y2⟩ ⟨m1, m2⟩
    by_cases h1 : k < 1
    · have R := Lib.hid (M.nth_1 (y := y) (m := m) (k := k) (n := n) (.inr (.inl h1)))
      clear h0
      go_enter Try.func27, Try.ntmps27
      go_wp2_with (go_at_call 19; refine (Length_any _ _ _).mono ?_; rintro e w' ⟨rfl, rfl⟩)
      go_ret2
      exact ⟨ret_nth R.out, 0, rfl⟩
    · by_cases h2 : 7 < k
      · have R := Lib.hid (M.nth_1 (y := y) (m := m) (k := k) (n := n) (.inr (.inr (.inl h2))))
        clear h0
        go_enter Try.func27, Try.ntmps27
        go_wp2_with (go_at_call 19; refine (Length_any _ _ _).mono ?_; rintro e w' ⟨rfl, rfl⟩)
        go_ret2
        exact ⟨ret_nth R.out, 0, rfl⟩
      · by_cases h3 : n = 0
        · have R := Lib.hid (M.nth_1 (y := y) (m := m) (k := k) (n := n) (.inr (.inr (.inr h3))))
          subst h3
          clear h0
          go_enter Try.func27, Try.ntmps27
          go_wp2_with (go_at_call 19; refine (Length_any _ _ _).mono ?_; rintro e w' ⟨rfl, rfl⟩)
          go_ret2
          exact ⟨ret_nth R.out, 0, rfl⟩
        · have k3 : (n == 0) = false := by simp [h3]
          have hN : ¬ (M.len y m = 0 ∨ k < 1 ∨ 7 < k ∨ n = 0) := by omega
          by_cases h5 : n < -5
          · have R := Lib.hid (M.nth_7 (y := y) (m := m) (k := k) (n := n) hN (by rw [M.nthT_neg (by omega)]; omega))
            clear h0 h3 hN
            go_enter Try.func27, Try.ntmps27
            go_wp2_with (go_at_call 19; refine (Length_any _ _ _).mono ?_; rintro e w' ⟨rfl, rfl⟩)
            go_ret2
            exact ⟨ret_nth R.out, 0, rfl⟩
          · by_cases h6 : 5 < n
            · have R := Lib.hid (M.nth_7 (y := y) (m := m) (k := k) (n := n) hN (by rw [M.nthT_pos (by omega)]; omega))
              clear h0 h3 hN
              go_enter Try.func27, Try.ntmps27
              go_wp2_with (go_at_call 19; refine (Length_any _ _ _).mono ?_; rintro e w' ⟨rfl, rfl⟩)
              go_ret2
              exact ⟨ret_nth R.out, 0, rfl⟩
            · have i1 := M.month_inside (y := y) (m := m) (i := 0) lpos (by omega) (by omega)
              have i2 := M.month_inside (y := y) (m := m) (i := M.len y m - 1) lpos (by omega) (by omega)
              have w1 := Lib.hid (M.wd_t (x := M.cnt y m 1) (by omega))
              have w1a : 1 ≤ M.wd (M.cnt y m 1) := by rw [w1.out]; omega
              have w1b : M.wd (M.cnt y m 1) ≤ 7 := by rw [w1.out]; omega
              have w2 := Lib.hid (M.wd_t (x := M.cnt y m 1 + M.len y m - 1) (by omega))
              have w2a : 1 ≤ M.wd (M.cnt y m 1 + M.len y m - 1) := by rw [w2.out]; omega
              have w2b : M.wd (M.cnt y m 1 + M.len y m - 1) ≤ 7 := by rw [w2.out]; omega
              have q1 : 0 ≤ (k - M.wd (M.cnt y m 1)) % 7 := by omega
              have q2 : (k - M.wd (M.cnt y m 1)) % 7 ≤ 6 := by omega
              have q3 : 0 ≤ (M.wd (M.cnt y m 1 + M.len y m - 1) - k) % 7 := by omega
              have q4 : (M.wd (M.cnt y m 1 + M.len y m - 1) - k) % 7 ≤ 6 := by omega
              have p1 : 1 ≤ k := by omega
              have p2 : k ≤ 7 := by omega
              by_cases hn : n < 0
              · have T := Lib.hid (M.nthT_neg (y := y) (m := m) (k := k) hn)
                by_cases ht : M.nthT y m k n < M.len y m
                · have R := Lib.hid (M.nth_neg hN ht hn)
                  have d1 : 1 ≤ M.len y m - (M.wd (M.cnt y m 1 + M.len y m - 1) - k) % 7 + 7 * (n + 1) := by rw [T.out] at ht; omega
                  have d2 : M.len y m - (M.wd (M.cnt y m 1 + M.len y m - 1) - k) % 7 + 7 * (n + 1) ≤ M.len y m := by omega
                  clear h0 h3 hN ht
                  go_enter Try.func27, Try.ntmps27
                  go_wp2_with (first
                    | (go_at_call 19; refine (Length_any _ _ _).mono ?_; rintro e w' ⟨rfl, rfl⟩)
                    | (go_at_call 40; refine (count_any _ _ _ _ (by omega) (by omega) (by omega) (by omega) (by omega) (by omega)).mono ?_; rintro e w' ⟨rfl, rfl⟩)
                    | (go_at_call 21; refine (Weekday_any _ _).mono ?_; rintro e w' ⟨rfl, j, rfl⟩)
                    | (go_at_call 39; refine (Mod_pos _ _ _ (by omega) (by omega) (by omega) (by omega)).mono ?_; rintro e w' ⟨rfl, j, rfl⟩))
                  go_ret2
                  exact ⟨(ret_int2 (by rw [T.out]; omega) rfl).trans (ret_nth R.out), _, rfl⟩
                · have R := Lib.hid (M.nth_7 hN (by omega : M.len y m ≤ M.nthT y m k n))
                  have d1 : M.len y m - (M.wd (M.cnt y m 1 + M.len y m - 1) - k) % 7 + 7 * (n + 1) < 1 := by rw [T.out] at ht; omega
                  clear h0 h3 hN ht
                  go_enter Try.func27, Try.ntmps27
                  go_wp2_with (first
                    | (go_at_call 19; refine (Length_any _ _ _).mono ?_; rintro e w' ⟨rfl, rfl⟩)
                    | (go_at_call 40; refine (count_any _ _ _ _ (by omega) (by omega) (by omega) (by omega) (by omega) (by omega)).mono ?_; rintro e w' ⟨rfl, rfl⟩)
                    | (go_at_call 21; refine (Weekday_any _ _).mono ?_; rintro e w' ⟨rfl, j, rfl⟩)
                    | (go_at_call 39; refine (Mod_pos _ _ _ (by omega) (by omega) (by omega) (by omega)).mono ?_; rintro e w' ⟨rfl, j, rfl⟩))
                  go_ret2
                  exact ⟨ret_nth R.out, _, rfl⟩
              · have T := Lib.hid (M.nthT_pos (y := y) (m := m) (k := k) hn)
                by_cases ht : M.nthT y m k n < M.len y m
                · have R := Lib.hid (M.nth_pos hN ht hn)
                  have d1 : 1 ≤ 1 + (k - M.wd (M.cnt y m 1)) % 7 + 7 * (n - 1) := by omega
                  have d2 : 1 + (k - M.wd (M.cnt y m 1)) % 7 + 7 * (n - 1) ≤ M.len y m := by rw [T.out] at ht; omega
                  clear h0 h3 hN ht
                  go_enter Try.func27, Try.ntmps27
                  go_wp2_with (first
                    | (go_at_call 19; refine (Length_any _ _ _).mono ?_; rintro e w' ⟨rfl, rfl⟩)
                    | (go_at_call 40; refine (count_any _ _ _ _ (by omega) (by omega) (by omega) (by omega) (by omega) (by omega)).mono ?_; rintro e w' ⟨rfl, rfl⟩)
                    | (go_at_call 21; refine (Weekday_any _ _).mono ?_; rintro e w' ⟨rfl, j, rfl⟩)
                    | (go_at_call 39; refine (Mod_pos _ _ _ (by omega) (by omega) (by omega) (by omega)).mono ?_; rintro e w' ⟨rfl, j, rfl⟩))
                  go_ret2
                  exact ⟨(ret_int2 (by rw [T.out]; omega) rfl).trans (ret_nth R.out), _, rfl⟩
                · have R := Lib.hid (M.nth_7 hN (by omega : M.len y m ≤ M.nthT y m k n))
                  have d1 : 1 ≤ 1 + (k - M.wd (M.cnt y m 1)) % 7 + 7 * (n - 1) := by omega
                  have d2 : M.len y m < 1 + (k - M.wd (M.cnt y m 1)) % 7 + 7 * (n - 1) := by rw [T.out] at ht; omega
                  clear h0 h3 hN ht
                  go_enter Try.func27, Try.ntmps27
                  go_wp2_with (first
                    | (go_at_call 19; refine (Length_any _ _ _).mono ?_; rintro e w' ⟨rfl, rfl⟩)
                    | (go_at_call 40; refine (count_any _ _ _ _ (by omega) (by omega) (by omega) (by omega) (by omega) (by omega)).mono ?_; rintro e w' ⟨rfl, rfl⟩)
                    | (go_at_call 21; refine (Weekday_any _ _).mono ?_; rintro e w' ⟨rfl, j, rfl⟩)
                    | (go_at_call 39; refine (Mod_pos _ _ _ (by omega) (by omega) (by omega) (by omega)).mono ?_; rintro e w' ⟨rfl, j, rfl⟩))
                  go_ret2
                  exact ⟨ret_nth R.out, _, rfl⟩

set_option maxHeartbeats 1000000 in
/-- The days that were looked at: i of them; the t-th is the first that is the n-th one. -/
theorem rNth_any (y m k n : Int) (w : World) (n1 : -9223372036854775808 ≤ n) (n2 : n ≤ 9223372036854775807) :
    Calls Try.prog 28 #[.int .i64 y, .int .i64 m, .int .i64 k, .int .i64 n] w fun e w' => e = .returned (.tuple #[.int .i64 (M.nth y m k n).1, .int .i64 (M.nth y m k n).2]) ∧ Below w.heap.size w w' := by
  have lb := M.len_bd y m
  by_cases h0 : M.len y m = 0
  · have R := Lib.hid (M.nth_1 (y := y) (m := m) (k := k) (n := n) (.inl h0))
    have k0 : (M.len y m == 0) = true := by simp [h0]
    clear h0
    go_enter Try.func28, Try.ntmps28
    go_wp2_with (go_at_call 20; refine (rLength_any _ _ _).mono ?_; rintro e w' ⟨rfl, rfl⟩)
    go_ret2
    exact ⟨ret_nth R.out, Below.refl _ _⟩
  · have k0 : (M.len y m == 0) = false := by simp [h0]
    have lpos : 0 < M.len y m := by omega
    obtain ⟨y1, y2, m1, m2⟩ := M.len_pos lpos
    have lo := M.len_lo (y := y) (m := m) ⟨y1, y2⟩ ⟨m1, m2⟩
    by_cases h1 : k < 1
    · have R := Lib.hid (M.nth_1 (y := y) (m := m) (k := k) (n := n) (.inr (.inl h1)))
      clear h0
      go_enter Try.func28, Try.ntmps28
      go_wp2_with (go_at_call 20; refine (rLength_any _ _ _).mono ?_; rintro e w' ⟨rfl, rfl⟩)
      go_ret2
      exact ⟨ret_nth R.out, Below.refl _ _⟩
    · by_cases h2 : 7 < k
      · have R := Lib.hid (M.nth_1 (y := y) (m := m) (k := k) (n := n) (.inr (.inr (.inl h2))))
        clear h0
        go_enter Try.func28, Try.ntmps28
        go_wp2_with (go_at_call 20; refine (rLength_any _ _ _).mono ?_; rintro e w' ⟨rfl, rfl⟩)
        go_ret2
        exact ⟨ret_nth R.out, Below.refl _ _⟩
      · by_cases h3 : n = 0
        · have R := Lib.hid (M.nth_1 (y := y) (m := m) (k := k) (n := n) (.inr (.inr (.inr h3))))
          subst h3
          clear h0
          go_enter Try.func28, Try.ntmps28
          go_wp2_with (go_at_call 20; refine (rLength_any _ _ _).mono ?_; rintro e w' ⟨rfl, rfl⟩)
          go_ret2
          exact ⟨ret_nth R.out, Below.refl _ _⟩
        · have k3 : (n == 0) = false := by simp [h3]
          have hN : ¬ (M.len y m = 0 ∨ k < 1 ∨ 7 < k ∨ n = 0) := by omega
          have i1 := M.month_inside (y := y) (m := m) (i := 0) lpos (by omega) (by omega)
          have i2 := M.month_inside (y := y) (m := m) (i := M.len y m - 1) lpos (by omega) (by omega)
          have hv := M.vld_t (y := y) (m := m) (d := 1) (by omega)
          have E := Lib.hid (And.intro (M.dy_t hv) (M.de_t hv))
          have p1 : 1 ≤ k := by omega
          have p2 : k ≤ 7 := by omega
          have W1 := Lib.hid (M.wd_t (x := M.cnt y m 1) (by omega))
          have W2 := Lib.hid (M.wd_t (x := M.cnt y m 1 + M.len y m - 1) (by omega))
          have HN := Lib.hid hN
          have WI : ∀ i : Int, 0 ≤ i → i < M.len y m → Hid (M.wd (M.cnt y m 1 + i) = (M.cnt y m 1 + i + 3) % 7 + 1) := fun i h1 h2 => Lib.hid (M.wd_t (M.month_inside lpos h1 h2))
          have hWI := Lib.hid WI
          clear h0 h3 hN hv WI
          rcases Int.lt_or_le n 0 with hn | hn
          · obtain ⟨a, A⟩ : ∃ a, Hid (a = (M.wd (M.cnt y m 1 + M.len y m - 1) - k) % 7) := ⟨_, Lib.hid rfl⟩
            have T : Hid (M.nthT y m k n = a + 7 * (-n - 1)) := Lib.hid (by rw [M.nthT_neg hn, A.out])
            have a0 : 0 ≤ a := by rw [A.out]; omega
            have a6 : a ≤ 6 := by rw [A.out]; omega
            have A2 : Hid (a = ((M.cnt y m 1 + M.len y m - 1 + 3) % 7 + 1 - k) % 7) := Lib.hid (by rw [A.out, W2.out])
            have t0 : 0 ≤ M.nthT y m k n := by rw [T.out]; omega
            go_enter Try.func28, Try.ntmps28
            go_wp2_with (first
              | (go_at_call 20; refine (rLength_any _ _ _).mono ?_; rintro e w' ⟨rfl, rfl⟩)
              | (go_at_call 30; refine (rDay_any _ _ _ _).mono ?_; rw [E.out.1, E.out.2]; rintro e w1 ⟨rfl, hb⟩))
            go_loop [8, 9, 13, 14, 15] (fun _ _ f i _ => ∃ j : Int, 0 ≤ j ∧ j ≤ M.len y m ∧ j ≤ M.nthT y m k n ∧ i = .int .i64 j ∧ f = .int .i64 ((j - a + 6) / 7)) (fun _ _ _ i _ => (M.len y m - intOf i).toNat)
            case atStart => exact ⟨0, by omega, by omega, t0, rfl, by congr 1; omega⟩
            case round =>
              obtain ⟨j, j1, j2, j3, rfl, rfl⟩ := hrel
              have f0 : 0 ≤ (j - a + 6) / 7 := by omega
              have f1 : (j - a + 6) / 7 ≤ 10 := by omega
              have k1 : ((j - a + 6) / 7 + 1 == n) = false := by simp; omega
              rcases Int.lt_or_le j (M.len y m) with hj | hj
              · have w3 := hWI.out (M.len y m - 1 - j) (by omega) (by omega)
                rw [show M.cnt y m 1 + (M.len y m - 1 - j) = M.cnt y m 1 + M.len y m - 1 - j by omega] at w3
                by_cases hm : M.wd (M.cnt y m 1 + M.len y m - 1 - j) = k
                · have hk : (M.wd (M.cnt y m 1 + M.len y m - 1 - j) == k) = true := by simp [hm]
                  have hm2 : Hid (j % 7 = a) := Lib.hid (by rw [w3.out] at hm; have := A2.out; omega)
                  by_cases ht : M.nthT y m k n = j
                  · have k2 : (0 - ((j - a + 6) / 7 + 1) == n) = true := by simp; have := T.out; have := hm2.out; omega
                    have k2' : (-((j - a + 6) / 7 + 1) == n) = true := by simp; have := T.out; have := hm2.out; omega
                    have R := Lib.hid (M.nth_neg HN.out (by omega) hn)
                    have HT := Lib.hid ht
                    clear hm ht w3
                    go_wp2_with (go_at_call 22; refine (rWeekday_any _ _).mono ?_; rintro e w' ⟨rfl, rfl⟩)
                    go_ret2
                    exact ⟨(ret_int2 (by rw [HT.out]) rfl).trans (ret_nth R.out), hb⟩
                  · have k2 : (0 - ((j - a + 6) / 7 + 1) == n) = false := by simp; have := T.out; have := hm2.out; omega
                    have k2' : (-((j - a + 6) / 7 + 1) == n) = false := by simp; have := T.out; have := hm2.out; omega
                    have ht' : j + 1 ≤ M.nthT y m k n := by omega
                    clear hm ht w3
                    go_wp2_with (go_at_call 22; refine (rWeekday_any _ _).mono ?_; rintro e w' ⟨rfl, rfl⟩)
                    go_round
                    case rel => exact ⟨j + 1, by omega, by omega, ht', by go_num, by congr 1; have := hm2.out; omega⟩
                    case measure => simp [intOf]; omega
                · have hk : (M.wd (M.cnt y m 1 + M.len y m - 1 - j) == k) = false := by simp [hm]
                  have hm2 : Hid (j % 7 ≠ a) := Lib.hid (by rw [w3.out] at hm; have := A2.out; omega)
                  have ht' : j + 1 ≤ M.nthT y m k n := by have := T.out; have := hm2.out; omega
                  clear hm w3
                  go_wp2_with (go_at_call 22; refine (rWeekday_any _ _).mono ?_; rintro e w' ⟨rfl, rfl⟩)
                  go_round
                  case rel => exact ⟨j + 1, by omega, by omega, ht', by go_num, by congr 1; have := hm2.out; omega⟩
                  case measure => simp [intOf]; omega
              · have R := Lib.hid (M.nth_7 HN.out (by omega : M.len y m ≤ M.nthT y m k n))
                go_wp2
                go_ret2
                exact ⟨ret_nth R.out, hb⟩
          · have hn' : ¬ n < 0 := by omega
            have hn0 : 1 ≤ n := by have := HN.out; omega
            obtain ⟨a, A⟩ : ∃ a, Hid (a = (k - M.wd (M.cnt y m 1)) % 7) := ⟨_, Lib.hid rfl⟩
            have T : Hid (M.nthT y m k n = a + 7 * (n - 1)) := Lib.hid (by rw [M.nthT_pos hn', A.out])
            have a0 : 0 ≤ a := by rw [A.out]; omega
            have a6 : a ≤ 6 := by rw [A.out]; omega
            have A2 : Hid (a = (k - ((M.cnt y m 1 + 3) % 7 + 1)) % 7) := Lib.hid (by rw [A.out, W1.out])
            have t0 : 0 ≤ M.nthT y m k n := by rw [T.out]; omega
            go_enter Try.func28, Try.ntmps28
            go_wp2_with (first
              | (go_at_call 20; refine (rLength_any _ _ _).mono ?_; rintro e w' ⟨rfl, rfl⟩)
              | (go_at_call 30; refine (rDay_any _ _ _ _).mono ?_; rw [E.out.1, E.out.2]; rintro e w1 ⟨rfl, hb⟩))
            go_loop [8, 9, 13, 14, 15] (fun _ _ f i _ => ∃ j : Int, 0 ≤ j ∧ j ≤ M.len y m ∧ j ≤ M.nthT y m k n ∧ i = .int .i64 j ∧ f = .int .i64 ((j - a + 6) / 7)) (fun _ _ _ i _ => (M.len y m - intOf i).toNat)
            case atStart => exact ⟨0, by omega, by omega, t0, rfl, by congr 1; omega⟩
            case round =>
              obtain ⟨j, j1, j2, j3, rfl, rfl⟩ := hrel
              have f0 : 0 ≤ (j - a + 6) / 7 := by omega
              have f1 : (j - a + 6) / 7 ≤ 10 := by omega
              have k1 : (0 - ((j - a + 6) / 7 + 1) == n) = false := by simp; omega
              have k1' : (-((j - a + 6) / 7 + 1) == n) = false := by simp; omega
              rcases Int.lt_or_le j (M.len y m) with hj | hj
              · have w3 := hWI.out j (by omega) (by omega)
                have ci := M.cnt_bd (y := y) (m := m) (d := 1) (by omega) (by omega)
                by_cases hm : M.wd (M.cnt y m 1 + j) = k
                · have hk : (M.wd (M.cnt y m 1 + j) == k) = true := by simp [hm]
                  have hm2 : Hid (j % 7 = a) := Lib.hid (by rw [w3.out] at hm; have := A2.out; omega)
                  by_cases ht : M.nthT y m k n = j
                  · have k2 : ((j - a + 6) / 7 + 1 == n) = true := by simp; have := T.out; have := hm2.out; omega
                    have R := Lib.hid (M.nth_pos HN.out (by omega) (by omega))
                    have HT := Lib.hid ht
                    clear hm ht w3
                    go_wp2_with (go_at_call 22; refine (rWeekday_any _ _).mono ?_; rintro e w' ⟨rfl, rfl⟩)
                    go_ret2
                    exact ⟨(ret_int2 (by rw [HT.out]) rfl).trans (ret_nth R.out), hb⟩
                  · have k2 : ((j - a + 6) / 7 + 1 == n) = false := by simp; have := T.out; have := hm2.out; omega
                    have ht' : j + 1 ≤ M.nthT y m k n := by omega
                    clear hm ht w3
                    go_wp2_with (go_at_call 22; refine (rWeekday_any _ _).mono ?_; rintro e w' ⟨rfl, rfl⟩)
                    go_round
                    case rel => exact ⟨j + 1, by omega, by omega, ht', by go_num, by congr 1; have := hm2.out; omega⟩
                    case measure => simp [intOf]; omega
                · have hk : (M.wd (M.cnt y m 1 + j) == k) = false := by simp [hm]
                  have hm2 : Hid (j % 7 ≠ a) := Lib.hid (by rw [w3.out] at hm; have := A2.out; omega)
                  have ht' : j + 1 ≤ M.nthT y m k n := by have := T.out; have := hm2.out; omega
                  clear hm w3
                  go_wp2_with (go_at_call 22; refine (rWeekday_any _ _).mono ?_; rintro e w' ⟨rfl, rfl⟩)
                  go_round
                  case rel => exact ⟨j + 1, by omega, by omega, ht', by go_num, by congr 1; have := hm2.out; omega⟩
                  case measure => simp [intOf]; omega
              · have R := Lib.hid (M.nth_7 HN.out (by omega : M.len y m ≤ M.nthT y m k n))
                go_wp2
                go_ret2
                exact ⟨ret_nth R.out, hb⟩

end Go.Proofs.Ytgjbcdbhbbimcaa
