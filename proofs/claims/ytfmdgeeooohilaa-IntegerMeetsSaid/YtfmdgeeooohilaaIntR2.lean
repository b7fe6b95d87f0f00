/- Walks through the reference of integer: quotients, common divisors, products and inverses modulo a number. -/
import Derived.Test.YtfmdgeeooohilaaIntR
import Derived.Test.YtfmdgeeooohilaaIntMt
namespace Go.Proofs.Ytfmdgeeooohilaa
set_option linter.unusedVariables false
set_option linter.unusedSimpArgs false
open Go.RowKit

theorem rDiv_pos (a b : Int) (w : World) (h1 : -9223372036854775808 ≤ a) (h2 : a ≤ 9223372036854775807) (h3 : 1 ≤ b) (h4 : b ≤ 9223372036854775807) :
    Calls Try.prog 40 #[.int .i64 a, .int .i64 b] w fun e w' => e = .returned (.tuple #[.int .i64 (a / b), .int .i64 (a % b), .int .i64 0]) ∧ ∃ n, w' = w.drewN n := by
  have hb0 : (b == 0) = false := by simp; omega
  have hb1 : (b == -1) = false := by simp; omega
  have hbl : decide (b < 0) = false := by simp; omega
  have hb : b ≠ 0 := by omega
  by_cases ha : 0 ≤ a
  · have m1 := Int.emod_nonneg a hb
    have m2 := Int.emod_lt_of_pos a (show 0 < b by omega)
    have q1 : 0 ≤ a / b := Int.ediv_nonneg ha (by omega)
    have q2 : a / b ≤ a := Int.ediv_le_self _ ha
    have hamin : (a == -9223372036854775808) = false := by simp; omega
    have hr : decide (a % b < 0) = false := by simp; omega
    have hr0 : (a % b != 0) = false ∨ (a % b != 0) = true := by cases (a % b != 0) <;> simp
    rcases hr0 with hr0 | hr0
    all_goals
      go_enter Try.func40, Try.ntmps40
      go_wp2; go_quiet (fail); go_wp2; go_ret3
      exact ⟨rfl, _, rfl⟩
  · have e1 : a.tmod b = -((-a) % b) := M.tmod_neg (by omega) (by omega)
    have e2 : a.tdiv b = -((-a) / b) := M.tdiv_neg (by omega) (by omega)
    have m1 := Int.emod_nonneg (-a) hb
    have m2 := Int.emod_lt_of_pos (-a) (show 0 < b by omega)
    have q1 : 0 ≤ (-a) / b := Int.ediv_nonneg (by omega) (by omega)
    have q2 : (-a) / b ≤ -a := Int.ediv_le_self _ (by omega)
    have hmin : (a == -9223372036854775808) = true ∨ (a == -9223372036854775808) = false := by cases (a == -9223372036854775808) <;> simp
    obtain ⟨q, hq⟩ : ∃ q, a.tdiv b = q := ⟨_, rfl⟩
    obtain ⟨r, hr⟩ : ∃ r, a.tmod b = r := ⟨_, rfl⟩
    rw [hq] at e2
    rw [hr] at e1
    by_cases hz : (-a) % b = 0
    · have E := M.ediv_neg0 (a := a) (b := b) (by omega) hz
      have T : Hid (q = a / b ∧ r = a % b) := Lib.hid (by
        have := M.ediv_mul_emod a b
        omega)
      have r0 : (r != 0) = false := by simp; omega
      have q3 : -9223372036854775808 ≤ q := by omega
      have q4 : q ≤ 9223372036854775807 := by omega
      have r1 : -9223372036854775808 ≤ r := by omega
      have r2 : r ≤ 9223372036854775807 := by omega
      clear e1 e2 m1 m2 q1 q2 hz E
      rcases hmin with hmin | hmin
      all_goals
        go_enter Try.func40, Try.ntmps40
        go_wp2; go_quiet (fail); go_wp2; go_ret3
        exact ⟨ret_int3 T.out.1 T.out.2 rfl, _, rfl⟩
    · have E := M.ediv_neg1 (a := a) (b := b) (by omega) hz
      have T : Hid (q - 1 = a / b ∧ r + b = a % b) := Lib.hid (by omega)
      have r0 : (r != 0) = true := by simp; omega
      have r0' : decide (r < 0) = true := by simp; omega
      have q3 : -9223372036854775808 ≤ q - 1 := by
        have : -9223372036854775808 ≤ a / b := Int.le_ediv_of_mul_le (by omega) (by omega)
        have := T.out.1
        omega
      have q4 : q ≤ 9223372036854775807 := by omega
      have r1 : -9223372036854775808 ≤ r := by omega
      have r2 : r ≤ 9223372036854775807 := by omega
      have r3 : -9223372036854775808 ≤ r + b := by omega
      have r4 : r + b ≤ 9223372036854775807 := by omega
      clear e1 e2 m1 m2 q1 q2 hz E
      rcases hmin with hmin | hmin
      all_goals
        go_enter Try.func40, Try.ntmps40
        go_wp2; go_quiet (fail); go_wp2; go_ret3
        exact ⟨ret_int3 T.out.1 T.out.2 rfl, _, rfl⟩

theorem rMod_at {a b r : Int} (w : World) (h1 : -9223372036854775808 ≤ a) (h2 : a ≤ 9223372036854775807) (h3 : 1 ≤ b) (h4 : b ≤ 9223372036854775807) (h : a % b = r) :
    Calls Try.prog 36 #[.int .i64 a, .int .i64 b] w fun e w' => e = .returned (.int .i64 r) ∧ ∃ n, w' = w.drewN n := by
  subst h
  go_enter Try.func36, Try.ntmps36
  go_wp2_with (go_at_call 40; refine (rDiv_pos _ _ _ h1 h2 h3 h4).mono ?_; rintro e w' ⟨rfl, n, rfl⟩)
  go_ret
  exact ⟨rfl, _, rfl⟩

theorem rGcd_pos (a b : Int) (w : World) (h1 : 1 ≤ a) (h2 : a ≤ 9223372036854775807) (h3 : 1 ≤ b) (h4 : b ≤ 9223372036854775807) :
    Calls Try.prog 35 #[.int .i64 a, .int .i64 b] w fun e w' => e = .returned (.int .i64 (M.gc a b)) ∧ ∃ n, w' = w.drewN n := by
  obtain ⟨A, rfl⟩ := Int.eq_ofNat_of_zero_le (show 0 ≤ a by omega)
  obtain ⟨B, rfl⟩ := Int.eq_ofNat_of_zero_le (show 0 ≤ b by omega)
  have hle : Nat.gcd A B ≤ A := Nat.gcd_le_left _ (by omega)
  have G : Hid (M.gc A B = (Nat.gcd A B : Nat)) := Lib.hid (by rw [M.gc_ok (by simp only [Int.natAbs_natCast]; omega)]; simp only [Int.natAbs_natCast])
  clear hle
  go_enter Try.func35, Try.ntmps35
  go_wp2
  go_loopw [0, 1] (fun x y wr => (∃ q, wr = w.drewN q) ∧ ∃ X Y : Nat, x = .int .i64 X ∧ y = .int .i64 Y ∧ (X : Int) ≤ 9223372036854775807 ∧ (Y : Int) ≤ 9223372036854775807 ∧ Hid (Nat.gcd X Y = Nat.gcd A B)) (fun _ y _ => (intOf y).toNat)
  case atStart => exact ⟨⟨0, rfl⟩, A, B, rfl, rfl, h2, h4, Lib.hid rfl⟩
  case round =>
    obtain ⟨⟨q, rfl⟩, X, Y, rfl, rfl, hX, hY, hg⟩ := hrel
    by_cases hz : Y = 0
    · have y0 : ((Y : Int) != 0) = false := by simp [hz]
      have R : Hid ((X : Int) = M.gc A B) := Lib.hid (by rw [G.out, ← hg.out, hz, Nat.gcd_zero_right])
      have xm : ((X : Int) == -9223372036854775808) = false := by simp
      clear hz
      go_wp2
      go_ret
      exact ⟨ret_int R.out, _, rfl⟩
    · have y0 : ((Y : Int) != 0) = true := by simp [hz]
      have ym : ((Y : Int) == -1) = false := by simp
      have nx : Hid (Nat.gcd Y (X % Y) = Nat.gcd A B) := Lib.hid (by rw [← hg.out, Nat.gcd_comm X Y, Nat.gcd_rec Y X, Nat.gcd_comm])
      have hlt : X % Y < Y := Nat.mod_lt _ (by omega)
      have e : ((X : Int) % (Y : Int)) = ((X % Y : Nat) : Int) := by simp
      have yne : (Y : Int) ≠ 0 := by omega
      clear hz
      go_wp2
      go_quiet (fail)
      go_wp2
      go_roundw
      case rel => exact ⟨⟨_, World.drewN_drewN ..⟩, Y, X % Y, rfl, by first | rfl | (rw [e]) | simp, hY, by omega, nx⟩
      case measure => simp [intOf]; omega

theorem rMul_atx {a b l e : Int} (w : World) (h1 : -9223372036854775808 ≤ a) (h2 : a ≤ 9223372036854775807) (h3 : -9223372036854775808 ≤ b) (h4 : b ≤ 9223372036854775807)
    (h : Hid (M.ml a b = (l, e))) :
    Calls Try.prog 26 #[.int .i64 a, .int .i64 b] w fun x w' => x = .returned (.tuple #[.int .i64 l, .int .i64 e]) ∧ ∃ n, w' = w.drewN n :=
  (rMul_any a b w h1 h2 h3 h4).mono fun _ _ ⟨he, hw⟩ => ⟨he.trans (by rw [h.out]), hw⟩

theorem rLcm_at {m n l e : Int} (w : World) (h1 : -9223372036854775808 ≤ m) (h2 : m ≤ 9223372036854775807) (h3 : -9223372036854775808 ≤ n) (h4 : n ≤ 9223372036854775807) (h : Hid (M.lc m n = (l, e))) :
    Calls Try.prog 34 #[.int .i64 m, .int .i64 n] w fun x w' => x = .returned (.tuple #[.int .i64 l, .int .i64 e]) ∧ ∃ j, w' = w.drewN j := by
  by_cases hb : m < 1 ∨ n < 1
  · have hh := h.out
    rw [M.lc_2 hb] at hh
    injection hh with hh1 hh2
    subst hh1 hh2
    have hb' : m < 1 ∨ (1 ≤ m ∧ n < 1) := by omega
    clear hb
    rcases hb' with hm | ⟨hm, hn⟩
    all_goals
      go_enter Try.func34, Try.ntmps34
      go_wp2
      go_ret2
      exact ⟨rfl, 0, rfl⟩
  · have hm : 1 ≤ m := by omega
    have hn : 1 ≤ n := by omega
    obtain ⟨g1, g2, g3, hc⟩ := M.lc_cases hm h2 hn h4
    obtain ⟨_, _, d1, d2, _⟩ := M.gc_some (a := m) (b := n) (by omega)
    obtain ⟨g, hg⟩ : ∃ g, M.gc m n = g := ⟨_, rfl⟩
    rw [hg] at g1 g2 g3 d1 d2
    have ML : Hid (M.ml (m / g) n = (l, e)) := Lib.hid (by
      have hh := h.out
      rw [M.lc_ok hb, hg] at hh
      obtain ⟨m', hm'⟩ := d1
      obtain ⟨n', hn'⟩ := d2
      have e1 : m / g = m' := by rw [hm']; exact Int.mul_ediv_cancel_left _ (by omega)
      have e2 : n / g = n' := by rw [hn']; exact Int.mul_ediv_cancel_left _ (by omega)
      have e3 : m' * n = m * n' := by rw [hm', hn', Int.mul_left_comm, Int.mul_assoc]
      rw [e2] at hh
      rw [e1]
      unfold M.ml at hh ⊢
      rw [e3]; exact hh)
    have q1 : 0 ≤ m / g := Int.ediv_nonneg (by omega) (by omega)
    have q2 : m / g ≤ m := Int.ediv_le_self _ (by omega)
    have HG : Hid (∀ w, Calls Try.prog 35 #[.int .i64 m, .int .i64 n] w fun e w' => e = .returned (.int .i64 g) ∧ ∃ j, w' = w.drewN j) := Lib.hid fun w => hg ▸ rGcd_pos m n w hm h2 hn h4
    clear hb hc hg d1 d2
    go_enter Try.func34, Try.ntmps34
    go_wp2_with (first
      | (go_at_call 35; refine (HG.out _).mono ?_; rintro e w' ⟨rfl, j1, rfl⟩)
      | (go_at_call 26; refine (rMul_atx _ (by omega) (by omega) h3 h4 ML).mono ?_; rintro e w' ⟨rfl, j2, rfl⟩))
    go_ret2
    exact ⟨rfl, _, rfl⟩

end Go.Proofs.Ytfmdgeeooohilaa
