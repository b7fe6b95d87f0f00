/- Walks through the reference of integer: quotients, products. -/
import Derived.Test.YtainibnjpkbfpaaIntW
import Derived.Test.YtainibnjpkbfpaaIntM2
namespace Go.Proofs.Ytainibnjpkbfpaa
set_option linter.unusedVariables false
set_option linter.unusedSimpArgs false
open Go.RowKit

theorem ret_ml {a b c e : Int} (h : M.ml a b = (c, e)) : Ending.returned (.tuple #[.int .i64 c, .int .i64 e]) = .returned (.tuple #[.int .i64 (M.ml a b).1, .int .i64 (M.ml a b).2]) := by rw [h]
theorem tdiv_bd {p b : Int} (h1 : -9223372036854775808 ≤ p) (h2 : p ≤ 9223372036854775807) (hb : b ≠ 0) (hx : ¬ (p = -9223372036854775808 ∧ b = -1)) : -9223372036854775808 ≤ p.tdiv b ∧ p.tdiv b ≤ 9223372036854775807 := by
  have hn : (p.tdiv b).natAbs ≤ p.natAbs := by rw [Int.natAbs_tdiv]; exact Nat.div_le_self _ _
  by_cases hp : p = -9223372036854775808
  · subst hp
    rcases Int.lt_or_le 0 b with h | h
    · have := M.tdiv_neg (a := -9223372036854775808) (b := b) (by omega) h
      have h5 : 0 ≤ (- -9223372036854775808 : Int) / b := Int.ediv_nonneg (by omega) (by omega)
      omega
    · have h2 : 2 ≤ -b := by omega
      have : (Int.tdiv (-9223372036854775808) b).natAbs ≤ 4611686018427387904 := by
        rw [Int.natAbs_tdiv]
        exact Nat.div_le_of_le_mul (by show 9223372036854775808 ≤ _; omega)
      omega
  · omega
/-- Products: the wrapped product, divided again. -/
theorem wrap_back {a b p : Int} (h1 : -9223372036854775808 ≤ p) (h2 : p ≤ 9223372036854775807) (hb : b ≠ 0) (hb1 : -9223372036854775808 ≤ b) (hb2 : b ≤ 9223372036854775807) (hp : wrap64 (a * b) = p) :
    p.tdiv b = a ↔ -9223372036854775808 ≤ a * b ∧ a * b ≤ 9223372036854775807 := by
  have hd := Int.tmod_add_tdiv_mul p b
  have hr : (p.tmod b).natAbs < b.natAbs := by rw [Int.natAbs_tmod]; exact Nat.mod_lt _ (by omega)
  unfold wrap64 at hp
  constructor
  · intro h
    rw [h] at hd
    omega
  · intro h
    have : p = a * b := by omega
    rw [this, Int.mul_tdiv_cancel _ hb]

theorem rMul_any (a b : Int) (w : World) (h1 : -9223372036854775808 ≤ a) (h2 : a ≤ 9223372036854775807) (h3 : -9223372036854775808 ≤ b) (h4 : b ≤ 9223372036854775807) :
    Calls Try.prog 59 #[.int .i64 a, .int .i64 b] w fun e w' => e = .returned (.tuple #[.int .i64 (M.ml a b).1, .int .i64 (M.ml a b).2]) ∧ ∃ n, w' = w.drewN n := by
  by_cases ha : a = 0
  · have R := Lib.hid (M.ml_ok (a := a) (b := b) (by rw [ha]; simp))
    have Z := Lib.hid (show a * b = 0 by rw [ha]; simp)
    have k : (a == 0) = true := by simp [ha]
    clear ha
    go_enter Try.func59, Try.ntmps59
    go_wp2; go_ret2
    exact ⟨(ret_int2 Z.out.symm rfl).trans (ret_ml R.out), 0, rfl⟩
  · have ka : (a == 0) = false := by simp [ha]
    by_cases hb : b = 0
    · have R := Lib.hid (M.ml_ok (a := a) (b := b) (by rw [hb]; simp))
      have Z := Lib.hid (show a * b = 0 by rw [hb]; simp)
      have k : (b == 0) = true := by simp [hb]
      clear ha hb
      go_enter Try.func59, Try.ntmps59
      go_wp2; go_ret2
      exact ⟨(ret_int2 Z.out.symm rfl).trans (ret_ml R.out), 0, rfl⟩
    · have kb : (b == 0) = false := by simp [hb]
      by_cases hx : a = -9223372036854775808 ∧ b = -1
      · obtain ⟨rfl, rfl⟩ := hx
        have R := Lib.hid (M.ml_big (a := -9223372036854775808) (b := -1) (by decide))
        go_enter Try.func59, Try.ntmps59
        go_wp2; go_ret2
        exact ⟨ret_ml R.out, 0, rfl⟩
      · by_cases hy : b = -9223372036854775808 ∧ a = -1
        · obtain ⟨rfl, rfl⟩ := hy
          have R := Lib.hid (M.ml_big (a := -1) (b := -9223372036854775808) (by decide))
          go_enter Try.func59, Try.ntmps59
          go_wp2; go_ret2
          exact ⟨ret_ml R.out, 0, rfl⟩
        · have cx : (a == -9223372036854775808) = false ∨ ((a == -9223372036854775808) = true ∧ (b == -1) = false) := by
            by_cases h : a = -9223372036854775808
            · right; exact ⟨by simp [h], by simp; omega⟩
            · left; simp [h]
          have cy : (b == -9223372036854775808) = false ∨ ((b == -9223372036854775808) = true ∧ (a == -1) = false) := by
            by_cases h : b = -9223372036854775808
            · right; exact ⟨by simp [h], by simp; omega⟩
            · left; simp [h]
          obtain ⟨p, hp⟩ : ∃ p, wrap64 (a * b) = p := ⟨_, rfl⟩
          have p1 : -9223372036854775808 ≤ p := by rw [← hp]; unfold wrap64; omega
          have p2 : p ≤ 9223372036854775807 := by rw [← hp]; unfold wrap64; omega
          have hback := wrap_back p1 p2 hb h3 h4 hp
          have hpx : ¬ (p = -9223372036854775808 ∧ b = -1) := by
            rintro ⟨e1, e2⟩
            rw [e2] at hp
            unfold wrap64 at hp
            omega
          obtain ⟨t1, t2⟩ := tdiv_bd p1 p2 hb hpx
          have pm : (p == -9223372036854775808) = false ∨ ((p == -9223372036854775808) = true ∧ (b == -1) = false) := by
            by_cases h : p = -9223372036854775808
            · right; exact ⟨by simp [h], by simp; omega⟩
            · left; simp [h]
          by_cases hf : -9223372036854775808 ≤ a * b ∧ a * b ≤ 9223372036854775807
          · have kt : (p.tdiv b != a) = false := by simp; exact hback.2 hf
            have R := Lib.hid (M.ml_ok hf)
            have Z := Lib.hid (show p = a * b by rw [← hp]; unfold wrap64; omega)
            clear ha hx hy hback hpx hf
            rcases cx with cx | ⟨cx, cx'⟩ <;> rcases cy with cy | ⟨cy, cy'⟩
            all_goals
              go_enter Try.func59, Try.ntmps59
              go_wp2
              go_ret2
              refine ⟨Eq.trans ?_ (ret_ml R.out), 0, rfl⟩
              first | exact ret_int2 Z.out rfl | exact ret_int2 (hp.trans Z.out) rfl
          · have kt : (p.tdiv b != a) = true := by simp; exact fun h => hf (hback.1 h)
            have R := Lib.hid (M.ml_big hf)
            clear ha hx hy hback hpx hf
            rcases cx with cx | ⟨cx, cx'⟩ <;> rcases cy with cy | ⟨cy, cy'⟩
            all_goals
              go_enter Try.func59, Try.ntmps59
              go_wp2
              go_ret2
              exact ⟨ret_ml R.out, 0, rfl⟩

theorem rDiv_pos (a b : Int) (w : World) (h1 : -9223372036854775808 ≤ a) (h2 : a ≤ 9223372036854775807) (h3 : 1 ≤ b) (h4 : b ≤ 9223372036854775807) :
    Calls Try.prog 58 #[.int .i64 a, .int .i64 b] w fun e w' => e = .returned (.tuple #[.int .i64 (a / b), .int .i64 (a % b), .int .i64 0]) ∧ ∃ n, w' = w.drewN n := by
  have hb0 : (b == 0) = false := by simp; omega
  have hb1 : (b == -1) = false := by simp; omega
  have hbl : decide (b < 0) = false := by simp; omega
  have hb : b ≠ 0 := by omega
  by_cases ha : 0 ≤ a
  · have m1 := Int.emod_nonneg a hb
    have m2 := Int.emod_lt_of_pos a (show 0 < b by omega)
    have q1 : 0 ≤ a / b := Int.ediv_nonneg ha (by omega)
    have q2 : a / b ≤ a := Int.ediv_le_self _ ha
    have hamin : (a == -9223372036854775808) = false := by simp; omega
    have hr : decide (a % b < 0) = false := by simp; omega
    have hr0 : (a % b != 0) = false ∨ (a % b != 0) = true := by cases (a % b != 0) <;> simp
    rcases hr0 with hr0 | hr0
    all_goals
      go_enter Try.func58, Try.ntmps58
      go_wp2; go_quiet (fail); go_wp2; go_ret3
      exact ⟨rfl, _, rfl⟩
  · have e1 : a.tmod b = -((-a) % b) := M.tmod_neg (by omega) (by omega)
    have e2 : a.tdiv b = -((-a) / b) := M.tdiv_neg (by omega) (by omega)
    have m1 := Int.emod_nonneg (-a) hb
    have m2 := Int.emod_lt_of_pos (-a) (show 0 < b by omega)
    have q1 : 0 ≤ (-a) / b := Int.ediv_nonneg (by omega) (by omega)
    have q2 : (-a) / b ≤ -a := Int.ediv_le_self _ (by omega)
    have hmin : (a == -9223372036854775808) = true ∨ (a == -9223372036854775808) = false := by cases (a == -9223372036854775808) <;> simp
    obtain ⟨q, hq⟩ : ∃ q, a.tdiv b = q := ⟨_, rfl⟩
    obtain ⟨r, hr⟩ : ∃ r, a.tmod b = r := ⟨_, rfl⟩
    rw [hq] at e2
    rw [hr] at e1
    by_cases hz : (-a) % b = 0
    · have E := M.ediv_neg0 (a := a) (b := b) (by omega) hz
      have T : Hid (q = a / b ∧ r = a % b) := Lib.hid (by
        have := M.ediv_mul_emod a b
        omega)
      have r0 : (r != 0) = false := by simp; omega
      have q3 : -9223372036854775808 ≤ q := by omega
      have q4 : q ≤ 9223372036854775807 := by omega
      have r1 : -9223372036854775808 ≤ r := by omega
      have r2 : r ≤ 9223372036854775807 := by omega
      clear e1 e2 m1 m2 q1 q2 hz E
      rcases hmin with hmin | hmin
      all_goals
        go_enter Try.func58, Try.ntmps58
        go_wp2; go_quiet (fail); go_wp2; go_ret3
        exact ⟨ret_int3 T.out.1 T.out.2 rfl, _, rfl⟩
    · have E := M.ediv_neg1 (a := a) (b := b) (by omega) hz
      have T : Hid (q - 1 = a / b ∧ r + b = a % b) := Lib.hid (by omega)
      have r0 : (r != 0) = true := by simp; omega
      have r0' : decide (r < 0) = true := by simp; omega
      have q3 : -9223372036854775808 ≤ q - 1 := by
        have : -9223372036854775808 ≤ a / b := Int.le_ediv_of_mul_le (by omega) (by omega)
        have := T.out.1
        omega
      have q4 : q ≤ 9223372036854775807 := by omega
      have r1 : -9223372036854775808 ≤ r := by omega
      have r2 : r ≤ 9223372036854775807 := by omega
      have r3 : -9223372036854775808 ≤ r + b := by omega
      have r4 : r + b ≤ 9223372036854775807 := by omega
      clear e1 e2 m1 m2 q1 q2 hz E
      rcases hmin with hmin | hmin
      all_goals
        go_enter Try.func58, Try.ntmps58
        go_wp2; go_quiet (fail); go_wp2; go_ret3
        exact ⟨ret_int3 T.out.1 T.out.2 rfl, _, rfl⟩

theorem rFloor_pos (a b : Int) (w : World) (h1 : -9223372036854775808 ≤ a) (h2 : a ≤ 9223372036854775807) (h3 : 1 ≤ b) (h4 : b ≤ 9223372036854775807) :
    Calls Try.prog 56 #[.int .i64 a, .int .i64 b] w fun e w' => e = .returned (.int .i64 (a / b)) ∧ ∃ n, w' = w.drewN n := by
  go_enter Try.func56, Try.ntmps56
  go_wp2_with (go_at_call 58; refine (rDiv_pos _ _ _ h1 h2 h3 h4).mono ?_; rintro e w' ⟨rfl, n, rfl⟩)
  go_ret
  exact ⟨rfl, _, rfl⟩
end Go.Proofs.Ytainibnjpkbfpaa
