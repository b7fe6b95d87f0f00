/- Walks through the reference of integer: sums and products; the law of sums. -/
import Derived.Test.YtfmdgeeooohilaaIntAw
namespace Go.Proofs.Ytfmdgeeooohilaa
set_option linter.unusedVariables false
set_option linter.unusedSimpArgs false
open Go.RowKit

theorem rAdd_ok (a b : Int) (w : World) (h1 : -9223372036854775808 ≤ a) (h2 : a ≤ 9223372036854775807) (h3 : -9223372036854775808 ≤ b) (h4 : b ≤ 9223372036854775807)
    (h5 : -9223372036854775808 ≤ a + b) (h6 : a + b ≤ 9223372036854775807) :
    Calls Try.prog 25 #[.int .i64 a, .int .i64 b] w fun e w' => e = .returned (.tuple #[.int .i64 (a + b), .int .i64 0]) ∧ w = w' := by
  by_cases ha : a < 0
  · by_cases hb : b < 0
    · have hs : a + b < 0 := by omega
      go_enter Try.func25, Try.ntmps25
      go_wp2; go_ret2
      exact ⟨rfl, rfl⟩
    · go_enter Try.func25, Try.ntmps25
      go_wp2; go_ret2
      exact ⟨rfl, rfl⟩
  · by_cases hb : b < 0
    · go_enter Try.func25, Try.ntmps25
      go_wp2; go_ret2
      exact ⟨rfl, rfl⟩
    · have hs : 0 ≤ a + b := by omega
      go_enter Try.func25, Try.ntmps25
      go_wp2; go_ret2
      exact ⟨rfl, rfl⟩
theorem rAdd_big (a b : Int) (w : World) (h1 : -9223372036854775808 ≤ a) (h2 : a ≤ 9223372036854775807) (h3 : -9223372036854775808 ≤ b) (h4 : b ≤ 9223372036854775807)
    (h5 : a + b < -9223372036854775808 ∨ 9223372036854775807 < a + b) :
    Calls Try.prog 25 #[.int .i64 a, .int .i64 b] w fun e w' => e = .returned (.tuple #[.int .i64 0, .int .i64 9]) ∧ w = w' := by
  rcases h5 with h5 | h5
  · have hw := wrap_under h5 (by omega)
    have hs : decide (wrap64 (a + b) < 0) = false := by simp; omega
    have da : decide (a < 0) = true := by simp; omega
    have db : decide (b < 0) = true := by simp; omega
    clear hw
    go_enter Try.func25, Try.ntmps25
    go_wp2; go_ret2
    exact ⟨rfl, rfl⟩
  · have hw := wrap_over h5 (by omega)
    have hs : decide (wrap64 (a + b) < 0) = true := by simp; omega
    have da : decide (a < 0) = false := by simp; omega
    have db : decide (b < 0) = false := by simp; omega
    clear hw
    go_enter Try.func25, Try.ntmps25
    go_wp2; go_ret2
    exact ⟨rfl, rfl⟩

theorem tdiv_bd {p b : Int} (h1 : -9223372036854775808 ≤ p) (h2 : p ≤ 9223372036854775807) (hb : b ≠ 0) (hx : ¬ (p = -9223372036854775808 ∧ b = -1)) : -9223372036854775808 ≤ p.tdiv b ∧ p.tdiv b ≤ 9223372036854775807 := by
  have hn : (p.tdiv b).natAbs ≤ p.natAbs := by rw [Int.natAbs_tdiv]; exact Nat.div_le_self _ _
  by_cases hp : p = -9223372036854775808
  · subst hp
    rcases Int.lt_or_le 0 b with h | h
    · have := M.tdiv_neg (a := -9223372036854775808) (b := b) (by omega) h
      have h5 : 0 ≤ (- -9223372036854775808 : Int) / b := Int.ediv_nonneg (by omega) (by omega)
      omega
    · have h2 : 2 ≤ -b := by omega
      have : (Int.tdiv (-9223372036854775808) b).natAbs ≤ 4611686018427387904 := by
        rw [Int.natAbs_tdiv]
        exact Nat.div_le_of_le_mul (by show 9223372036854775808 ≤ _; omega)
      omega
  · omega
/-- Products: the wrapped product, divided again. -/
theorem wrap_back {a b p : Int} (h1 : -9223372036854775808 ≤ p) (h2 : p ≤ 9223372036854775807) (hb : b ≠ 0) (hb1 : -9223372036854775808 ≤ b) (hb2 : b ≤ 9223372036854775807) (hp : wrap64 (a * b) = p) :
    p.tdiv b = a ↔ -9223372036854775808 ≤ a * b ∧ a * b ≤ 9223372036854775807 := by
  have hd := Int.tmod_add_tdiv_mul p b
  have hr : (p.tmod b).natAbs < b.natAbs := by rw [Int.natAbs_tmod]; exact Nat.mod_lt _ (by omega)
  unfold wrap64 at hp
  constructor
  · intro h
    rw [h] at hd
    omega
  · intro h
    have : p = a * b := by omega
    rw [this, Int.mul_tdiv_cancel _ hb]

theorem rMul_any (a b : Int) (w : World) (h1 : -9223372036854775808 ≤ a) (h2 : a ≤ 9223372036854775807) (h3 : -9223372036854775808 ≤ b) (h4 : b ≤ 9223372036854775807) :
    Calls Try.prog 26 #[.int .i64 a, .int .i64 b] w fun e w' => e = .returned (.tuple #[.int .i64 (M.ml a b).1, .int .i64 (M.ml a b).2]) ∧ ∃ n, w' = w.drewN n := by
  by_cases ha : a = 0
  · have R := Lib.hid (M.ml_ok (a := a) (b := b) (by rw [ha]; simp))
    have Z := Lib.hid (show a * b = 0 by rw [ha]; simp)
    have k : (a == 0) = true := by simp [ha]
    clear ha
    go_enter Try.func26, Try.ntmps26
    go_wp2; go_ret2
    exact ⟨(ret_int2 Z.out.symm rfl).trans (ret_ml R.out), 0, rfl⟩
  · have ka : (a == 0) = false := by simp [ha]
    by_cases hb : b = 0
    · have R := Lib.hid (M.ml_ok (a := a) (b := b) (by rw [hb]; simp))
      have Z := Lib.hid (show a * b = 0 by rw [hb]; simp)
      have k : (b == 0) = true := by simp [hb]
      clear ha hb
      go_enter Try.func26, Try.ntmps26
      go_wp2; go_ret2
      exact ⟨(ret_int2 Z.out.symm rfl).trans (ret_ml R.out), 0, rfl⟩
    · have kb : (b == 0) = false := by simp [hb]
      by_cases hx : a = -9223372036854775808 ∧ b = -1
      · obtain ⟨rfl, rfl⟩ := hx
        have R := Lib.hid (M.ml_big (a := -9223372036854775808) (b := -1) (by decide))
        go_enter Try.func26, Try.ntmps26
        go_wp2; go_ret2
        exact ⟨ret_ml R.out, 0, rfl⟩
      · by_cases hy : b = -9223372036854775808 ∧ a = -1
        · obtain ⟨rfl, rfl⟩ := hy
          have R := Lib.hid (M.ml_big (a := -1) (b := -9223372036854775808) (by decide))
          go_enter Try.func26, Try.ntmps26
          go_wp2; go_ret2
          exact ⟨ret_ml R.out, 0, rfl⟩
        · have cx : (a == -9223372036854775808) = false ∨ ((a == -9223372036854775808) = true ∧ (b == -1) = false) := by
            by_cases h : a = -9223372036854775808
            · right; exact ⟨by simp [h], by simp; omega⟩
            · left; simp [h]
          have cy : (b == -9223372036854775808) = false ∨ ((b == -9223372036854775808) = true ∧ (a == -1) = false) := by
            by_cases h : b = -9223372036854775808
            · right; exact ⟨by simp [h], by simp; omega⟩
            · left; simp [h]
          obtain ⟨p, hp⟩ : ∃ p, wrap64 (a * b) = p := ⟨_, rfl⟩
          have p1 : -9223372036854775808 ≤ p := by rw [← hp]; unfold wrap64; omega
          have p2 : p ≤ 9223372036854775807 := by rw [← hp]; unfold wrap64; omega
          have hback := wrap_back p1 p2 hb h3 h4 hp
          have hpx : ¬ (p = -9223372036854775808 ∧ b = -1) := by
            rintro ⟨e1, e2⟩
            rw [e2] at hp
            unfold wrap64 at hp
            omega
          obtain ⟨t1, t2⟩ := tdiv_bd p1 p2 hb hpx
          have pm : (p == -9223372036854775808) = false ∨ ((p == -9223372036854775808) = true ∧ (b == -1) = false) := by
            by_cases h : p = -9223372036854775808
            · right; exact ⟨by simp [h], by simp; omega⟩
            · left; simp [h]
          by_cases hf : -9223372036854775808 ≤ a * b ∧ a * b ≤ 9223372036854775807
          · have kt : (p.tdiv b != a) = false := by simp; exact hback.2 hf
            have R := Lib.hid (M.ml_ok hf)
            have Z := Lib.hid (show p = a * b by rw [← hp]; unfold wrap64; omega)
            clear ha hx hy hback hpx hf
            rcases cx with cx | ⟨cx, cx'⟩ <;> rcases cy with cy | ⟨cy, cy'⟩
            all_goals
              go_enter Try.func26, Try.ntmps26
              go_wp2
              go_ret2
              refine ⟨Eq.trans ?_ (ret_ml R.out), 0, rfl⟩
              first | exact ret_int2 Z.out rfl | exact ret_int2 (hp.trans Z.out) rfl
          · have kt : (p.tdiv b != a) = true := by simp; exact fun h => hf (hback.1 h)
            have R := Lib.hid (M.ml_big hf)
            clear ha hx hy hback hpx hf
            rcases cx with cx | ⟨cx, cx'⟩ <;> rcases cy with cy | ⟨cy, cy'⟩
            all_goals
              go_enter Try.func26, Try.ntmps26
              go_wp2
              go_ret2
              exact ⟨ret_ml R.out, 0, rfl⟩

set_option maxHeartbeats 1000000 in
theorem IntegerSums_walk (a b : Int) (w : World) (h1 : -9223372036854775808 ≤ a) (h2 : a ≤ 9223372036854775807) (h3 : -9223372036854775808 ≤ b) (h4 : b ≤ 9223372036854775807) :
    Calls Try.prog 9 #[.int .i64 a, .int .i64 b] w fun e w' => e = .returned (.bool true) ∧ Below w.heap.size w w' := by
  by_cases hf : -9223372036854775808 ≤ a + b ∧ a + b ≤ 9223372036854775807
  · obtain ⟨f1, f2⟩ := hf
    go_enter Try.func9, Try.ntmps9
    go_wp2_with (first
      | (go_at_call 13; refine (awake_any _).mono ?_; rintro e w1 ⟨rfl, hb1⟩)
      | (go_at_call 24; refine (Add_ok _ _ _ h1 h2 h3 h4 f1 f2).mono ?_; rintro e w' ⟨rfl, rfl⟩)
      | (go_at_call 16; refine (Mul_any _ _ _ h1 h2 h3 h4).mono ?_; rintro e w' ⟨rfl, rfl⟩)
      | (go_at_call 25; refine (rAdd_ok _ _ _ h1 h2 h3 h4 f1 f2).mono ?_; rintro e w' ⟨rfl, rfl⟩)
      | (go_at_call 26; refine (rMul_any _ _ _ h1 h2 h3 h4).mono ?_; rintro e w' ⟨rfl, n, rfl⟩))
    go_ret
    exact ⟨rfl, bdrewN hb1⟩
  · have hf' : a + b < -9223372036854775808 ∨ 9223372036854775807 < a + b := by omega
    have HF := Lib.hid hf'
    clear hf hf'
    go_enter Try.func9, Try.ntmps9
    go_wp2_with (first
      | (go_at_call 13; refine (awake_any _).mono ?_; rintro e w1 ⟨rfl, hb1⟩)
      | (go_at_call 24; refine (Add_big _ _ _ h1 h2 h3 h4 HF.out).mono ?_; rintro e w' ⟨rfl, rfl⟩)
      | (go_at_call 16; refine (Mul_any _ _ _ h1 h2 h3 h4).mono ?_; rintro e w' ⟨rfl, rfl⟩)
      | (go_at_call 25; refine (rAdd_big _ _ _ h1 h2 h3 h4 HF.out).mono ?_; rintro e w' ⟨rfl, rfl⟩)
      | (go_at_call 26; refine (rMul_any _ _ _ h1 h2 h3 h4).mono ?_; rintro e w' ⟨rfl, n, rfl⟩))
    go_ret
    exact ⟨rfl, bdrewN hb1⟩

end Go.Proofs.Ytfmdgeeooohilaa
