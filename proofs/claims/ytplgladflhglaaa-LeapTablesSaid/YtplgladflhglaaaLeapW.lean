/- Walks through the reference of leap seconds. -/
import Derived.Test.YtplgladflhglaaaKit
import Derived.Test.YtplgladflhglaaaLeapM
import Derived.Test.YtplgladflhglaaaProg
import Derived.LoopTactic
namespace Go.Proofs.Ytplgladflhglaaa.Lp
set_option linter.unusedVariables false
set_option linter.unusedSimpArgs false
open Go.RowKit

/-- A table in memory: n steps from cell o of block b on. -/
structure Tab (w : World) (sl : Option Addr) (n b o : Nat) (A T : Nat → Int) : Prop where
  sl : 0 < n → sl = some ⟨b, o, none⟩
  lt : 0 < n → b < w.heap.size
  cA : ∀ i, i < n → w.cell? ⟨b, o + i * 2, none⟩ = some (.int .i64 (A i))
  cT : ∀ i, i < n → w.cell? ⟨b, o + i * 2 + 1, none⟩ = some (.int .i64 (T i))
  bA : ∀ i, i < n → -9223372036854775808 ≤ A i ∧ A i ≤ 9223372036854775807
  bT : ∀ i, i < n → -9223372036854775808 ≤ T i ∧ T i ≤ 9223372036854775807
  n62 : n ≤ 9223372036854775807

theorem rTotal_any {sl : Option Addr} {n b o cap : Nat} {A T : Nat → Int} (x : Int) (w : World) (h : Hid (Tab w sl n b o A T)) (h1 : -9223372036854775808 ≤ x) (h2 : x ≤ 9223372036854775807) :
    Calls Try.prog 34 #[.agg #[.slice sl n cap], .int .i64 x] w fun e w' => e = .returned (.int .i64 (M.tot A x n)) ∧ Below w.heap.size w w' := by
  have hn := h.out.n62
  go_enter Try.func34, Try.ntmps34
  go_wp2
  go_loop [5, 6] (fun c i => ∃ j : Nat, j ≤ n ∧ i = .int .i64 j ∧ c = .int .i64 (M.tot A x j)) (fun _ i => (n - intOf i).toNat)
  case atStart => exact ⟨0, by omega, rfl, rfl⟩
  case round =>
    obtain ⟨j, hj, rfl, rfl⟩ := hrel
    have tb := M.tot_bd A x j
    by_cases hlt : j < n
    · have hs := h.out.sl (by omega)
      have hb := h.out.lt (by omega)
      have c := h.out.cA j hlt
      have cb := h.out.bA j hlt
      obtain ⟨t1, t2⟩ := tb
      subst hs
      have hle : A j ≤ x ∨ x < A j := by omega
      rcases hle with hle | hle
      · have e := Lib.hid (M.tot_le hle)
        go_wp2
        go_round
        case rel => exact ⟨j + 1, by omega, by go_num, by rw [e.out]⟩
        case measure => simp [intOf]; omega
      · have e := Lib.hid (M.tot_gt hle)
        go_wp2
        go_round
        case rel => exact ⟨j + 1, by omega, by go_num, by rw [e.out]⟩
        case measure => simp [intOf]; omega
    · obtain rfl : j = n := by omega
      go_wp2
      go_ret
      exact ⟨rfl, (Below.refl _ _).alloc (Nat.le_refl _) _⟩

theorem rInstant_any (x : Int) (w : World) :
    Calls Try.prog 17 #[.int .i64 x] w fun e w' => e = .returned (.bool (decide (-62135596800 ≤ x ∧ x < 253402300800))) ∧ w = w' := by
  rcases Int.lt_or_le x (-62135596800) with h | h
  · go_enter Try.func17, Try.ntmps17
    go_wp2
    go_ret
    exact ⟨ret_bool (by symm; simp; omega), rfl⟩
  · go_enter Try.func17, Try.ntmps17
    go_wp2
    go_ret
    exact ⟨ret_bool (by simp [h]), rfl⟩
theorem instant_any (x : Int) (w : World) :
    Calls Try.prog 30 #[.int .i64 x] w fun e w' => e = .returned (.bool (decide (-62135596800 ≤ x ∧ x < 253402300800))) ∧ w = w' := by
  rcases Int.lt_or_le x (-62135596800) with h | h
  · go_enter Try.func30, Try.ntmps30
    go_wp2
    go_ret
    exact ⟨ret_bool (by symm; simp; omega), rfl⟩
  · go_enter Try.func30, Try.ntmps30
    go_wp2
    go_ret
    exact ⟨ret_bool (by simp [h]), rfl⟩

theorem Tab.below {w w' : World} {sl : Option Addr} {n b o : Nat} {A T : Nat → Int} (h : Tab w sl n b o A T) (hb : Below w.heap.size w w') : Tab w' sl n b o A T :=
  ⟨h.sl, fun hn => Nat.lt_of_lt_of_le (h.lt hn) hb.size, fun i hi => (hb.cell (p := ⟨b, o + i * 2, none⟩) (h.lt (by omega))).trans (h.cA i hi),
    fun i hi => (hb.cell (p := ⟨b, o + i * 2 + 1, none⟩) (h.lt (by omega))).trans (h.cT i hi), h.bA, h.bT, h.n62⟩
theorem Tab.alloc {w : World} {sl : Option Addr} {n b o : Nat} {A T : Nat → Int} (h : Tab w sl n b o A T) (x : Obj) : Tab (w.alloc x) sl n b o A T :=
  h.below ((Below.refl _ _).alloc (Nat.le_refl _) _)

theorem rAtomic_any {sl : Option Addr} {n b o cap : Nat} {A T : Nat → Int} (x : Int) (w : World) (h : Hid (Tab w sl n b o A T)) (h1 : -62135596800 ≤ x) (h2 : x < 253402300800) (hn : n ≤ 300) :
    Calls Try.prog 18 #[.agg #[.slice sl n cap], .int .i64 x] w fun e w' => e = .returned (.int .i64 (x + M.tot A x n)) ∧ Below w.heap.size w w' := by
  have tb := M.tot_bd A x n
  obtain ⟨t1, t2⟩ := tb
  go_enter Try.func18, Try.ntmps18
  go_wp2_with (go_at_call 34; refine (rTotal_any x _ (Lib.hid (h.out.alloc _)) (by omega) (by omega)).mono ?_; rintro e w2 ⟨rfl, hb⟩)
  go_ret
  exact ⟨rfl, (((Below.refl _ _).alloc (Nat.le_refl _) _).trans (hb.mono (by simp)))⟩

theorem total_any {sl : Option Addr} {n b o cap : Nat} {A T : Nat → Int} (x : Int) (w : World) (h : Hid (Tab w sl n b o A T)) (hk : Hid (M.Ok n A T)) (h1 : -9223372036854775808 ≤ x) (h2 : x ≤ 9223372036854775807) :
    Calls Try.prog 31 #[.agg #[.slice sl n cap], .int .i64 x] w fun e w' => e = .returned (.int .i64 (M.tot A x n)) ∧ Below w.heap.size w w' := by
  have hn := hk.out.n100
  obtain ⟨k, k1, k2, k3, k4⟩ := M.tot_split (A := A) (x := x) (fun i j => hk.out.mono (i := i) (j := j))
  have K2 := Lib.hid k2
  have K3 := Lib.hid k3
  have K4 := Lib.hid k4
  clear k2 k3 k4
  go_enter Try.func31, Try.ntmps31
  go_wp2
  go_loopw [5, 6] (fun i j wr => (∃ q, wr = ((w.alloc (.cells #[.slice sl n cap] 24)).alloc (.cells #[.int .i64 x] 3)).drewN q) ∧ ∃ lo hi : Nat, i = .int .i64 lo ∧ j = .int .i64 hi ∧ lo ≤ k ∧ k ≤ hi ∧ hi ≤ n) (fun i j _ => (intOf j - intOf i).toNat)
  case atStart => exact ⟨⟨0, rfl⟩, 0, n, rfl, rfl, by omega, k1, Nat.le_refl _⟩
  case round =>
    obtain ⟨⟨q, rfl⟩, lo, hi, rfl, rfl, c1, c2, c3⟩ := hrel
    by_cases hlt : lo < hi
    · obtain ⟨m, hm⟩ : ∃ m, (lo + hi) / 2 = m := ⟨_, rfl⟩
      have hm' : ((lo : Int) + (hi : Int)) / 2 = (m : Int) := by omega
      have m1 : lo ≤ m := by omega
      have m2 : m < hi := by omega
      clear hm
      have hs := h.out.sl (by omega)
      have hb := h.out.lt (by omega)
      have c := h.out.cA m (by omega)
      have cb := h.out.bA m (by omega)
      obtain ⟨cb1, cb2⟩ := cb
      subst hs
      rcases Nat.lt_or_ge m k with hmk | hmk
      · have le := K3.out m hmk
        have e1 : decide (x < A m) = false := by simp; omega
        have e2 : (!decide (x < A m)) = true := by simp; omega
        go_wp2
        go_quiet (fail)
        go_wp2
        go_roundw
        case rel => exact ⟨⟨_, rfl⟩, m + 1, hi, by go_num, rfl, by omega, c2, c3⟩
        case measure => simp [intOf]; omega
      · have lt := K4.out m hmk (by omega)
        have e1 : decide (x < A m) = true := by simp; omega
        have e2 : (!decide (x < A m)) = false := by simp; omega
        go_wp2
        go_quiet (fail)
        go_wp2
        go_roundw
        case rel => exact ⟨⟨_, rfl⟩, lo, m, rfl, rfl, c1, hmk, by omega⟩
        case measure => simp [intOf]; omega
    · obtain rfl : lo = k := by omega
      obtain rfl : lo = hi := by omega
      go_wp2
      go_ret
      exact ⟨ret_int K2.out.symm, bdrewN (((Below.refl _ _).alloc (Nat.le_refl _) _).alloc (by simp) _)⟩

theorem Tab.alloc2 {w : World} {sl : Option Addr} {n b o : Nat} {A T : Nat → Int} (h : Tab w sl n b o A T) (x y : Obj) : Tab ((w.alloc x).alloc y) sl n b o A T := (h.alloc x).alloc y
theorem Tab.drewN {w : World} {sl : Option Addr} {n b o q : Nat} {A T : Nat → Int} (h : Tab w sl n b o A T) : Tab (w.drewN q) sl n b o A T := h.below (bdrewN (Below.refl _ _))

theorem ret_civ {n : Nat} {A : Nat → Int} {x a c : Int} {b : Bool} (h : M.civ n A x = ((a, b), c)) : Ending.returned (.tuple #[.int .i64 a, .bool b, .int .i64 c]) = .returned (.tuple #[.int .i64 (M.civ n A x).1.1, .bool (M.civ n A x).1.2, .int .i64 (M.civ n A x).2]) := by rw [h]

end Go.Proofs.Ytplgladflhglaaa.Lp
