/- Walks: isKey, isValue, valid; the reference's Key, Value, Valid. -/
import Derived.Test.YtpmkohnljngbhaaDoorSrMem
namespace Go.Proofs.YtpmkohnljngbhaaDoor.Sr
set_option linter.unusedVariables false
set_option linter.unusedSimpArgs false
set_option maxRecDepth 1000000
open Go.RowKit Wl Pg

def keyN (n : Nat) : Bool := decide (1 ≤ n ∧ n ≤ 40)
def valN (n : Nat) : Bool := decide (n ≤ 120)
theorem okN_eq (kn vn : Nat) (del : Bool) : okN kn vn del = (keyN kn && valN vn && (!del || decide (vn = 0))) := rfl
theorem isKey_any {A : Option Addr} {n c : Nat} (w : World) : Calls Tryd.prog 39 #[.slice A n c] w fun e w' => e = .returned (.bool (keyN n)) ∧ w = w' := by
  by_cases h1 : 1 ≤ n
  · have d1 : decide ((1 : Int) ≤ (n : Int)) = true := decide_eq_true (by omega)
    have d1' : decide ((n : Int) ≥ 1) = true := decide_eq_true (by omega)
    by_cases h2 : n ≤ 40
    · have d2 : decide ((n : Int) ≤ 40) = true := decide_eq_true (by omega)
      have R : Hid (keyN n = true) := Lib.hid (decide_eq_true ⟨h1, h2⟩)
      go_enter Tryd.func39, Tryd.ntmps39
      go_wp2
      go_ret
      exact ⟨ret_bool R.out.symm, rfl⟩
    · have d2 : decide ((n : Int) ≤ 40) = false := decide_eq_false (by omega)
      have R : Hid (keyN n = false) := Lib.hid (decide_eq_false (by omega))
      go_enter Tryd.func39, Tryd.ntmps39
      go_wp2
      go_ret
      exact ⟨ret_bool R.out.symm, rfl⟩
  · obtain rfl : n = 0 := by omega
    go_enter Tryd.func39, Tryd.ntmps39
    go_wp2
    go_ret
    exact ⟨rfl, rfl⟩
theorem isValue_any {A : Option Addr} {n c : Nat} (w : World) : Calls Tryd.prog 45 #[.slice A n c] w fun e w' => e = .returned (.bool (valN n)) ∧ w = w' := by
  by_cases h2 : n ≤ 120
  · have d2 : decide ((n : Int) ≤ 120) = true := decide_eq_true (by omega)
    have R : Hid (valN n = true) := Lib.hid (decide_eq_true h2)
    go_enter Tryd.func45, Tryd.ntmps45
    go_wp2
    go_ret
    exact ⟨ret_bool R.out.symm, rfl⟩
  · have d2 : decide ((n : Int) ≤ 120) = false := decide_eq_false (by omega)
    have R : Hid (valN n = false) := Lib.hid (decide_eq_false (by omega))
    go_enter Tryd.func45, Tryd.ntmps45
    go_wp2
    go_ret
    exact ⟨ret_bool R.out.symm, rfl⟩
theorem rKey_any {A : Option Addr} {n c : Nat} (w : World) : Calls Tryd.prog 15 #[.slice A n c] w fun e w' => e = .returned (.bool (keyN n)) ∧ w = w' := by
  by_cases h1 : 1 ≤ n
  · have d1 : decide ((1 : Int) ≤ (n : Int)) = true := decide_eq_true (by omega)
    have d1' : decide ((n : Int) ≥ 1) = true := decide_eq_true (by omega)
    by_cases h2 : n ≤ 40
    · have d2 : decide ((n : Int) ≤ 40) = true := decide_eq_true (by omega)
      have R : Hid (keyN n = true) := Lib.hid (decide_eq_true ⟨h1, h2⟩)
      go_enter Tryd.func15, Tryd.ntmps15
      go_wp2
      go_ret
      exact ⟨ret_bool R.out.symm, rfl⟩
    · have d2 : decide ((n : Int) ≤ 40) = false := decide_eq_false (by omega)
      have R : Hid (keyN n = false) := Lib.hid (decide_eq_false (by omega))
      go_enter Tryd.func15, Tryd.ntmps15
      go_wp2
      go_ret
      exact ⟨ret_bool R.out.symm, rfl⟩
  · obtain rfl : n = 0 := by omega
    go_enter Tryd.func15, Tryd.ntmps15
    go_wp2
    go_ret
    exact ⟨rfl, rfl⟩
theorem rValue_any {A : Option Addr} {n c : Nat} (w : World) : Calls Tryd.prog 24 #[.slice A n c] w fun e w' => e = .returned (.bool (valN n)) ∧ w = w' := by
  by_cases h2 : n ≤ 120
  · have d2 : decide ((n : Int) ≤ 120) = true := decide_eq_true (by omega)
    have R : Hid (valN n = true) := Lib.hid (decide_eq_true h2)
    go_enter Tryd.func24, Tryd.ntmps24
    go_wp2
    go_ret
    exact ⟨ret_bool R.out.symm, rfl⟩
  · have d2 : decide ((n : Int) ≤ 120) = false := decide_eq_false (by omega)
    have R : Hid (valN n = false) := Lib.hid (decide_eq_false (by omega))
    go_enter Tryd.func24, Tryd.ntmps24
    go_wp2
    go_ret
    exact ⟨ret_bool R.out.symm, rfl⟩
set_option maxHeartbeats 800000 in
theorem valid_any {A B : Option Addr} {n c m d : Nat} {del : Bool} (w : World) : Calls Tryd.prog 62 #[.agg #[.slice A n c, .slice B m d, .bool del]] w fun e w' => e = .returned (.bool (okN n m del)) ∧ Below w.heap.size w w' := by
  rw [okN_eq]
  obtain ⟨p, hp⟩ : ∃ p, w.heap.size = p := ⟨_, rfl⟩
  obtain ⟨W1, hW1⟩ : ∃ W1, w.alloc (.cells #[.slice A n c, .slice B m d, .bool del] 45) = W1 := ⟨_, rfl⟩
  have v1 : Below w.heap.size w W1 := hW1 ▸ bal _ _
  have X : Hid (Bx W1 p [.slice A n c, .slice B m d, .bool del]) := hW1 ▸ Lib.hid (Bx.put _ hp #[.slice A n c, .slice B m d, .bool del] 45)
  have TX : Hid (Ty W1 p 45) := hW1 ▸ hp ▸ Lib.hid (Ty.new _ _ _)
  have HW1 := Lib.hid hW1
  clear hW1
  have z0 := X.out.at_ 0 (by simp)
  have z1 := X.out.at_ 1 (by simp)
  have z2 := X.out.at_ 2 (by simp)
  simp only [List.getElem?_cons_succ, List.getElem?_cons_zero] at z0 z1 z2
  have K := Lib.hid (isKey_any (A := A) (n := n) (c := c) W1)
  have V := Lib.hid (isValue_any (A := B) (n := m) (c := d) W1)
  cases hk : keyN n with
  | false =>
    rw [hk] at K
    go_enter Tryd.func62, Tryd.ntmps62
    go_upto_region 1 with fail
    rw [HW1.out]
    go_wp2_with fail
    go_at_call 39
    refine K.out.mono ?_
    rintro e w' ⟨rfl, rfl⟩
    go_wp2_with fail
    go_ret
    exact ⟨rfl, v1⟩
  | true =>
    rw [hk] at K
    cases hv : valN m with
    | false =>
      rw [hv] at V
      go_enter Tryd.func62, Tryd.ntmps62
      go_upto_region 1 with fail
      rw [HW1.out]
      go_wp2_with fail
      go_at_call 39
      refine K.out.mono ?_
      rintro e w' ⟨rfl, rfl⟩
      go_wp2_with fail
      go_at_call 45
      refine V.out.mono ?_
      rintro e w' ⟨rfl, rfl⟩
      go_wp2_with fail
      go_ret
      exact ⟨rfl, v1⟩
    | true =>
      rw [hv] at V
      cases del with
      | false =>
        go_enter Tryd.func62, Tryd.ntmps62
        go_upto_region 1 with fail
        rw [HW1.out]
        go_wp2_with fail
        go_at_call 39
        refine K.out.mono ?_
        rintro e w' ⟨rfl, rfl⟩
        go_wp2_with fail
        go_at_call 45
        refine V.out.mono ?_
        rintro e w' ⟨rfl, rfl⟩
        go_wp2_with fail
        go_ret
        exact ⟨rfl, v1⟩
      | true =>
        have d0 : decide ((m : Int) = 0) = decide (m = 0) := decide_eq_decide.2 (by omega)
        go_enter Tryd.func62, Tryd.ntmps62
        go_upto_region 1 with fail
        rw [HW1.out]
        go_wp2_with fail
        go_at_call 39
        refine K.out.mono ?_
        rintro e w' ⟨rfl, rfl⟩
        go_wp2_with fail
        go_at_call 45
        refine V.out.mono ?_
        rintro e w' ⟨rfl, rfl⟩
        go_wp2_with fail
        go_ret
        exact ⟨ret_bool (by first | done | rfl | simpa using d0 | (simp; omega)), v1⟩
set_option maxHeartbeats 800000 in
theorem rValC_any {A B : Option Addr} {n c m d : Nat} {del : Bool} (w : World) : Calls Tryd.prog 34 #[.agg #[.slice A n c, .slice B m d, .bool del]] w fun e w' => e = .returned (.bool (okN n m del)) ∧ Below w.heap.size w w' := by
  rw [okN_eq]
  obtain ⟨p, hp⟩ : ∃ p, w.heap.size = p := ⟨_, rfl⟩
  obtain ⟨W1, hW1⟩ : ∃ W1, w.alloc (.cells #[.slice A n c, .slice B m d, .bool del] 45) = W1 := ⟨_, rfl⟩
  have v1 : Below w.heap.size w W1 := hW1 ▸ bal _ _
  have X : Hid (Bx W1 p [.slice A n c, .slice B m d, .bool del]) := hW1 ▸ Lib.hid (Bx.put _ hp #[.slice A n c, .slice B m d, .bool del] 45)
  have TX : Hid (Ty W1 p 45) := hW1 ▸ hp ▸ Lib.hid (Ty.new _ _ _)
  have HW1 := Lib.hid hW1
  clear hW1
  have z0 := X.out.at_ 0 (by simp)
  have z1 := X.out.at_ 1 (by simp)
  have z2 := X.out.at_ 2 (by simp)
  simp only [List.getElem?_cons_succ, List.getElem?_cons_zero] at z0 z1 z2
  have K := Lib.hid (rKey_any (A := A) (n := n) (c := c) W1)
  have V := Lib.hid (rValue_any (A := B) (n := m) (c := d) W1)
  cases hk : keyN n with
  | false =>
    rw [hk] at K
    go_enter Tryd.func34, Tryd.ntmps34
    go_upto_region 1 with fail
    rw [HW1.out]
    go_wp2_with fail
    go_at_call 15
    refine K.out.mono ?_
    rintro e w' ⟨rfl, rfl⟩
    go_wp2_with fail
    go_ret
    exact ⟨rfl, v1⟩
  | true =>
    rw [hk] at K
    cases hv : valN m with
    | false =>
      rw [hv] at V
      go_enter Tryd.func34, Tryd.ntmps34
      go_upto_region 1 with fail
      rw [HW1.out]
      go_wp2_with fail
      go_at_call 15
      refine K.out.mono ?_
      rintro e w' ⟨rfl, rfl⟩
      go_wp2_with fail
      go_at_call 24
      refine V.out.mono ?_
      rintro e w' ⟨rfl, rfl⟩
      go_wp2_with fail
      go_ret
      exact ⟨rfl, v1⟩
    | true =>
      rw [hv] at V
      cases del with
      | false =>
        go_enter Tryd.func34, Tryd.ntmps34
        go_upto_region 1 with fail
        rw [HW1.out]
        go_wp2_with fail
        go_at_call 15
        refine K.out.mono ?_
        rintro e w' ⟨rfl, rfl⟩
        go_wp2_with fail
        go_at_call 24
        refine V.out.mono ?_
        rintro e w' ⟨rfl, rfl⟩
        go_wp2_with fail
        go_ret
        exact ⟨rfl, v1⟩
      | true =>
        have d0 : decide ((m : Int) = 0) = decide (m = 0) := decide_eq_decide.2 (by omega)
        go_enter Tryd.func34, Tryd.ntmps34
        go_upto_region 1 with fail
        rw [HW1.out]
        go_wp2_with fail
        go_at_call 15
        refine K.out.mono ?_
        rintro e w' ⟨rfl, rfl⟩
        go_wp2_with fail
        go_at_call 24
        refine V.out.mono ?_
        rintro e w' ⟨rfl, rfl⟩
        go_wp2_with fail
        go_ret
        exact ⟨ret_bool (by first | done | rfl | simpa using d0 | (simp; omega)), v1⟩
end Go.Proofs.YtpmkohnljngbhaaDoor.Sr
