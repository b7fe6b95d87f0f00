/- Walks: the reference's Compare. -/
import Derived.Test.YtphiblmkgbkdmaaDoorPgR1
namespace Go.Proofs.YtphiblmkgbkdmaaDoor.Pg
set_option linter.unusedVariables false
set_option linter.unusedSimpArgs false
open Go.RowKit Wl

theorem cmp_at {a b : List UInt8} {x y : UInt8} {i : Nat} (hx : a[i]? = some x) (hy : b[i]? = some y) : cmpB (a.drop i) (b.drop i) = if x < y then -1 else if y < x then 1 else cmpB (a.drop (i + 1)) (b.drop (i + 1)) := by
  rw [drop_eq hx, drop_eq hy, cmpB_cons]
theorem cmp_end {a b : List UInt8} {i : Nat} (h : a.length ≤ i ∨ b.length ≤ i) (ha : i ≤ a.length) (hb : i ≤ b.length) : cmpB (a.drop i) (b.drop i) = if a.length < b.length then -1 else if b.length < a.length then 1 else 0 := by
  rcases Nat.lt_trichotomy a.length b.length with hl | hl | hl
  · rw [if_pos hl, List.drop_of_length_le (by omega : a.length ≤ i)]
    cases hd : b.drop i with
    | nil => have := congrArg List.length hd; simp at this; omega
    | cons y m => rfl
  · rw [if_neg (by omega), if_neg (by omega), List.drop_of_length_le (by omega : a.length ≤ i), List.drop_of_length_le (by omega : b.length ≤ i)]; rfl
  · rw [if_neg (by omega), if_pos hl, List.drop_of_length_le (by omega : b.length ≤ i)]
    cases hd : a.drop i with
    | nil => have := congrArg List.length hd; simp at this; omega
    | cons y m => rfl
theorem rd_byte {w : World} {A : Option Addr} {n c j : Nat} {l : List UInt8} (h : Rd w 1 A n c (bv l)) (hj : j < n) : ∃ g o x, A = some ⟨g, o, none⟩ ∧ g < w.heap.size ∧ l[j]? = some x ∧ w.cell? ⟨g, o + j, none⟩ = some (.int .u8 (x.toNat : Int)) := by
  obtain ⟨g, o, e, hb, hc⟩ := h.at_ (by omega)
  have hl := h.len
  rw [bv_len] at hl
  have hx : l[j]? = some (l[j]'(by omega)) := List.getElem?_eq_getElem (by omega)
  exact ⟨g, o, _, e, hb, hx, by rw [hc j (by omega), bv_get, hx]; rfl⟩
set_option maxRecDepth 20000 in
set_option maxHeartbeats 1600000 in
theorem rCompare_any {A B : Option Addr} {n c m d : Nat} {a b : List UInt8} (w : World) (h : Hid (Rd w 1 A n c (bv a))) (k : Hid (Rd w 1 B m d (bv b))) :
    Calls Tryd.prog 64 #[.slice A n c, .slice B m d] w fun e w' => e = .returned (.int .i64 (cmpB a b)) ∧ Below w.heap.size w w' := by
  have na : Hid (n = a.length) := Lib.hid (by have := h.out.len; rw [bv_len] at this; omega)
  have mb : Hid (m = b.length) := Lib.hid (by have := k.out.len; rw [bv_len] at this; omega)
  have nc := h.out.nc
  have n63 := h.out.c63
  have mc := k.out.nc
  have m63 := k.out.c63
  go_enter Tryd.func64, Tryd.ntmps64
  go_wp2_with fail
  go_loopw [5] (fun iv wr => ∃ i q : Nat, i ≤ n ∧ i ≤ m ∧ iv = .int .i64 i ∧ Hid (cmpB a b = cmpB (a.drop i) (b.drop i)) ∧ w.drewN q = wr) (fun iv _ => (n - intOf iv).toNat)
  case atStart => exact ⟨0, 0, by omega, by omega, rfl, Lib.hid rfl, rfl⟩
  case round =>
    obtain ⟨i, q, hi, hj, rfl, HC, rfl⟩ := hrel
    by_cases h1 : i < n
    · have d1 : decide ((i : Int) < (n : Int)) = true := decide_eq_true (by omega)
      by_cases h2 : i < m
      · have d2 : decide ((i : Int) < (m : Int)) = true := decide_eq_true (by omega)
        obtain ⟨ga, oa, x, rfl, hga, hx, ca⟩ := rd_byte h.out h1
        obtain ⟨gb, ob, y, rfl, hgb, hy, cb⟩ := rd_byte k.out h2
        have CM := Lib.hid (cmp_at hx hy)
        have LT1 : Hid ((x < y) = (x.toNat < y.toNat)) := Lib.hid (propext UInt8.lt_iff_toNat_lt)
        have LT2 : Hid ((y < x) = (y.toNat < x.toNat)) := Lib.hid (propext UInt8.lt_iff_toNat_lt)
        obtain ⟨X, hX⟩ : ∃ X : Int, (x.toNat : Int) = X := ⟨_, rfl⟩
        obtain ⟨Y, hY⟩ : ∃ Y : Int, (y.toNat : Int) = Y := ⟨_, rfl⟩
        rw [hX] at ca
        rw [hY] at cb
        have LT1 : Hid (x < y ↔ X < Y) := Lib.hid (by rw [LT1.out]; omega)
        have LT2 : Hid (y < x ↔ Y < X) := Lib.hid (by rw [LT2.out]; omega)
        clear hx hy hX hY
        by_cases h3 : X < Y
        · have e3 : decide (X < Y) = true := decide_eq_true h3
          have R : Hid (cmpB a b = -1) := Lib.hid (by rw [HC.out, CM.out, if_pos (LT1.out.2 h3)])
          clear h3
          go_wp2_with fail
          go_quiet (fail)
          go_wp2_with fail
          go_ret
          exact ⟨by rw [R.out]; first | done | rfl, bdrewN (bdrewN (Below.refl _ _))⟩
        · have e3 : decide (X < Y) = false := decide_eq_false h3
          have H3 := Lib.hid h3
          clear h3
          go_wp2_with fail
          go_quiet (fail)
          go_wp2_with fail
          by_cases h4 : Y < X
          · have e4 : decide (X > Y) = true := decide_eq_true h4
            have R : Hid (cmpB a b = 1) := Lib.hid (by rw [HC.out, CM.out, if_neg (mt LT1.out.1 (Int.not_lt.2 H3.out)), if_pos (LT2.out.2 h4)])
            clear h4
            go_quiet (fail)
            go_wp2_with fail
            go_ret
            exact ⟨by rw [R.out]; first | done | rfl, by first | exact bdrewN (bdrewN (Below.refl _ _)) | exact bdrewN (bdrewN (bdrewN (Below.refl _ _)))⟩
          · have e4 : decide (X > Y) = false := decide_eq_false h4
            have R : Hid (cmpB a b = cmpB (a.drop (i + 1)) (b.drop (i + 1))) := Lib.hid (by rw [HC.out, CM.out, if_neg (mt LT1.out.1 (Int.not_lt.2 H3.out)), if_neg (mt LT2.out.1 h4)])
            clear h4
            go_quiet (fail)
            go_wp2_with fail
            go_roundw
            case rel => exact ⟨i + 1, _, by omega, by omega, by go_num, R, by first | rfl | exact (World.drewN_drewN _ _ _).symm⟩
            case measure => simp [intOf]; omega
      · obtain rfl : i = m := by omega
        have d2 : decide ((i : Int) < (i : Int)) = false := decide_eq_false (by omega)
        have d3 : decide ((n : Int) < (i : Int)) = false := decide_eq_false (by omega)
        have d4 : decide ((n : Int) > (i : Int)) = true := decide_eq_true (by omega)
        have R : Hid (cmpB a b = 1) := Lib.hid (by rw [HC.out, cmp_end (.inr (by have := mb.out; omega)) (by have := na.out; omega) (by have := mb.out; omega), if_neg (by have := na.out; have := mb.out; omega), if_pos (by have := na.out; have := mb.out; omega)])
        go_wp2_with fail
        go_ret
        exact ⟨by rw [R.out]; first | done | rfl, bdrewN (Below.refl _ _)⟩
    · obtain rfl : i = n := by omega
      have d1 : decide ((i : Int) < (i : Int)) = false := decide_eq_false (by omega)
      by_cases h2 : i < m
      · have d3 : decide ((i : Int) < (m : Int)) = true := decide_eq_true (by omega)
        have R : Hid (cmpB a b = -1) := Lib.hid (by rw [HC.out, cmp_end (.inl (by have := na.out; omega)) (by have := na.out; omega) (by have := mb.out; omega), if_pos (by have := na.out; have := mb.out; omega)])
        go_wp2_with fail
        go_ret
        exact ⟨by rw [R.out]; first | done | rfl, bdrewN (Below.refl _ _)⟩
      · have d3 : decide ((i : Int) < (m : Int)) = false := decide_eq_false (by omega)
        have d4 : decide ((i : Int) > (m : Int)) = false := decide_eq_false (by omega)
        have R : Hid (cmpB a b = 0) := Lib.hid (by rw [HC.out, cmp_end (.inl (by have := na.out; omega)) (by have := na.out; omega) (by have := mb.out; omega), if_neg (by have := na.out; have := mb.out; omega), if_neg (by have := na.out; have := mb.out; omega)])
        go_wp2_with fail
        go_ret
        exact ⟨by rw [R.out]; first | done | rfl, bdrewN (Below.refl _ _)⟩
end Go.Proofs.YtphiblmkgbkdmaaDoor.Pg
