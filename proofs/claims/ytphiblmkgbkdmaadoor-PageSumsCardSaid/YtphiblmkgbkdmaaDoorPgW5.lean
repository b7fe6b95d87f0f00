/- Walks: lengths, New, shaped. -/
import Derived.Test.YtphiblmkgbkdmaaDoorPgF
import Derived.Test.YtphiblmkgbkdmaaDoorPgBox
namespace Go.Proofs.YtphiblmkgbkdmaaDoor.Pg
set_option linter.unusedVariables false
set_option linter.unusedSimpArgs false
open Go.RowKit Wl

theorem New_any (w : World) : Calls Tryd.prog 26 #[] w fun e w' => e = .returned (.agg #[.slice none 0 0, .int .i64 (-1), .slice none 0 0]) ∧ Below w.heap.size w w' := by
  go_enter Tryd.func26, Tryd.ntmps26
  go_wp2
  exact bodyPost_ret (v := .agg #[.slice none 0 0, .int .i64 (-1), .slice none 0 0]) (by simp [results, Tryd.results26, go_sem]) rfl ⟨rfl, bal _ _⟩
/-- Keys and values have permitted lengths. -/
def lenB (k v : Nat) : Bool := decide (1 ≤ k ∧ k ≤ 40 ∧ v ≤ 120)
theorem lengths_any {A B : Option Addr} {n c m d : Nat} (w : World) : Calls Tryd.prog 47 #[.slice A n c, .slice B m d] w fun e w' => e = .returned (.bool (lenB n m)) ∧ w = w' := by
  by_cases h1 : 1 ≤ n
  · have d1 : decide ((1 : Int) ≤ (n : Int)) = true := decide_eq_true (by omega)
    by_cases h2 : n ≤ 40
    · have d2 : decide ((n : Int) ≤ 40) = true := decide_eq_true (by omega)
      by_cases h3 : m ≤ 120
      · have R : Hid (true = lenB n m) := Lib.hid (decide_eq_true ⟨h1, h2, h3⟩).symm
        have d3 : decide ((m : Int) ≤ 120) = true := decide_eq_true (by omega)
        go_enter Tryd.func47, Tryd.ntmps47
        go_wp2
        go_ret
        exact ⟨ret_bool (by rw [← R.out]), rfl⟩
      · have R : Hid (false = lenB n m) := Lib.hid (decide_eq_false (by omega)).symm
        have d3 : decide ((m : Int) ≤ 120) = false := decide_eq_false (by omega)
        go_enter Tryd.func47, Tryd.ntmps47
        go_wp2
        go_ret
        exact ⟨ret_bool (by rw [← R.out]), rfl⟩
    · have R : Hid (false = lenB n m) := Lib.hid (decide_eq_false (by omega)).symm
      have d2 : decide ((n : Int) ≤ 40) = false := decide_eq_false (by omega)
      go_enter Tryd.func47, Tryd.ntmps47
      go_wp2
      go_ret
      exact ⟨ret_bool (by rw [← R.out]), rfl⟩
  · have R : Hid (false = lenB n m) := Lib.hid (decide_eq_false (by omega)).symm
    have d1 : decide ((1 : Int) ≤ (n : Int)) = false := decide_eq_false (by omega)
    go_enter Tryd.func47, Tryd.ntmps47
    go_wp2
    go_ret
    exact ⟨ret_bool (by rw [← R.out]), rfl⟩
theorem shaped1_any (x : PV) (w : World) : Calls Tryd.prog 66 #[x.v] w fun e w' => e = .returned (.bool (decide (x.d.length ≠ 256))) ∧ Below w.heap.size w w' := by
  show Calls Tryd.prog 66 #[.slice x.A x.d.length x.c] w _
  obtain ⟨n, hn⟩ : ∃ n, x.d.length = n := ⟨_, rfl⟩
  rw [hn]
  clear hn
  by_cases h : n = 256
  · subst h
    go_enter Tryd.func66, Tryd.ntmps66
    go_wp2
    go_ret
    exact ⟨rfl, Below.refl _ _⟩
  · have R : Hid (true = decide (n ≠ 256)) := Lib.hid (decide_eq_true h).symm
    have hi : ¬ (n : Int) = 256 := by omega
    go_enter Tryd.func66, Tryd.ntmps66
    go_wp2
    go_ret
    exact ⟨ret_bool (by rw [← R.out]; simp [hi]), Below.refl _ _⟩
def frAt (n : Nat) (root : Int) (l : List Int) (i : Nat) : Prop := ∀ x, l[i]? = some x → 0 ≤ x ∧ x < n ∧ (∀ y, 0 < i → l[i - 1]? = some y → y < x) ∧ x ≠ root
def ShPost (w : World) (F : Fi) (e : Ending) (w' : World) : Prop := ∃ b, e = .returned (.bool b) ∧ (b = true ↔ Shp F) ∧ Below w.heap.size w w'
theorem ShPost.no {w w' : World} {F : Fi} (h : ¬ Shp F) (hb : Below w.heap.size w w') : ShPost w F (.returned (.bool false)) w' := ⟨false, rfl, ⟨(fun e => by cases e), fun e => absurd e h⟩, hb⟩
theorem ShPost.yes {w w' : World} {F : Fi} (h : Shp F) (hb : Below w.heap.size w w') : ShPost w F (.returned (.bool true)) w' := ⟨true, rfl, ⟨fun _ => h, fun _ => rfl⟩, hb⟩
set_option maxHeartbeats 3200000 in
theorem shaped_in {PA FA : Option Addr} {n pc m fc : Nat} {ps : List PV} {root : Int} {fr : List Int} (w : World) (hp : Hid (Pr w PA n pc ps)) (hf : Hid (Rd w 1 FA m fc (iv fr))) :
    Calls Tryd.prog 45 #[.agg #[.slice PA n pc, .int .i64 root, .slice FA m fc]] w (ShPost w ⟨ps.map PV.d, root, fr⟩) := by
  have hpl := hp.out.len
  have hfl := hf.out.len
  rw [iv_len, Nat.mul_one] at hfl
  have hmc := hf.out.nc
  have hm63 := hf.out.c63
  have hnc := hp.out.row.nc
  have hn63 := hp.out.row.c63
  have HPL := Lib.hid hpl
  have HFL := Lib.hid hfl
  clear hpl hfl
  by_cases q1 : 4096 < n
  · have R : Hid (¬ Shp ⟨ps.map PV.d, root, fr⟩) := Lib.hid fun h => by have := h.n4; simp only [List.length_map] at this; have := HPL.out; omega
    have d1 : decide ((4096 : Int) < (n : Int)) = true := decide_eq_true (by omega)
    go_enter Tryd.func45, Tryd.ntmps45
    go_wp2_with fail
    go_ret
    exact ShPost.no R.out (bal _ _)
  have d1 : decide ((4096 : Int) < (n : Int)) = false := decide_eq_false (by omega)
  by_cases q2 : root < -1
  · have R : Hid (¬ Shp ⟨ps.map PV.d, root, fr⟩) := Lib.hid fun h => by have := h.r1; simp only at this; omega
    have d2 : decide (root < -1) = true := decide_eq_true (by omega)
    go_enter Tryd.func45, Tryd.ntmps45
    go_wp2_with fail
    go_ret
    exact ShPost.no R.out (bal _ _)
  have d2 : decide (root < -1) = false := decide_eq_false (by omega)
  by_cases q3 : (n : Int) ≤ root
  · have R : Hid (¬ Shp ⟨ps.map PV.d, root, fr⟩) := Lib.hid fun h => by have := h.r2; simp only [List.length_map] at this; have := HPL.out; omega
    have d3 : decide ((n : Int) ≤ root) = true := decide_eq_true (by omega)
    go_enter Tryd.func45, Tryd.ntmps45
    go_wp2_with fail
    go_ret
    exact ShPost.no R.out (bal _ _)
  have d3 : decide ((n : Int) ≤ root) = false := decide_eq_false (by omega)
  obtain ⟨W0, hW0⟩ : ∃ W0, w.alloc (.cells #[.slice PA n pc, .int .i64 root, .slice FA m fc] 30) = W0 := ⟨_, rfl⟩
  have hb0 : Below w.heap.size w W0 := hW0 ▸ bal _ _
  have hs0 : W0.heap.size = w.heap.size + 1 := by rw [← hW0]; simp
  have B0 : Hid (Bx W0 w.heap.size [.slice PA n pc, .int .i64 root, .slice FA m fc]) := Lib.hid (hW0 ▸ Bx.new w #[.slice PA n pc, .int .i64 root, .slice FA m fc] _)
  have HW0 := Lib.hid hW0
  clear hW0
  have hf := Lib.hid (Rd.below hf.out hb0)
  have hp := Lib.hid (hp.out.below hb0)
  have z0 := B0.out.at_ 0 (by simp)
  have z1 := B0.out.at_ 1 (by simp)
  have z2 := B0.out.at_ 2 (by simp)
  go_enter Tryd.func45, Tryd.ntmps45
  go_wp2_with fail
  rw [HW0.out]
  go_wp2_with fail
  go_at_call 14
  refine (shapes_any PV.v (fun x => decide (x.d.length ≠ 256)) W0 (Lib.hid hp.out.row) (Lib.hid fun U _ x _ => shaped1_any x U)).mono ?_
  rintro e w1 ⟨rfl, b1⟩
  have bw1 := hb0.trans (b1.mono hb0.size)
  by_cases q4 : (ps.any fun x => decide (x.d.length ≠ 256)) = true
  · have R : Hid (¬ Shp ⟨ps.map PV.d, root, fr⟩) := Lib.hid fun h => by
      obtain ⟨x, hx, h2⟩ := List.any_eq_true.1 q4
      exact of_decide_eq_true h2 (h.p256 x.d (List.mem_map.2 ⟨x, hx, rfl⟩))
    rw [q4]
    go_wp2_with fail
    go_ret
    exact ShPost.no R.out bw1
  have P256 : Hid (∀ p ∈ ps.map PV.d, p.length = 256) := Lib.hid fun p hp => by
    obtain ⟨x, hx, rfl⟩ := List.mem_map.1 hp
    exact Decidable.byContradiction fun h => q4 (List.any_eq_true.2 ⟨x, hx, decide_eq_true h⟩)
  have q4 : (ps.any fun x => decide (x.d.length ≠ 256)) = false := by simpa using q4
  rw [q4]
  clear q4
  have B1 := Lib.hid (B0.out.step b1)
  have hf := Lib.hid (Rd.below hf.out b1)
  have z0 := B1.out.at_ 0 (by simp)
  have z1 := B1.out.at_ 1 (by simp)
  have z2 := B1.out.at_ 2 (by simp)
  go_wp2_with fail
  go_loopw [30] (fun iv wr => ∃ j : Nat, j ≤ m ∧ iv = .int .i64 j ∧ w1 = wr ∧ Hid (∀ i, i < j → frAt n root fr i)) (fun iv _ => (m - intOf iv).toNat)
  case atStart => exact ⟨0, by omega, rfl, rfl, Lib.hid fun i hi => by omega⟩
  case round =>
    obtain ⟨j, hj, rfl, rfl, hpre⟩ := hrel
    by_cases hlt : j < m
    · obtain ⟨g, o, x, rfl, hg, hx, hc⟩ := Rd.at1 hf.out hlt
      have HX := Lib.hid hx
      clear hx
      have bad : Hid (¬ frAt n root fr j → ¬ Shp ⟨ps.map PV.d, root, fr⟩) := Lib.hid fun h1 h2 => h1 fun y hy => by
        have := h2.fr j y hy; rw [List.length_map, ← HPL.out] at this; exact this
      by_cases t1 : x < 0
      · have R : Hid (¬ Shp ⟨ps.map PV.d, root, fr⟩) := Lib.hid (bad.out fun h => by have := (h x HX.out).1; omega)
        have d1 : decide (x < 0) = true := decide_eq_true t1
        go_wp2_with fail
        go_ret
        exact ShPost.no R.out bw1
      have e1 : decide (x < 0) = false := decide_eq_false t1
      by_cases t2 : (n : Int) ≤ x
      · have R : Hid (¬ Shp ⟨ps.map PV.d, root, fr⟩) := Lib.hid (bad.out fun h => by have := (h x HX.out).2.1; omega)
        have e2 : decide ((n : Int) ≤ x) = true := decide_eq_true t2
        go_wp2_with fail
        go_ret
        exact ShPost.no R.out bw1
      have e2 : decide ((n : Int) ≤ x) = false := decide_eq_false t2
      by_cases t4 : x = root
      · have R : Hid (¬ Shp ⟨ps.map PV.d, root, fr⟩) := Lib.hid (bad.out fun h => (h x HX.out).2.2.2 t4)
        subst t4
        rcases j with _ | j
        · rw [Nat.add_zero] at hc
          go_wp2_with fail
          go_ret
          exact ShPost.no R.out bw1
        · obtain ⟨g', o', y, e', _, hy, hcy⟩ := Rd.at1 hf.out (show j < m by omega)
          injection e' with e'; injection e' with e' e''; subst e' e''
          clear hy
          by_cases t3 : x ≤ y
          · have e3 : decide (x ≤ y) = true := decide_eq_true t3
            go_wp2_with fail
            go_ret
            exact ShPost.no R.out bw1
          · have e3 : decide (x ≤ y) = false := decide_eq_false t3
            go_wp2_with fail
            go_ret
            exact ShPost.no R.out bw1
      · have e4 : decide (x = root) = false := decide_eq_false t4
        rcases j with _ | j
        · rw [Nat.add_zero] at hc
          have hpre2 : Hid (∀ i, i < 0 + 1 → frAt n root fr i) := Lib.hid fun i hi => by
            obtain rfl : i = 0 := by omega
            intro x' hx'
            rw [HX.out] at hx'; injection hx' with hx'; subst hx'
            exact ⟨by omega, by omega, fun _ h => by omega, t4⟩
          go_wp2_with fail
          go_roundw
          case rel => exact ⟨0 + 1, by omega, by first | trivial | go_num, by first | trivial | rfl, hpre2⟩
          case measure => simp [intOf]; omega
        · obtain ⟨g', o', y, e', _, hy, hcy⟩ := Rd.at1 hf.out (show j < m by omega)
          injection e' with e'; injection e' with e' e''; subst e' e''
          have HY := Lib.hid hy
          clear hy
          by_cases t3 : x ≤ y
          · have R : Hid (¬ Shp ⟨ps.map PV.d, root, fr⟩) := Lib.hid (bad.out fun h => by have := (h x HX.out).2.2.1 y (by omega) (by simpa using HY.out); omega)
            have e3 : decide (x ≤ y) = true := decide_eq_true t3
            go_wp2_with fail
            go_ret
            exact ShPost.no R.out bw1
          · have e3 : decide (x ≤ y) = false := decide_eq_false t3
            have hpre2 : Hid (∀ i, i < j + 1 + 1 → frAt n root fr i) := Lib.hid fun i hi => by
              by_cases hi' : i < j + 1
              · exact hpre.out i hi'
              obtain rfl : i = j + 1 := by omega
              intro x' hx'
              rw [HX.out] at hx'; injection hx' with hx'; subst hx'
              refine ⟨by omega, by omega, fun y' _ h => ?_, t4⟩
              have h : fr[j]? = some y' := by simpa using h
              rw [HY.out] at h; injection h with h; omega
            go_wp2_with fail
            go_roundw
            case rel => exact ⟨j + 1 + 1, by omega, by first | trivial | go_num, by first | trivial | rfl, hpre2⟩
            case measure => simp [intOf]; omega
    · obtain rfl : j = m := by omega
      have R : Hid (Shp ⟨ps.map PV.d, root, fr⟩) := Lib.hid ⟨by simp only [List.length_map]; have := HPL.out; omega, by simp only; omega, by simp only [List.length_map]; have := HPL.out; omega, P256.out, fun i x hx => by
        have h1 := (List.getElem?_eq_some_iff.1 hx).1
        have := hpre.out i (by have := HFL.out; simp only at h1; omega) x hx
        simp only [List.length_map]
        rw [← HPL.out]
        exact this⟩
      go_wp2_with fail
      go_ret
      exact ShPost.yes R.out bw1
theorem shaped_any (f : FV) (w : World) (h : Hid (Fl w f)) : Calls Tryd.prog 45 #[f.val] w (ShPost w f.f) := shaped_in w (Lib.hid h.out.pg) (Lib.hid h.out.fr)
end Go.Proofs.YtphiblmkgbkdmaaDoor.Pg
