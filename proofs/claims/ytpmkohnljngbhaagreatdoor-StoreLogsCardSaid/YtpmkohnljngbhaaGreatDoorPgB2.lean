/- Walks: lengths, New, shaped. -/
import Derived.Test.YtpmkohnljngbhaaGreatDoorPgB1
import Derived.Maps.OwnSet
import Derived.Maps.OwnOps
import Derived.Maps.Views
set_option linter.all false
namespace Go.Proofs.YtpmkohnljngbhaaGreatDoor.Pg
set_option linter.unusedVariables false
set_option linter.unusedSimpArgs false
set_option maxRecDepth 1000000
open Go.RowKit Wl

theorem New_any (w : World) : Calls Tryz.prog 61 #[] w fun e w' => e = .returned (.agg #[.slice none 0 0, .int .i64 (-1), .slice none 0 0]) ∧ Below w.heap.size w w' := by
  go_enter Tryz.func61, Tryz.ntmps61
  go_wp2
  exact bodyPost_ret (v := .agg #[.slice none 0 0, .int .i64 (-1), .slice none 0 0]) (by simp [results, Tryz.results61, go_sem]) rfl ⟨rfl, bal _ _⟩
/-- Keys and values have permitted lengths. -/
def lenB (k v : Nat) : Bool := decide (1 ≤ k ∧ k ≤ 40 ∧ v ≤ 120)
theorem lengths_any {A B : Option Addr} {n c m d : Nat} (w : World) : Calls Tryz.prog 67 #[.slice A n c, .slice B m d] w fun e w' => e = .returned (.bool (lenB n m)) ∧ w = w' := by
  by_cases h1 : 1 ≤ n
  · have d1 : decide ((1 : Int) ≤ (n : Int)) = true := decide_eq_true (by omega)
    by_cases h2 : n ≤ 40
    · have d2 : decide ((n : Int) ≤ 40) = true := decide_eq_true (by omega)
      by_cases h3 : m ≤ 120
      · have R : Hid (true = lenB n m) := Lib.hid (decide_eq_true ⟨h1, h2, h3⟩).symm
        have d3 : decide ((m : Int) ≤ 120) = true := decide_eq_true (by omega)
        go_enter Tryz.func67, Tryz.ntmps67
        go_wp2
        go_ret
        exact ⟨ret_bool (by rw [← R.out]), rfl⟩
      · have R : Hid (false = lenB n m) := Lib.hid (decide_eq_false (by omega)).symm
        have d3 : decide ((m : Int) ≤ 120) = false := decide_eq_false (by omega)
        go_enter Tryz.func67, Tryz.ntmps67
        go_wp2
        go_ret
        exact ⟨ret_bool (by rw [← R.out]), rfl⟩
    · have R : Hid (false = lenB n m) := Lib.hid (decide_eq_false (by omega)).symm
      have d2 : decide ((n : Int) ≤ 40) = false := decide_eq_false (by omega)
      go_enter Tryz.func67, Tryz.ntmps67
      go_wp2
      go_ret
      exact ⟨ret_bool (by rw [← R.out]), rfl⟩
  · have R : Hid (false = lenB n m) := Lib.hid (decide_eq_false (by omega)).symm
    have d1 : decide ((1 : Int) ≤ (n : Int)) = false := decide_eq_false (by omega)
    go_enter Tryz.func67, Tryz.ntmps67
    go_wp2
    go_ret
    exact ⟨ret_bool (by rw [← R.out]), rfl⟩
theorem shaped1_any (x : PV) (w : World) : Calls Tryz.prog 82 #[x.v] w fun e w' => e = .returned (.bool (decide (x.d.length ≠ 256))) ∧ Below w.heap.size w w' := by
  show Calls Tryz.prog 82 #[.slice x.A x.d.length x.c] w _
  obtain ⟨n, hn⟩ : ∃ n, x.d.length = n := ⟨_, rfl⟩
  rw [hn]
  clear hn
  by_cases h : n = 256
  · subst h
    go_enter Tryz.func82, Tryz.ntmps82
    go_wp2
    go_ret
    exact ⟨rfl, Below.refl _ _⟩
  · have R : Hid (true = decide (n ≠ 256)) := Lib.hid (decide_eq_true h).symm
    have hi : ¬ (n : Int) = 256 := by omega
    go_enter Tryz.func82, Tryz.ntmps82
    go_wp2
    go_ret
    exact ⟨ret_bool (by rw [← R.out]; simp [hi]), Below.refl _ _⟩
def frAt (n : Nat) (root : Int) (l : List Int) (i : Nat) : Prop := ∀ x, l[i]? = some x → 0 ≤ x ∧ x < n ∧ (∀ y, 0 < i → l[i - 1]? = some y → y < x) ∧ x ≠ root
def ShPost (w : World) (F : Fi) (e : Ending) (w' : World) : Prop := ∃ b, e = .returned (.bool b) ∧ (b = true ↔ Shp F) ∧ Below w.heap.size w w'
theorem ShPost.no {w w' : World} {F : Fi} (h : ¬ Shp F) (hb : Below w.heap.size w w') : ShPost w F (.returned (.bool false)) w' := ⟨false, rfl, ⟨(fun e => by cases e), fun e => absurd e h⟩, hb⟩
theorem ShPost.yes {w w' : World} {F : Fi} (h : Shp F) (hb : Below w.heap.size w w') : ShPost w F (.returned (.bool true)) w' := ⟨true, rfl, ⟨fun _ => h, fun _ => rfl⟩, hb⟩
set_option maxHeartbeats 3200000 in
theorem shaped_in {PA FA : Option Addr} {n pc m fc : Nat} {ps : List PV} {root : Int} {fr : List Int} (w : World) (hp : Hid (Pr w PA n pc ps)) (hf : Hid (Rd w 1 FA m fc (iv fr))) :
    Calls Tryz.prog 45 #[.agg #[.slice PA n pc, .int .i64 root, .slice FA m fc]] w (ShPost w ⟨ps.map PV.d, root, fr⟩) := by
  have hpl := hp.out.len
  have hfl := hf.out.len
  rw [iv_len, Nat.mul_one] at hfl
  have hmc := hf.out.nc
  have hm63 := hf.out.c63
  have hnc := hp.out.row.nc
  have hn63 := hp.out.row.c63
  have HPL := Lib.hid hpl
  have HFL := Lib.hid hfl
  clear hpl hfl
  by_cases q1 : 4096 < n
  · have R : Hid (¬ Shp ⟨ps.map PV.d, root, fr⟩) := Lib.hid fun h => by have := h.n4; simp only [List.length_map] at this; have := HPL.out; omega
    have d1 : decide ((4096 : Int) < (n : Int)) = true := decide_eq_true (by omega)
    go_enter Tryz.func45, Tryz.ntmps45
    go_wp2_with fail
    go_ret
    exact ShPost.no R.out (bal _ _)
  have d1 : decide ((4096 : Int) < (n : Int)) = false := decide_eq_false (by omega)
  by_cases q2 : root < -1
  · have R : Hid (¬ Shp ⟨ps.map PV.d, root, fr⟩) := Lib.hid fun h => by have := h.r1; simp only at this; omega
    have d2 : decide (root < -1) = true := decide_eq_true (by omega)
    go_enter Tryz.func45, Tryz.ntmps45
    go_wp2_with fail
    go_ret
    exact ShPost.no R.out (bal _ _)
  have d2 : decide (root < -1) = false := decide_eq_false (by omega)
  by_cases q3 : (n : Int) ≤ root
  · have R : Hid (¬ Shp ⟨ps.map PV.d, root, fr⟩) := Lib.hid fun h => by have := h.r2; simp only [List.length_map] at this; have := HPL.out; omega
    have d3 : decide ((n : Int) ≤ root) = true := decide_eq_true (by omega)
    go_enter Tryz.func45, Tryz.ntmps45
    go_wp2_with fail
    go_ret
    exact ShPost.no R.out (bal _ _)
  have d3 : decide ((n : Int) ≤ root) = false := decide_eq_false (by omega)
  obtain ⟨W0, hW0⟩ : ∃ W0, w.alloc (.cells #[.slice PA n pc, .int .i64 root, .slice FA m fc] 29) = W0 := ⟨_, rfl⟩
  have hb0 : Below w.heap.size w W0 := hW0 ▸ bal _ _
  have hs0 : W0.heap.size = w.heap.size + 1 := by rw [← hW0]; simp
  have B0 : Hid (Bx W0 w.heap.size [.slice PA n pc, .int .i64 root, .slice FA m fc]) := Lib.hid (hW0 ▸ Bx.new w #[.slice PA n pc, .int .i64 root, .slice FA m fc] _)
  have HW0 := Lib.hid hW0
  clear hW0
  have hf := Lib.hid (Rd.below hf.out hb0)
  have hp := Lib.hid (hp.out.below hb0)
  have z0 := B0.out.at_ 0 (by simp)
  have z1 := B0.out.at_ 1 (by simp)
  have z2 := B0.out.at_ 2 (by simp)
  go_enter Tryz.func45, Tryz.ntmps45
  go_wp2_with fail
  rw [HW0.out]
  go_wp2_with fail
  go_at_call 81
  refine (shapes_any PV.v (fun x => decide (x.d.length ≠ 256)) W0 (Lib.hid hp.out.row) (Lib.hid fun U _ x _ => shaped1_any x U)).mono ?_
  rintro e w1 ⟨rfl, b1⟩
  have bw1 := hb0.trans (b1.mono hb0.size)
  by_cases q4 : (ps.any fun x => decide (x.d.length ≠ 256)) = true
  · have R : Hid (¬ Shp ⟨ps.map PV.d, root, fr⟩) := Lib.hid fun h => by
      obtain ⟨x, hx, h2⟩ := List.any_eq_true.1 q4
      exact of_decide_eq_true h2 (h.p256 x.d (List.mem_map.2 ⟨x, hx, rfl⟩))
    rw [q4]
    go_wp2_with fail
    go_ret
    exact ShPost.no R.out bw1
  have P256 : Hid (∀ p ∈ ps.map PV.d, p.length = 256) := Lib.hid fun p hp => by
    obtain ⟨x, hx, rfl⟩ := List.mem_map.1 hp
    exact Decidable.byContradiction fun h => q4 (List.any_eq_true.2 ⟨x, hx, decide_eq_true h⟩)
  have q4 : (ps.any fun x => decide (x.d.length ≠ 256)) = false := by simpa using q4
  rw [q4]
  clear q4
  have B1 := Lib.hid (B0.out.step b1)
  have hf := Lib.hid (Rd.below hf.out b1)
  have z0 := B1.out.at_ 0 (by simp)
  have z1 := B1.out.at_ 1 (by simp)
  have z2 := B1.out.at_ 2 (by simp)
  go_wp2_with fail
  go_loopw [30] (fun iv wr => ∃ j : Nat, j ≤ m ∧ iv = .int .i64 j ∧ w1 = wr ∧ Hid (∀ i, i < j → frAt n root fr i)) (fun iv _ => (m - intOf iv).toNat)
  case atStart => exact ⟨0, by omega, rfl, rfl, Lib.hid fun i hi => by omega⟩
  case round =>
    obtain ⟨j, hj, rfl, rfl, hpre⟩ := hrel
    by_cases hlt : j < m
    · obtain ⟨g, o, x, rfl, hg, hx, hc⟩ := Rd.at1 hf.out hlt
      have HX := Lib.hid hx
      clear hx
      have bad : Hid (¬ frAt n root fr j → ¬ Shp ⟨ps.map PV.d, root, fr⟩) := Lib.hid fun h1 h2 => h1 fun y hy => by
        have := h2.fr j y hy; rw [List.length_map, ← HPL.out] at this; exact this
      by_cases t1 : x < 0
      · have R : Hid (¬ Shp ⟨ps.map PV.d, root, fr⟩) := Lib.hid (bad.out fun h => by have := (h x HX.out).1; omega)
        have d1 : decide (x < 0) = true := decide_eq_true t1
        go_wp2_with fail
        go_ret
        exact ShPost.no R.out bw1
      have e1 : decide (x < 0) = false := decide_eq_false t1
      by_cases t2 : (n : Int) ≤ x
      · have R : Hid (¬ Shp ⟨ps.map PV.d, root, fr⟩) := Lib.hid (bad.out fun h => by have := (h x HX.out).2.1; omega)
        have e2 : decide ((n : Int) ≤ x) = true := decide_eq_true t2
        go_wp2_with fail
        go_ret
        exact ShPost.no R.out bw1
      have e2 : decide ((n : Int) ≤ x) = false := decide_eq_false t2
      by_cases t4 : x = root
      · have R : Hid (¬ Shp ⟨ps.map PV.d, root, fr⟩) := Lib.hid (bad.out fun h => (h x HX.out).2.2.2 t4)
        subst t4
        rcases j with _ | j
        · rw [Nat.add_zero] at hc
          go_wp2_with fail
          go_ret
          exact ShPost.no R.out bw1
        · obtain ⟨g', o', y, e', _, hy, hcy⟩ := Rd.at1 hf.out (show j < m by omega)
          injection e' with e'; injection e' with e' e''; subst e' e''
          clear hy
          by_cases t3 : x ≤ y
          · have e3 : decide (x ≤ y) = true := decide_eq_true t3
            go_wp2_with fail
            go_ret
            exact ShPost.no R.out bw1
          · have e3 : decide (x ≤ y) = false := decide_eq_false t3
            go_wp2_with fail
            go_ret
            exact ShPost.no R.out bw1
      · have e4 : decide (x = root) = false := decide_eq_false t4
        rcases j with _ | j
        · rw [Nat.add_zero] at hc
          have hpre2 : Hid (∀ i, i < 0 + 1 → frAt n root fr i) := Lib.hid fun i hi => by
            obtain rfl : i = 0 := by omega
            intro x' hx'
            rw [HX.out] at hx'; injection hx' with hx'; subst hx'
            exact ⟨by omega, by omega, fun _ h => by omega, t4⟩
          go_wp2_with fail
          go_roundw
          case rel => exact ⟨0 + 1, by omega, by first | trivial | go_num, by first | trivial | rfl, hpre2⟩
          case measure => simp [intOf]; omega
        · obtain ⟨g', o', y, e', _, hy, hcy⟩ := Rd.at1 hf.out (show j < m by omega)
          injection e' with e'; injection e' with e' e''; subst e' e''
          have HY := Lib.hid hy
          clear hy
          by_cases t3 : x ≤ y
          · have R : Hid (¬ Shp ⟨ps.map PV.d, root, fr⟩) := Lib.hid (bad.out fun h => by have := (h x HX.out).2.2.1 y (by omega) (by simpa using HY.out); omega)
            have e3 : decide (x ≤ y) = true := decide_eq_true t3
            go_wp2_with fail
            go_ret
            exact ShPost.no R.out bw1
          · have e3 : decide (x ≤ y) = false := decide_eq_false t3
            have hpre2 : Hid (∀ i, i < j + 1 + 1 → frAt n root fr i) := Lib.hid fun i hi => by
              by_cases hi' : i < j + 1
              · exact hpre.out i hi'
              obtain rfl : i = j + 1 := by omega
              intro x' hx'
              rw [HX.out] at hx'; injection hx' with hx'; subst hx'
              refine ⟨by omega, by omega, fun y' _ h => ?_, t4⟩
              have h : fr[j]? = some y' := by simpa using h
              rw [HY.out] at h; injection h with h; omega
            go_wp2_with fail
            go_roundw
            case rel => exact ⟨j + 1 + 1, by omega, by first | trivial | go_num, by first | trivial | rfl, hpre2⟩
            case measure => simp [intOf]; omega
    · obtain rfl : j = m := by omega
      have R : Hid (Shp ⟨ps.map PV.d, root, fr⟩) := Lib.hid ⟨by simp only [List.length_map]; have := HPL.out; omega, by simp only; omega, by simp only [List.length_map]; have := HPL.out; omega, P256.out, fun i x hx => by
        have h1 := (List.getElem?_eq_some_iff.1 hx).1
        have := hpre.out i (by have := HFL.out; simp only at h1; omega) x hx
        simp only [List.length_map]
        rw [← HPL.out]
        exact this⟩
      go_wp2_with fail
      go_ret
      exact ShPost.yes R.out bw1
theorem shaped_any (f : FV) (w : World) (h : Hid (Fl w f)) : Calls Tryz.prog 45 #[f.val] w (ShPost w f.f) := shaped_in w (Lib.hid h.out.pg) (Lib.hid h.out.fr)
end Go.Proofs.YtpmkohnljngbhaaGreatDoor.Pg
/- Walks: the two binary searches. -/
namespace Go.Proofs.YtpmkohnljngbhaaGreatDoor.Pg
set_option maxRecDepth 1000000
open Go.RowKit Wl

theorem half (a b : Nat) : (((a : Int) + b) / 2).toNat = (a + b) / 2 := by omega
def BsPost (w : World) (l : List Int) (x : Int) (e : Ending) (w' : World) : Prop := ∃ (i : Int) (b : Bool), e = .returned (.tuple #[.int .i64 i, .bool b]) ∧ (b = true ↔ x ∈ l) ∧ w = w'
theorem at_lt {l : List Int} (h : l.Pairwise (· < ·)) {i j : Nat} {x y : Int} (hx : l[i]? = some x) (hy : l[j]? = some y) (hij : i < j) : x < y := by
  obtain ⟨h1, rfl⟩ := List.getElem?_eq_some_iff.1 hx
  obtain ⟨h2, rfl⟩ := List.getElem?_eq_some_iff.1 hy
  exact List.pairwise_iff_getElem.1 h i j h1 h2 hij
set_option maxHeartbeats 1600000 in
theorem bsearch_any {A : Option Addr} {n c : Nat} {l : List Int} (x : Int) (w : World) (h : Hid (Rd w 1 A n c (iv l))) (hs : Hid (l.Pairwise (· < ·))) (hn : n ≤ 1000000) :
    Calls Tryz.prog 84 #[.slice A n c, .int .i64 x] w (BsPost w l x) := by
  have hc := h.out.nc
  have hc63 := h.out.c63
  have hl := h.out.len
  rw [iv_len, Nat.mul_one] at hl
  have HL := Lib.hid hl
  clear hl
  go_enter Tryz.func84, Tryz.ntmps84
  go_wp2
  go_loopw [7, 8] (fun iv jv wr => ∃ a b : Nat, a ≤ b ∧ b ≤ n ∧ iv = .int .i64 a ∧ jv = .int .i64 b ∧ w = wr ∧ Hid (∀ (j : Nat) (y : Int), j < a → l[j]? = some y → y < x) ∧ Hid (∀ (j : Nat) (y : Int), b ≤ j → l[j]? = some y → x ≤ y)) (fun iv jv _ => (intOf jv - intOf iv).toNat)
  case atStart => exact ⟨0, n, by omega, by omega, rfl, rfl, rfl, Lib.hid fun j y hj => by omega, Lib.hid fun j y hj hy => by have := (List.getElem?_eq_some_iff.1 hy).1; have := HL.out; omega⟩
  case round =>
    obtain ⟨a, b, hab, hbn, rfl, rfl, rfl, lo, hi⟩ := hrel
    by_cases hlt : a < b
    · obtain ⟨m, hm⟩ : ∃ m, (a + b) / 2 = m := ⟨_, rfl⟩
      have hm1 : a ≤ m := by omega
      have hm2 : m < b := by omega
      have hmI : ((a : Int) + (b : Int)) / 2 = (m : Int) := by omega
      have hw1 : IntKind.u64.wrap ((a : Int) + (b : Int)) = (a : Int) + b := by simp [IntKind.wrap, IntKind.bits, IntKind.signed]; omega
      obtain ⟨g, o, y, rfl, hg, hy, hcell⟩ := Rd.at1 h.out (show m < n by omega)
      have HY := Lib.hid hy
      clear hy hm
      by_cases hyx : y < x
      · have lo2 : Hid (∀ (j : Nat) (z : Int), j < m + 1 → l[j]? = some z → z < x) := Lib.hid fun j z hj hz => by
          rcases Nat.lt_or_ge j m with h1 | h1
          · have := at_lt hs.out hz HY.out h1; omega
          · obtain rfl : j = m := by omega
            rw [HY.out] at hz; injection hz with hz; omega
        go_wp2
        go_roundw
        case rel => exact ⟨m + 1, b, by omega, by omega, by go_num, by first | trivial | rfl, by first | trivial | rfl, lo2, hi⟩
        case measure => simp [intOf]; omega
      · have hi2 : Hid (∀ (j : Nat) (z : Int), m ≤ j → l[j]? = some z → x ≤ z) := Lib.hid fun j z hj hz => by
          rcases Nat.lt_or_ge m j with h1 | h1
          · have := at_lt hs.out HY.out hz h1; omega
          · obtain rfl : m = j := by omega
            rw [HY.out] at hz; injection hz with hz; omega
        go_wp2
        go_roundw
        case rel => exact ⟨a, m, by omega, by omega, by first | trivial | rfl, by go_num, by first | trivial | rfl, lo, hi2⟩
        case measure => simp [intOf]; omega
    · obtain rfl : a = b := by omega
      by_cases ha : a < n
      · obtain ⟨g, o, y, rfl, hg, hy, hcell⟩ := Rd.at1 h.out ha
        have HY := Lib.hid hy
        clear hy
        by_cases hyx : y = x
        · have e2 : decide ((a : Int) < (n : Int)) = true := decide_eq_true (by omega)
          subst hyx
          go_wp2
          go_ret2
          exact ⟨_, true, rfl, ⟨fun _ => List.mem_of_getElem? HY.out, fun _ => rfl⟩, rfl⟩
        · have R : Hid ((false = true) ↔ x ∈ l) := Lib.hid ⟨fun e => (by cases e), fun hx => by
            exfalso
            obtain ⟨j, hj⟩ := List.mem_iff_getElem?.1 hx
            rcases Nat.lt_or_ge j a with h1 | h1
            · have := lo.out j x h1 hj; omega
            · have h2 := hi.out a y (Nat.le_refl _) HY.out
              rcases Nat.lt_or_ge a j with h3 | h3
              · have := at_lt hs.out HY.out hj h3; omega
              · obtain rfl : a = j := by omega
                rw [HY.out] at hj; injection hj with hj; exact hyx hj⟩
          have e1 : (y == x) = false := by simpa using hyx
          have e2 : decide ((a : Int) < (n : Int)) = true := decide_eq_true (by omega)
          go_wp2
          go_ret2
          exact ⟨_, false, rfl, R.out, rfl⟩
      · obtain rfl : a = n := by omega
        have R : Hid ((false = true) ↔ x ∈ l) := Lib.hid ⟨fun e => (by cases e), fun hx => by
          exfalso
          obtain ⟨j, hj⟩ := List.mem_iff_getElem?.1 hx
          have h1 := (List.getElem?_eq_some_iff.1 hj).1
          have := lo.out j x (by have := HL.out; omega) hj
          omega⟩
        have e2 : decide ((a : Int) < (a : Int)) = false := decide_eq_false (by omega)
        go_wp2
        go_ret2
        exact ⟨_, false, rfl, R.out, rfl⟩
/-- A row of items, with their bytes. -/
structure Iw (w : World) (A : Option Addr) (n c : Nat) (l : List IV) : Prop where
  row : Rd w 3 A n c (ic l)
  dat : ∀ x ∈ l, Rd w 1 x.kA x.k.length x.kc (bv x.k) ∧ Rd w 1 x.vA x.v.length x.vc (bv x.v)
theorem Iw.below {w w' : World} {A : Option Addr} {n c : Nat} {l : List IV} (h : Iw w A n c l) (hb : Below w.heap.size w w') : Iw w' A n c l := ⟨h.row.below hb, fun x hx => ⟨(h.dat x hx).1.below hb, (h.dat x hx).2.below hb⟩⟩
theorem Ir.iw {w : World} {base n c : Nat} {A : Option Addr} {l : List IV} (h : Ir w base A n c l) : Iw w A n c l := ⟨h.row, fun x hx => ⟨(h.dat x hx).k.rd, (h.dat x hx).v.rd⟩⟩
theorem search1_any {K : Option Addr} {m kc : Nat} {key : List UInt8} (x : IV) (w : World) (hx : Hid (Rd w 1 x.kA x.k.length x.kc (bv x.k))) (hk : Hid (Rd w 1 K m kc (bv key))) :
    Calls Tryz.prog 119 #[.agg #[.slice x.kA x.k.length x.kc, .slice x.vA x.v.length x.vc, .int .i64 (x.ch : Int)], .slice K m kc] w fun e w' => e = .returned (.int .i64 (cmpB x.k key)) ∧ Below w.heap.size w w' := by
  have h1 := Lib.hid (hx.out.alloc (.cells #[.slice x.kA x.k.length x.kc, .slice x.vA x.v.length x.vc, .int .i64 (x.ch : Int)] 96))
  have h2 := Lib.hid (hk.out.alloc (.cells #[.slice x.kA x.k.length x.kc, .slice x.vA x.v.length x.vc, .int .i64 (x.ch : Int)] 96))
  go_enter Tryz.func119, Tryz.ntmps119
  go_wp2_with fail
  go_at_call 47
  refine (Compare_any _ h1 h2).mono ?_
  rintro e w1 ⟨rfl, rfl⟩
  go_wp2_with fail
  go_ret
  exact ⟨rfl, bal _ _⟩
def SePost (w : World) (l : List It) (key : List UInt8) (e : Ending) (w' : World) : Prop := ∃ (i : Nat) (b : Bool), e = .returned (.tuple #[.int .i64 (i : Int), .bool b]) ∧ Plc l key i b ∧ Below w.heap.size w w'
set_option maxHeartbeats 1600000 in
theorem bfunc_any {A K : Option Addr} {n c m kc : Nat} {l : List IV} {key : List UInt8} (w : World) (h : Hid (Iw w A n c l)) (hk : Hid (Rd w 1 K m kc (bv key))) (hs : Hid (Srt (its l))) (hn : n ≤ 1000000) :
    Calls Tryz.prog 118 #[.slice A n c, .slice K m kc, .func (.func 119) #[] #[]] w (SePost w (its l) key) := by
  have hc := h.out.row.nc
  have hc63 := h.out.row.c63
  have HL : Hid (n = (its l).length) := Lib.hid (by rw [its_len]; exact len3 h.out.row)
  have GET : Hid (∀ (i : Nat) (x : IV), l[i]? = some x → (its l)[i]? = some x.it) := Lib.hid fun i x hx => by unfold its; rw [List.getElem?_map, hx]; rfl
  go_enter Tryz.func118, Tryz.ntmps118
  go_wp2_with fail
  go_loopw [9, 10] (fun iv jv wr => ∃ a b : Nat, a ≤ b ∧ b ≤ n ∧ iv = .int .i64 a ∧ jv = .int .i64 b ∧ Below w.heap.size w wr ∧ Hid (∀ (j : Nat) (y : It), j < a → (its l)[j]? = some y → cmpB y.k key < 0) ∧ Hid (∀ (j : Nat) (y : It), b ≤ j → (its l)[j]? = some y → 0 ≤ cmpB y.k key)) (fun iv jv _ => (intOf jv - intOf iv).toNat)
  case atStart => exact ⟨0, n, by omega, by omega, rfl, rfl, Below.refl _ _, Lib.hid fun j y hj => by omega, Lib.hid fun j y hj hy => by have := (List.getElem?_eq_some_iff.1 hy).1; have := HL.out; omega⟩
  case round =>
    obtain ⟨a, b, hab, hbn, rfl, rfl, bw, lo, hi⟩ := hrel
    by_cases hlt : a < b
    · obtain ⟨q, hq⟩ : ∃ q, (a + b) / 2 = q := ⟨_, rfl⟩
      have hq1 : a ≤ q := by omega
      have hq2 : q < b := by omega
      have hqI : ((a : Int) + (b : Int)) / 2 = (q : Int) := by omega
      have hw1 : IntKind.u64.wrap ((a : Int) + (b : Int)) = (a : Int) + b := by simp [IntKind.wrap, IntKind.bits, IntKind.signed]; omega
      have hI := Lib.hid (h.out.below bw)
      obtain ⟨g, o, x, rfl, hg, hx, c0, c1, c2⟩ := Rd.item hI.out.row (show q < n by omega)
      have HX := Lib.hid (GET.out q x hx)
      have HD := Lib.hid (hI.out.dat x (List.mem_of_getElem? hx)).1
      have HK := Lib.hid (Rd.below hk.out bw)
      clear hx hq
      simp only [IV.kv, IV.vv] at c0 c1 c2
      go_wp2_with fail
      go_at_call 119
      refine (search1_any x _ HD HK).mono ?_
      rintro e w1 ⟨rfl, b1⟩
      have bw1 := bw.trans (b1.mono bw.size)
      by_cases hyx : cmpB x.k key < 0
      · have lo2 : Hid (∀ (j : Nat) (z : It), j < q + 1 → (its l)[j]? = some z → cmpB z.k key < 0) := Lib.hid (hs.out.below HX.out hyx)
        go_wp2_with fail
        go_roundw
        case rel => exact ⟨q + 1, b, by omega, by omega, by go_num, rfl, bw1, lo2, hi⟩
        case measure => simp [intOf]; omega
      · have hi2 : Hid (∀ (j : Nat) (z : It), q ≤ j → (its l)[j]? = some z → 0 ≤ cmpB z.k key) := Lib.hid (hs.out.above HX.out hyx)
        go_wp2_with fail
        go_roundw
        case rel => exact ⟨a, q, by omega, by omega, rfl, by go_num, bw1, lo, hi2⟩
        case measure => simp [intOf]; omega
    · obtain rfl : a = b := by omega
      by_cases ha : a < n
      · have hI := Lib.hid (h.out.below bw)
        obtain ⟨g, o, x, rfl, hg, hx, c0, c1, c2⟩ := Rd.item hI.out.row ha
        have HX := Lib.hid (GET.out a x hx)
        have HD := Lib.hid (hI.out.dat x (List.mem_of_getElem? hx)).1
        have HK := Lib.hid (Rd.below hk.out bw)
        clear hx
        simp only [IV.kv, IV.vv] at c0 c1 c2
        have e2 : decide ((a : Int) < (n : Int)) = true := decide_eq_true (by omega)
        go_wp2_with fail
        go_at_call 119
        refine (search1_any x _ HD HK).mono ?_
        rintro e w1 ⟨rfl, b1⟩
        have bw1 := bw.trans (b1.mono bw.size)
        have P : Hid (Plc (its l) key a (decide (cmpB x.k key = 0))) := Lib.hid ⟨by have := HL.out; omega, lo.out, hi.out, by
          rw [decide_eq_true_iff, cmpB_eq]
          exact ⟨fun e => ⟨x.it, HX.out, e⟩, fun ⟨y, hy, e⟩ => by rw [HX.out] at hy; injection hy with hy; subst hy; exact e⟩⟩
        by_cases hz : cmpB x.k key = 0
        · rw [decide_eq_true hz] at P
          rw [hz]
          clear hz
          go_wp2_with fail
          go_ret2
          exact ⟨a, true, rfl, P.out, bw1⟩
        · rw [decide_eq_false hz] at P
          have e3 : (cmpB x.k key == 0) = false := by simpa using hz
          go_wp2_with fail
          go_ret2
          exact ⟨a, false, rfl, P.out, bw1⟩
      · obtain rfl : a = n := by omega
        have P : Hid (Plc (its l) key a false) := Lib.hid ⟨by have := HL.out; omega, lo.out, hi.out, ⟨fun e => (by cases e), fun ⟨y, hy, e⟩ => by
          have h1 := (List.getElem?_eq_some_iff.1 hy).1
          have := HL.out; omega⟩⟩
        have e2 : decide ((a : Int) < (a : Int)) = false := decide_eq_false (by omega)
        go_wp2_with fail
        go_ret2
        exact ⟨a, false, rfl, P.out, bw⟩
theorem search_any {A K : Option Addr} {n c m kc : Nat} {l : List IV} {key : List UInt8} (w : World) (h : Hid (Iw w A n c l)) (hk : Hid (Rd w 1 K m kc (bv key))) (hs : Hid (Srt (its l))) (hn : n ≤ 1000000) :
    Calls Tryz.prog 95 #[.slice A n c, .slice K m kc] w (SePost w (its l) key) := by
  go_enter Tryz.func95, Tryz.ntmps95
  go_wp2_with fail
  go_at_call 118
  refine (bfunc_any _ h hk hs hn).mono ?_
  rintro e w1 ⟨i, b, rfl, hp, b1⟩
  go_wp2_with fail
  go_ret2
  exact ⟨i, b, rfl, hp, b1⟩
end Go.Proofs.YtpmkohnljngbhaaGreatDoor.Pg
/- A set of numbers that is a map of the call's own. -/
namespace Go.Proofs.YtpmkohnljngbhaaGreatDoor.Pg
set_option maxRecDepth 1000000
open Go.RowKit Go.Maps Wl

def rawE (v : Value) : Option (DataW Value × List MemPlace) := some (.held v, [])
def inS (S : List Nat) (t : Int) : Bool := S.any fun s => (s : Int) == t
def ins (n : Nat) (S : List Nat) : List Nat := if n ∈ S then S else n :: S
theorem inS_nat (S : List Nat) (n : Nat) : inS S (n : Int) = decide (n ∈ S) := by
  unfold inS
  rw [Bool.eq_iff_iff, List.any_eq_true, decide_eq_true_iff]
  exact ⟨fun ⟨s, hs, e⟩ => by have : s = n := by have := beq_iff_eq.1 e; omega
                              exact this ▸ hs, fun h => ⟨n, h, by simp⟩⟩
theorem inS_ins (n : Nat) (S : List Nat) (t : Int) : inS (ins n S) t = (decide (t = n) || inS S t) := by
  unfold ins
  by_cases h : n ∈ S
  · rw [if_pos h]
    by_cases e : t = n
    · subst e; rw [inS_nat, decide_eq_true h, decide_eq_true rfl]; rfl
    · rw [decide_eq_false e, Bool.false_or]
  · rw [if_neg h]
    unfold inS
    rw [List.any_cons]
    congr 1
    rw [Bool.eq_iff_iff, beq_iff_eq, decide_eq_true_iff]
    exact ⟨fun e => e.symm, fun e => e.symm⟩
theorem ins_nodup {n : Nat} {S : List Nat} (h : S.Nodup) : (ins n S).Nodup := by
  unfold ins
  split
  · exact h
  · rename_i hn; exact List.nodup_cons.2 ⟨hn, h⟩
theorem mem_ins {n m : Nat} {S : List Nat} : m ∈ ins n S ↔ m = n ∨ m ∈ S := by
  unfold ins
  split
  · rename_i h; exact ⟨.inr, fun e => e.elim (fun e => e ▸ h) id⟩
  · exact List.mem_cons
theorem keyed : Keyed Tryz.prog 3 := int_keyed Tryz.underlying3
theorem zeroB (w : World) : (zeroValue 4).run Tryz.prog w = .ok (.bool false) w := by kernel_rfl
/-- Block b is a map that holds true for the numbers of S. -/
structure Mc (w : World) (b : Nat) (S : List Nat) (D : DataW Value) : Prop where
  own : w.ownsMap Tryz.prog 3 rawE b S.length D
  im : IsMap D
  at_ : ∀ t, (Lit.int .i64 t).wf = true → D.atKey (.int .i64 t) (.held (.bool false)) = .held (.bool (inS S t))
  has_ : ∀ t, (Lit.int .i64 t).wf = true → has D (.int .i64 t) = inS S t
  size_ : size D = S.length
  nd : S.Nodup
def Mb (w : World) (b : Nat) (S : List Nat) : Prop := ∃ D, Mc w b S D
section
variable {w w' : World} {b : Nat} {S : List Nat}
theorem Mb.made (w : World) : Mb (w.alloc (.map #[] 0)) w.heap.size [] :=
  ⟨.map [], World.ownsMap_made _ _ _ _, isMap_empty, fun t _ => by rfl, fun t _ => by rfl, rfl, List.nodup_nil⟩
theorem Mb.lt (h : Mb w b S) : b < w.heap.size := let ⟨_, h⟩ := h; h.own.lt
theorem Mb.nd (h : Mb w b S) : S.Nodup := let ⟨_, h⟩ := h; h.nd
theorem Mb.of_block (h : Mb w b S) (hb : w'.heap[b]? = w.heap[b]?) : Mb w' b S := by
  obtain ⟨D, h⟩ := h
  obtain ⟨es, k, h1, h2⟩ := h.own
  exact ⟨D, ⟨es, k, hb.trans h1, h2⟩, h.im, h.at_, h.has_, h.size_, h.nd⟩
theorem Mb.kp {X : Nat → Prop} (h : Mb w b S) (k : Kp w w' X) (hX : ¬ X b) : Mb w' b S := h.of_block (k.block b h.lt hX)
theorem Mb.below (h : Mb w b S) (k : Below w.heap.size w w') : Mb w' b S := h.of_block (k.block b h.lt)
theorem Mb.look (h : Mb w b S) {t : Int} (ht : (Lit.int .i64 t).wf = true) : (Instr.lookup 91 (.map (some b)) (.int .i64 t) false).run Tryz.prog w = .ok (.bool (inS S t)) w := by
  obtain ⟨D, h⟩ := h
  obtain ⟨v, ps, hrun, hv⟩ := h.own.lookup keyed Tryz.underlying91 (zeroB w) (zd := .held (.bool false)) (zp := []) rfl (keyOf_int_mk Tryz.underlying3 ht)
  rw [h.at_ t ht] at hv
  simp only [rawE, Option.some.injEq, Prod.mk.injEq, DataW.held.injEq] at hv
  rw [hrun, hv.1]
theorem Mb.len (h : Mb w b S) (ty : TypeId) : (Builtin.len_ #[91] ty #[.map (some b)]).run Tryz.prog w = .ok (.int .i64 (S.length : Int)) w := by
  obtain ⟨D, h⟩ := h
  rw [h.own.len Tryz.underlying91 ty, h.size_]
theorem own_size {n : Nat} {D : DataW Value} (h : w.ownsMap Tryz.prog 3 rawE b n D) : w.ownsMap Tryz.prog 3 rawE b (size D) D := by
  obtain ⟨es, k, h1, h2, h3, rfl⟩ := h
  exact ⟨es, k, h1, h2, by simp [size, length_sorted], rfl⟩
theorem Mb.store (h : Mb w b S) {n : Nat} (ht : n < 4611686018427387904) (hn : S.length < 2000000000) :
    ∃ w', (Instr.mapUpdate 91 (.map (some b)) (.int .i64 (n : Int)) (.bool true)).run Tryz.prog w = .ok () w' ∧ Mb w' b (ins n S) ∧ w.grownBy w' (some b) := by
  obtain ⟨D, h⟩ := h
  have hwf : (Lit.int .i64 (n : Int)).wf = true := by
    simp [Lit.wf, IntKind.min, IntKind.max, IntKind.wrap, IntKind.bits, IntKind.signed]; omega
  obtain ⟨w', hrun, r1, r2⟩ := h.own.update (val := .bool true) (d := .held (.bool true)) (ps := []) keyed Tryz.underlying91 (by unfold maxLen; omega) (keyOf_int_mk Tryz.underlying3 hwf) rfl
  have htd := h.own.tidy keyed
  have hsz := size_put htd (k := .int .i64 (n : Int)) (.held (.bool true))
  rw [h.has_ _ hwf, inS_nat, h.size_] at hsz
  have hsz2 : size (D.put (.int .i64 (n : Int)) (.held (.bool true))) = (ins n S).length := by
    rw [hsz]; unfold ins
    by_cases hm : n ∈ S
    · rw [if_pos hm, if_pos (by simpa using hm)]
    · rw [if_neg hm, if_neg (by simpa using hm)]; rfl
  refine ⟨w', hrun, ⟨_, ?_, h.im.put _ _, fun x hx => ?_, fun x hx => ?_, hsz2, ins_nodup h.nd⟩, r2⟩
  · rw [← hsz2]; exact own_size r1
  · rw [inS_ins]
    by_cases e : x = n
    · subst e
      rw [atKey_put_same h.im (by trivial), decide_eq_true rfl]; rfl
    · rw [atKey_put_other (by intro h; injection h with _ h; exact e h), decide_eq_false e, Bool.false_or]; exact h.at_ x hx
  · rw [inS_ins]
    by_cases e : x = n
    · subst e
      rw [has_put_same h.im (by trivial), decide_eq_true rfl]; rfl
    · rw [has_put_other (by intro h; injection h with _ h; exact e h), decide_eq_false e, Bool.false_or]; exact h.has_ x hx
end
end Go.Proofs.YtpmkohnljngbhaaGreatDoor.Pg
