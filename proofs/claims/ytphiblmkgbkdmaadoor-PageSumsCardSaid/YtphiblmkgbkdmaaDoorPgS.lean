/- Walks: the two binary searches. -/
import Derived.Test.YtphiblmkgbkdmaaDoorPgW5
namespace Go.Proofs.YtphiblmkgbkdmaaDoor.Pg
set_option linter.unusedVariables false
set_option linter.unusedSimpArgs false
open Go.RowKit Wl

theorem half (a b : Nat) : (((a : Int) + b) / 2).toNat = (a + b) / 2 := by omega
def BsPost (w : World) (l : List Int) (x : Int) (e : Ending) (w' : World) : Prop := ∃ (i : Int) (b : Bool), e = .returned (.tuple #[.int .i64 i, .bool b]) ∧ (b = true ↔ x ∈ l) ∧ w = w'
theorem at_lt {l : List Int} (h : l.Pairwise (· < ·)) {i j : Nat} {x y : Int} (hx : l[i]? = some x) (hy : l[j]? = some y) (hij : i < j) : x < y := by
  obtain ⟨h1, rfl⟩ := List.getElem?_eq_some_iff.1 hx
  obtain ⟨h2, rfl⟩ := List.getElem?_eq_some_iff.1 hy
  exact List.pairwise_iff_getElem.1 h i j h1 h2 hij
set_option maxHeartbeats 1600000 in
theorem bsearch_any {A : Option Addr} {n c : Nat} {l : List Int} (x : Int) (w : World) (h : Hid (Rd w 1 A n c (iv l))) (hs : Hid (l.Pairwise (· < ·))) (hn : n ≤ 1000000) :
    Calls Tryd.prog 68 #[.slice A n c, .int .i64 x] w (BsPost w l x) := by
  have hc := h.out.nc
  have hc63 := h.out.c63
  have hl := h.out.len
  rw [iv_len, Nat.mul_one] at hl
  have HL := Lib.hid hl
  clear hl
  go_enter Tryd.func68, Tryd.ntmps68
  go_wp2
  go_loopw [7, 8] (fun iv jv wr => ∃ a b : Nat, a ≤ b ∧ b ≤ n ∧ iv = .int .i64 a ∧ jv = .int .i64 b ∧ w = wr ∧ Hid (∀ (j : Nat) (y : Int), j < a → l[j]? = some y → y < x) ∧ Hid (∀ (j : Nat) (y : Int), b ≤ j → l[j]? = some y → x ≤ y)) (fun iv jv _ => (intOf jv - intOf iv).toNat)
  case atStart => exact ⟨0, n, by omega, by omega, rfl, rfl, rfl, Lib.hid fun j y hj => by omega, Lib.hid fun j y hj hy => by have := (List.getElem?_eq_some_iff.1 hy).1; have := HL.out; omega⟩
  case round =>
    obtain ⟨a, b, hab, hbn, rfl, rfl, rfl, lo, hi⟩ := hrel
    by_cases hlt : a < b
    · obtain ⟨m, hm⟩ : ∃ m, (a + b) / 2 = m := ⟨_, rfl⟩
      have hm1 : a ≤ m := by omega
      have hm2 : m < b := by omega
      have hmI : ((a : Int) + (b : Int)) / 2 = (m : Int) := by omega
      have hw1 : IntKind.u64.wrap ((a : Int) + (b : Int)) = (a : Int) + b := by simp [IntKind.wrap, IntKind.bits, IntKind.signed]; omega
      obtain ⟨g, o, y, rfl, hg, hy, hcell⟩ := Rd.at1 h.out (show m < n by omega)
      have HY := Lib.hid hy
      clear hy hm
      by_cases hyx : y < x
      · have lo2 : Hid (∀ (j : Nat) (z : Int), j < m + 1 → l[j]? = some z → z < x) := Lib.hid fun j z hj hz => by
          rcases Nat.lt_or_ge j m with h1 | h1
          · have := at_lt hs.out hz HY.out h1; omega
          · obtain rfl : j = m := by omega
            rw [HY.out] at hz; injection hz with hz; omega
        go_wp2
        go_roundw
        case rel => exact ⟨m + 1, b, by omega, by omega, by go_num, by first | trivial | rfl, by first | trivial | rfl, lo2, hi⟩
        case measure => simp [intOf]; omega
      · have hi2 : Hid (∀ (j : Nat) (z : Int), m ≤ j → l[j]? = some z → x ≤ z) := Lib.hid fun j z hj hz => by
          rcases Nat.lt_or_ge m j with h1 | h1
          · have := at_lt hs.out HY.out hz h1; omega
          · obtain rfl : m = j := by omega
            rw [HY.out] at hz; injection hz with hz; omega
        go_wp2
        go_roundw
        case rel => exact ⟨a, m, by omega, by omega, by first | trivial | rfl, by go_num, by first | trivial | rfl, lo, hi2⟩
        case measure => simp [intOf]; omega
    · obtain rfl : a = b := by omega
      by_cases ha : a < n
      · obtain ⟨g, o, y, rfl, hg, hy, hcell⟩ := Rd.at1 h.out ha
        have HY := Lib.hid hy
        clear hy
        by_cases hyx : y = x
        · have e2 : decide ((a : Int) < (n : Int)) = true := decide_eq_true (by omega)
          subst hyx
          go_wp2
          go_ret2
          exact ⟨_, true, rfl, ⟨fun _ => List.mem_of_getElem? HY.out, fun _ => rfl⟩, rfl⟩
        · have R : Hid ((false = true) ↔ x ∈ l) := Lib.hid ⟨fun e => (by cases e), fun hx => by
            exfalso
            obtain ⟨j, hj⟩ := List.mem_iff_getElem?.1 hx
            rcases Nat.lt_or_ge j a with h1 | h1
            · have := lo.out j x h1 hj; omega
            · have h2 := hi.out a y (Nat.le_refl _) HY.out
              rcases Nat.lt_or_ge a j with h3 | h3
              · have := at_lt hs.out HY.out hj h3; omega
              · obtain rfl : a = j := by omega
                rw [HY.out] at hj; injection hj with hj; exact hyx hj⟩
          have e1 : (y == x) = false := by simpa using hyx
          have e2 : decide ((a : Int) < (n : Int)) = true := decide_eq_true (by omega)
          go_wp2
          go_ret2
          exact ⟨_, false, rfl, R.out, rfl⟩
      · obtain rfl : a = n := by omega
        have R : Hid ((false = true) ↔ x ∈ l) := Lib.hid ⟨fun e => (by cases e), fun hx => by
          exfalso
          obtain ⟨j, hj⟩ := List.mem_iff_getElem?.1 hx
          have h1 := (List.getElem?_eq_some_iff.1 hj).1
          have := lo.out j x (by have := HL.out; omega) hj
          omega⟩
        have e2 : decide ((a : Int) < (a : Int)) = false := decide_eq_false (by omega)
        go_wp2
        go_ret2
        exact ⟨_, false, rfl, R.out, rfl⟩
/-- A row of items, with their bytes. -/
structure Iw (w : World) (A : Option Addr) (n c : Nat) (l : List IV) : Prop where
  row : Rd w 3 A n c (ic l)
  dat : ∀ x ∈ l, Rd w 1 x.kA x.k.length x.kc (bv x.k) ∧ Rd w 1 x.vA x.v.length x.vc (bv x.v)
theorem Iw.below {w w' : World} {A : Option Addr} {n c : Nat} {l : List IV} (h : Iw w A n c l) (hb : Below w.heap.size w w') : Iw w' A n c l := ⟨h.row.below hb, fun x hx => ⟨(h.dat x hx).1.below hb, (h.dat x hx).2.below hb⟩⟩
theorem Ir.iw {w : World} {base n c : Nat} {A : Option Addr} {l : List IV} (h : Ir w base A n c l) : Iw w A n c l := ⟨h.row, fun x hx => ⟨(h.dat x hx).k.rd, (h.dat x hx).v.rd⟩⟩
theorem search1_any {K : Option Addr} {m kc : Nat} {key : List UInt8} (x : IV) (w : World) (hx : Hid (Rd w 1 x.kA x.k.length x.kc (bv x.k))) (hk : Hid (Rd w 1 K m kc (bv key))) :
    Calls Tryd.prog 85 #[.agg #[.slice x.kA x.k.length x.kc, .slice x.vA x.v.length x.vc, .int .i64 (x.ch : Int)], .slice K m kc] w fun e w' => e = .returned (.int .i64 (cmpB x.k key)) ∧ Below w.heap.size w w' := by
  have h1 := Lib.hid (hx.out.alloc (.cells #[.slice x.kA x.k.length x.kc, .slice x.vA x.v.length x.vc, .int .i64 (x.ch : Int)] 86))
  have h2 := Lib.hid (hk.out.alloc (.cells #[.slice x.kA x.k.length x.kc, .slice x.vA x.v.length x.vc, .int .i64 (x.ch : Int)] 86))
  go_enter Tryd.func85, Tryd.ntmps85
  go_wp2_with fail
  go_at_call 54
  refine (Compare_any _ h1 h2).mono ?_
  rintro e w1 ⟨rfl, rfl⟩
  go_wp2_with fail
  go_ret
  exact ⟨rfl, bal _ _⟩
def SePost (w : World) (l : List It) (key : List UInt8) (e : Ending) (w' : World) : Prop := ∃ (i : Nat) (b : Bool), e = .returned (.tuple #[.int .i64 (i : Int), .bool b]) ∧ Plc l key i b ∧ Below w.heap.size w w'
set_option maxHeartbeats 1600000 in
theorem bfunc_any {A K : Option Addr} {n c m kc : Nat} {l : List IV} {key : List UInt8} (w : World) (h : Hid (Iw w A n c l)) (hk : Hid (Rd w 1 K m kc (bv key))) (hs : Hid (Srt (its l))) (hn : n ≤ 1000000) :
    Calls Tryd.prog 84 #[.slice A n c, .slice K m kc, .func (.func 85) #[] #[]] w (SePost w (its l) key) := by
  have hc := h.out.row.nc
  have hc63 := h.out.row.c63
  have HL : Hid (n = (its l).length) := Lib.hid (by rw [its_len]; exact len3 h.out.row)
  have GET : Hid (∀ (i : Nat) (x : IV), l[i]? = some x → (its l)[i]? = some x.it) := Lib.hid fun i x hx => by unfold its; rw [List.getElem?_map, hx]; rfl
  go_enter Tryd.func84, Tryd.ntmps84
  go_wp2_with fail
  go_loopw [9, 10] (fun iv jv wr => ∃ a b : Nat, a ≤ b ∧ b ≤ n ∧ iv = .int .i64 a ∧ jv = .int .i64 b ∧ Below w.heap.size w wr ∧ Hid (∀ (j : Nat) (y : It), j < a → (its l)[j]? = some y → cmpB y.k key < 0) ∧ Hid (∀ (j : Nat) (y : It), b ≤ j → (its l)[j]? = some y → 0 ≤ cmpB y.k key)) (fun iv jv _ => (intOf jv - intOf iv).toNat)
  case atStart => exact ⟨0, n, by omega, by omega, rfl, rfl, Below.refl _ _, Lib.hid fun j y hj => by omega, Lib.hid fun j y hj hy => by have := (List.getElem?_eq_some_iff.1 hy).1; have := HL.out; omega⟩
  case round =>
    obtain ⟨a, b, hab, hbn, rfl, rfl, bw, lo, hi⟩ := hrel
    by_cases hlt : a < b
    · obtain ⟨q, hq⟩ : ∃ q, (a + b) / 2 = q := ⟨_, rfl⟩
      have hq1 : a ≤ q := by omega
      have hq2 : q < b := by omega
      have hqI : ((a : Int) + (b : Int)) / 2 = (q : Int) := by omega
      have hw1 : IntKind.u64.wrap ((a : Int) + (b : Int)) = (a : Int) + b := by simp [IntKind.wrap, IntKind.bits, IntKind.signed]; omega
      have hI := Lib.hid (h.out.below bw)
      obtain ⟨g, o, x, rfl, hg, hx, c0, c1, c2⟩ := Rd.item hI.out.row (show q < n by omega)
      have HX := Lib.hid (GET.out q x hx)
      have HD := Lib.hid (hI.out.dat x (List.mem_of_getElem? hx)).1
      have HK := Lib.hid (Rd.below hk.out bw)
      clear hx hq
      simp only [IV.kv, IV.vv] at c0 c1 c2
      go_wp2_with fail
      go_at_call 85
      refine (search1_any x _ HD HK).mono ?_
      rintro e w1 ⟨rfl, b1⟩
      have bw1 := bw.trans (b1.mono bw.size)
      by_cases hyx : cmpB x.k key < 0
      · have lo2 : Hid (∀ (j : Nat) (z : It), j < q + 1 → (its l)[j]? = some z → cmpB z.k key < 0) := Lib.hid (hs.out.below HX.out hyx)
        go_wp2_with fail
        go_roundw
        case rel => exact ⟨q + 1, b, by omega, by omega, by go_num, rfl, bw1, lo2, hi⟩
        case measure => simp [intOf]; omega
      · have hi2 : Hid (∀ (j : Nat) (z : It), q ≤ j → (its l)[j]? = some z → 0 ≤ cmpB z.k key) := Lib.hid (hs.out.above HX.out hyx)
        go_wp2_with fail
        go_roundw
        case rel => exact ⟨a, q, by omega, by omega, rfl, by go_num, bw1, lo, hi2⟩
        case measure => simp [intOf]; omega
    · obtain rfl : a = b := by omega
      by_cases ha : a < n
      · have hI := Lib.hid (h.out.below bw)
        obtain ⟨g, o, x, rfl, hg, hx, c0, c1, c2⟩ := Rd.item hI.out.row ha
        have HX := Lib.hid (GET.out a x hx)
        have HD := Lib.hid (hI.out.dat x (List.mem_of_getElem? hx)).1
        have HK := Lib.hid (Rd.below hk.out bw)
        clear hx
        simp only [IV.kv, IV.vv] at c0 c1 c2
        have e2 : decide ((a : Int) < (n : Int)) = true := decide_eq_true (by omega)
        go_wp2_with fail
        go_at_call 85
        refine (search1_any x _ HD HK).mono ?_
        rintro e w1 ⟨rfl, b1⟩
        have bw1 := bw.trans (b1.mono bw.size)
        have P : Hid (Plc (its l) key a (decide (cmpB x.k key = 0))) := Lib.hid ⟨by have := HL.out; omega, lo.out, hi.out, by
          rw [decide_eq_true_iff, cmpB_eq]
          exact ⟨fun e => ⟨x.it, HX.out, e⟩, fun ⟨y, hy, e⟩ => by rw [HX.out] at hy; injection hy with hy; subst hy; exact e⟩⟩
        by_cases hz : cmpB x.k key = 0
        · rw [decide_eq_true hz] at P
          rw [hz]
          clear hz
          go_wp2_with fail
          go_ret2
          exact ⟨a, true, rfl, P.out, bw1⟩
        · rw [decide_eq_false hz] at P
          have e3 : (cmpB x.k key == 0) = false := by simpa using hz
          go_wp2_with fail
          go_ret2
          exact ⟨a, false, rfl, P.out, bw1⟩
      · obtain rfl : a = n := by omega
        have P : Hid (Plc (its l) key a false) := Lib.hid ⟨by have := HL.out; omega, lo.out, hi.out, ⟨fun e => (by cases e), fun ⟨y, hy, e⟩ => by
          have h1 := (List.getElem?_eq_some_iff.1 hy).1
          have := HL.out; omega⟩⟩
        have e2 : decide ((a : Int) < (a : Int)) = false := decide_eq_false (by omega)
        go_wp2_with fail
        go_ret2
        exact ⟨a, false, rfl, P.out, bw⟩
theorem search_any {A K : Option Addr} {n c m kc : Nat} {l : List IV} {key : List UInt8} (w : World) (h : Hid (Iw w A n c l)) (hk : Hid (Rd w 1 K m kc (bv key))) (hs : Hid (Srt (its l))) (hn : n ≤ 1000000) :
    Calls Tryd.prog 71 #[.slice A n c, .slice K m kc] w (SePost w (its l) key) := by
  go_enter Tryd.func71, Tryd.ntmps71
  go_wp2_with fail
  go_at_call 84
  refine (bfunc_any _ h hk hs hn).mono ?_
  rintro e w1 ⟨i, b, rfl, hp, b1⟩
  go_wp2_with fail
  go_ret2
  exact ⟨i, b, rfl, hp, b1⟩
end Go.Proofs.YtphiblmkgbkdmaaDoor.Pg
