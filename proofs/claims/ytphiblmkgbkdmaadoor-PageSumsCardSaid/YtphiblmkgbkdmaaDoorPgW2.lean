/- Walks of the small functions of page: size, room, take. -/
import Derived.Test.YtphiblmkgbkdmaaDoorBitW
import Derived.Test.YtphiblmkgbkdmaaDoorPgMem
import Derived.Deep.RegionHeld3
import Derived.Deep.DrawnRows
namespace Go.Proofs.YtphiblmkgbkdmaaDoor.Pg
set_option linter.unusedVariables false
set_option linter.unusedSimpArgs false
open Go.RowKit Wl

/-- The size of an item. -/
theorem size_any (kind : Nat) (x : IV) (w : World) (hk : kind = 1 ∨ kind = 2) (h1 : x.k.length ≤ 40) (h2 : x.v.length ≤ 120) :
    Calls Tryd.prog 75 #[.agg #[.slice x.kA x.k.length x.kc, .slice x.vA x.v.length x.vc, .int .i64 (x.ch : Int)], .int .i64 (kind : Int)] w fun e w' => e = .returned (.int .i64 (isz kind x.it : Nat)) ∧ Below w.heap.size w w' := by
  rcases hk with rfl | rfl
  · have hs : isz 1 x.it = 2 + x.k.length + x.v.length := rfl
    rw [hs]
    go_enter Tryd.func75, Tryd.ntmps75
    go_wp2
    go_ret
    exact ⟨ret_int (by omega), bal _ _⟩
  · have hs : isz 2 x.it = 3 + x.k.length := rfl
    rw [hs]
    go_enter Tryd.func75, Tryd.ntmps75
    go_wp2
    go_ret
    exact ⟨ret_int (by omega), bal _ _⟩
/-- Keys and values have permitted lengths. -/
def Lim (l : List IV) : Prop := ∀ x ∈ l, x.k.length ≤ 40 ∧ x.v.length ≤ 120
theorem tot_take {kind : Nat} {l : List IV} {k : Nat} {x : IV} (h : l[k]? = some x) : tot kind (its (l.take (k + 1))) = tot kind (its (l.take k)) + isz kind x.it := by
  rw [List.take_add_one, h, its_app, tot_app]; rfl
theorem tot_le {kind : Nat} {l : List IV} (h : Lim l) (k : Nat) : tot kind (its (l.take k)) ≤ 162 * k := by
  induction k with
  | zero => simp [its, tot]
  | succ k ih =>
    rcases hx : l[k]? with _ | x
    · rw [List.take_add_one, hx]; simp only [Option.toList_none, List.append_nil]; omega
    · rw [tot_take hx]
      obtain ⟨h1, h2⟩ := h x (List.mem_of_getElem? hx)
      have : isz kind x.it ≤ 162 := by unfold isz; split <;> simp only [IV.it] <;> omega
      omega
theorem room_any {A : Option Addr} {n c kind : Nat} {l : List IV} (w : World) (hk : kind = 1 ∨ kind = 2) (h : Hid (Rd w 3 A n c (ic l))) (hl : Hid (Lim l)) (hn : n ≤ 100000) :
    Calls Tryd.prog 73 #[.int .i64 (kind : Int), .slice A n c] w fun e w' => e = .returned (.bool (decide (tot kind (its l) ≤ 250))) ∧ Below w.heap.size w w' := by
  have hc := h.out.nc
  have hc2 := h.out.c63
  go_enter Tryd.func73, Tryd.ntmps73
  go_wp2
  go_loopw [5, 10] (fun s i wr => ∃ k : Nat, k ≤ n ∧ i = .int .i64 k ∧ s = .int .i64 ((6 + tot kind (its (l.take k)) : Nat) : Int) ∧ Below w.heap.size w wr) (fun _ i _ => (n - intOf i).toNat)
  case atStart => exact ⟨0, by omega, rfl, rfl, Below.refl _ _⟩
  case round =>
    obtain ⟨k, hk', rfl, rfl, bw⟩ := hrel
    have ht := tot_le (kind := kind) hl.out k
    obtain ⟨s, hs⟩ : ∃ s, tot kind (its (l.take k)) = s := ⟨_, rfl⟩
    rw [hs] at ht ⊢
    by_cases hlt : k < n
    · obtain ⟨g, o, x, rfl, hg, hx, c0, c1, c2⟩ := Rd.item (Rd.below h.out bw) hlt
      obtain ⟨h1, h2⟩ := hl.out x (List.mem_of_getElem? hx)
      have HT : Hid (tot kind (its (l.take (k + 1))) = s + isz kind x.it) := by rw [tot_take hx, hs]; exact Lib.hid rfl
      have hi : isz kind x.it ≤ 162 := by unfold isz; split <;> simp only [IV.it] <;> omega
      obtain ⟨q, hq⟩ : ∃ q, isz kind x.it = q := ⟨_, rfl⟩
      have HQ := Lib.hid hq
      rw [hq] at HT hi
      clear hs hx hq
      simp only [IV.kv, IV.vv] at c0 c1 c2
      have bx := bel_alloc bw (Nat.le_refl _) (.cells #[.slice x.kA x.k.length x.kc, .slice x.vA x.v.length x.vc, .int .i64 (x.ch : Int)] 86)
      go_wp2_with fail
      go_at_call 75
      refine (size_any kind x _ hk h1 h2).mono ?_
      rw [HQ.out]
      rintro e w1 ⟨rfl, b1⟩
      have bw1 := bx.trans (b1.mono bx.size)
      go_wp2_with fail
      go_roundw
      case rel => exact ⟨k + 1, by omega, by go_num, by rw [HT.out]; go_num, bw1⟩
      case measure => simp [intOf]; omega
    · obtain rfl : k = n := by omega
      have HS : Hid (tot kind (its l) = s) := by rw [← hs, List.take_of_length_le (by have := len3 h.out; omega)]; exact Lib.hid rfl
      clear hs
      by_cases hd : s ≤ 250
      · have HD : Hid (decide (tot kind (its l) ≤ 250) = true) := by rw [HS.out]; exact Lib.hid (decide_eq_true hd)
        go_wp2
        go_ret
        exact ⟨by rw [HD.out]; simp; omega, bw⟩
      · have HD : Hid (decide (tot kind (its l) ≤ 250) = false) := by rw [HS.out]; exact Lib.hid (decide_eq_false hd)
        go_wp2
        go_ret
        exact ⟨by rw [HD.out]; simp; omega, bw⟩
theorem Rd.pre {w : World} {n c k : Nat} {A : Option Addr} {l : List UInt8} (h : Rd w 1 A n c (bv l)) (hk : k ≤ n) : Rd w 1 A k c (bv (l.take k)) := by
  have hl := h.len
  have hnc := h.nc
  rw [bv_len] at hl
  refine ⟨by rw [bv_len, List.length_take]; omega, by omega, h.nil, h.c63, fun hp => ?_⟩
  obtain ⟨g, o, e, hb, hc⟩ := h.at_ (by omega)
  exact ⟨g, o, e, hb, fun j hj => by rw [hc j (by omega), ← bv_take, List.getElem?_take, if_pos (by omega)]⟩
/-- take: so many bytes of the rest, or nil. -/
theorem take_no {g o m d b k : Nat} (w : World) (h : Hid (w.cell? ⟨b, 0, none⟩ = some (.slice (some ⟨g, o, none⟩) m d))) (hk : m < k) (h2 : k ≤ 256) :
    Calls Tryd.prog 81 #[.int .i64 (k : Int), .pointer (some ⟨b, 0, none⟩)] w fun e w' => e = .returned (.slice none 0 0) ∧ w = w' := by
  have hc := h.out
  have hd : decide ((k : Int) > (m : Int)) = true := decide_eq_true (by omega)
  go_enter Tryd.func81, Tryd.ntmps81
  go_wp2
  go_ret
  exact ⟨rfl, rfl⟩
theorem take_yes {g o m d b k : Nat} {r : List UInt8} (w : World) (h : Hid (w.cell? ⟨b, 0, none⟩ = some (.slice (some ⟨g, o, none⟩) m d))) (hf : Hid (w.frozen? ⟨b, 0, none⟩ = false)) (hr : Hid (Rd w 1 (some ⟨g, o, none⟩) m d (bv r))) (hk : k ≤ m) (h2 : m ≤ 256) (hbg : b ≠ g) :
    Calls Tryd.prog 81 #[.int .i64 (k : Int), .pointer (some ⟨b, 0, none⟩)] w fun e w' => ∃ o', e = .returned (.slice (some ⟨g, o, none⟩) k d) ∧ w' = w.setCell ⟨b, 0, none⟩ (.slice (some ⟨g, o', none⟩) (m - k) (d - k)) ∧ Hid (Rd w 1 (some ⟨g, o', none⟩) (m - k) (d - k) (bv (r.drop k))) := by
  have hc := h.out
  have hfz := hf.out
  have hnc := hr.out.nc
  have h63 := hr.out.c63
  have hd : decide ((k : Int) > (m : Int)) = false := decide_eq_false (by omega)
  go_enter Tryd.func81, Tryd.ntmps81
  by_cases hdk : d = k
  · obtain rfl : k = m := by omega
    subst hdk
    have hR : Hid (Rd w 1 (some ⟨g, o, none⟩) (d - d) (d - d) (bv (r.drop d))) := by
      have hl := hr.out.len
      rw [bv_len] at hl
      refine Lib.hid ⟨by rw [bv_len, List.length_drop]; omega, by omega, fun e => (by cases e), by omega, fun hp => by omega⟩
    go_wp2
    go_ret
    exact ⟨o, rfl, by simp, hR⟩
  · have hR : Hid (Rd w 1 (some ⟨g, o + k, none⟩) (m - k) (d - k) (bv (r.drop k))) := Lib.hid (hr.out.tail hk)
    go_wp2
    go_ret
    exact ⟨o + k, rfl, rfl, hR⟩
end Go.Proofs.YtphiblmkgbkdmaaDoor.Pg
