/- Walks: bytes.Equal, HasPrefix, Cut, records compared. -/
import Derived.Test.YtfkeedeiafegiaaWalW8
import Derived.Laws.BytesArg
import Derived.WalkLawsBesides
namespace Go.Proofs.Ytfkeedeiafegiaa.Wl
set_option linter.unusedVariables false
set_option linter.unusedSimpArgs false
open Go.RowKit

theorem conv_any {w : World} {A : Option Addr} {n c : Nat} {l : List UInt8} (h : Rd w 1 A n c (bv l)) :
    (convert 22 9 (.slice A n c)).run Try.prog w = .ok (.string ⟨l.toArray⟩) w := by
  have hl := h.len
  rw [bv_len, Nat.mul_one] at hl
  rcases Nat.eq_zero_or_pos n with h0 | h0
  · subst h0
    obtain rfl : l = [] := List.eq_nil_of_length_eq_zero hl
    rw [run_convert_bytes_string w 22 9 5 _ 0 c Try.underlying22 Try.underlying5 Try.underlying9]
    cases A <;> simp [Conv.bytesToString, loadCells]
    all_goals rfl
  · obtain ⟨g, o, rfl, _, hc⟩ := h.at_ h0
    have := run_convert_bytes_arg (P := Try.prog) w 22 5 Try.underlying22 Try.underlying5 g o n c (l.map fun u => (u.toNat : Int)) (by simpa using hl) (fun i hi => by
      have hi' : i < l.length := by omega
      rw [hc i (by omega), bv_get, List.getElem?_eq_getElem hi', List.getD_eq_getElem?_getD, List.getElem?_map, List.getElem?_eq_getElem hi']; rfl) 9 Try.underlying9
    rw [this]
    congr 2
    unfold strOfNums
    congr 2
    rw [List.map_map]
    have : ((fun n : Int => UInt8.ofNat n.toNat) ∘ fun u : UInt8 => (u.toNat : Int)) = id := by
      funext u; simp
    rw [this, List.map_id]
def eqB (a b : List UInt8) : Bool := decide (a = b)
theorem eqB_self (a : List UInt8) : eqB a a = true := decide_eq_true rfl
theorem eqB_iff {a b : List UInt8} : eqB a b = true ↔ a = b := decide_eq_true_iff
theorem beq_eqB (a b : List UInt8) : (a == b) = eqB a b := by
  unfold eqB
  rw [Bool.eq_iff_iff, beq_iff_eq, decide_eq_true_iff]
theorem Equal_any {A B : Option Addr} {n c m d : Nat} {a b : List UInt8} (w : World) (h : Hid (Rd w 1 A n c (bv a))) (k : Hid (Rd w 1 B m d (bv b))) :
    Calls Try.prog 16 #[.slice A n c, .slice B m d] w fun e w' => e = .returned (.bool (eqB a b)) ∧ w = w' := by
  have r1 := conv_any h.out
  have r2 := conv_any k.out
  have E := Lib.hid (beq_eqB a b)
  go_enter Try.func16, Try.ntmps16
  go_wp2
  go_ret
  exact ⟨ret_bool E.out, rfl⟩

theorem Rd.upto {w : World} {size n c k : Nat} {A : Option Addr} {xs : List Value} (h : Rd w size A n c xs) (hk : k ≤ n) : Rd w size A k c (xs.take (k * size)) := by
  have h1 := h.nc
  have h2 := h.len
  have h3 : k * size ≤ n * size := Nat.mul_le_mul_right _ hk
  refine ⟨by rw [List.length_take]; omega, by omega, h.nil, h.c63, fun hp => ?_⟩
  obtain ⟨g, o, e, hb, hc⟩ := h.at_ (by omega)
  exact ⟨g, o, e, hb, fun j hj => by rw [hc j (by omega), List.getElem?_take, if_pos hj]⟩
theorem Rd.upto1 {w : World} {n c k : Nat} {A : Option Addr} {l : List UInt8} (h : Rd w 1 A n c (bv l)) (hk : k ≤ n) : Rd w 1 A k c (bv (l.take k)) := by
  have := h.upto hk
  rwa [Nat.mul_one, bv_take] at this
theorem HasPrefix_any {A B : Option Addr} {n c m d : Nat} {a b : List UInt8} (w : World) (h : Hid (Rd w 1 A n c (bv a))) (k : Hid (Rd w 1 B m d (bv b))) :
    Calls Try.prog 31 #[.slice A n c, .slice B m d] w fun e w' => e = .returned (.bool (eqB (a.take b.length) b)) ∧ w = w' := by
  have hm := k.out.len
  have hn := h.out.len
  have hc := h.out.nc
  have hc2 := h.out.c63
  rw [bv_len] at hm hn
  by_cases hlt : m ≤ n
  · have hp := Lib.hid (h.out.upto1 hlt)
    have HM : Hid (a.take b.length = a.take m) := Lib.hid (by rw [hm, Nat.mul_one])
    clear hm hn
    go_enter Try.func31, Try.ntmps31
    go_wp2_with fail
    go_at_call 16
    refine (Equal_any _ hp k).mono ?_
    rintro e w' ⟨rfl, rfl⟩
    go_wp2_with fail
    go_ret
    exact ⟨ret_bool (by rw [HM.out]), rfl⟩
  · have R : Hid (false = eqB (a.take b.length) b) := Lib.hid (by
      unfold eqB; symm; apply decide_eq_false; intro e
      have := congrArg List.length e
      simp at this; omega)
    clear hm hn
    go_enter Try.func31, Try.ntmps31
    go_wp2_with fail
    go_ret
    exact ⟨ret_bool R.out, rfl⟩

def cutN (n : Int) (l : Nat) : Nat := if n ≤ 0 then 0 else if n ≤ l then n.toNat else l
theorem cutN_le (n : Int) (l : Nat) : cutN n l ≤ l := by unfold cutN; split; omega; split <;> omega
theorem Cut_any {A : Option Addr} {n c : Nat} {b : List UInt8} (k : Int) (w : World) (hl : Hid (n = b.length)) (h : Hid (Rd w 1 A n c (bv b))) (hn : n ≤ 1073741824) (k1 : -9223372036854775808 ≤ k) (k2 : k ≤ 9223372036854775807) :
    Calls Try.prog 26 #[.slice A n c, .int .i64 k] w (Mk w (cutN k n) (b.take (cutN k n))) := by
  have hnc := h.out.nc
  have hc63 := h.out.c63
  have hp := Lib.hid (h.out.upto1 (cutN_le k n))
  have hle := cutN_le k n
  obtain ⟨q, hq⟩ : ∃ q, cutN k n = q := ⟨_, rfl⟩
  rw [hq] at hp hle ⊢
  have hv : (k < 0 ∧ q = 0) ∨ (0 ≤ k ∧ k ≤ n ∧ k = (q : Int)) ∨ (0 < k ∧ (n : Int) < k ∧ q = n) := by
    rw [← hq]; unfold cutN; split; omega; split <;> omega
  clear hq
  rcases hv with ⟨h1, rfl⟩ | ⟨h1, h2, rfl⟩ | ⟨h1, h2, rfl⟩
  · go_enter Try.func26, Try.ntmps26
    go_wp2_with fail
    go_at_call 28
    refine (clone_any _ hp (by omega)).mono ?_
    rintro e w1 ⟨A1, c1, rfl, own1, b1⟩
    go_wp2_with fail
    go_ret
    exact ⟨A1, c1, rfl, own1, b1⟩
  · go_enter Try.func26, Try.ntmps26
    go_wp2_with fail
    go_at_call 28
    refine (clone_any _ hp (by omega)).mono ?_
    rintro e w1 ⟨A1, c1, rfl, own1, b1⟩
    go_wp2_with fail
    go_ret
    exact ⟨A1, c1, rfl, own1, b1⟩
  · go_enter Try.func26, Try.ntmps26
    go_wp2_with fail
    go_at_call 28
    refine (clone_any _ hp (by omega)).mono ?_
    rintro e w1 ⟨A1, c1, rfl, own1, b1⟩
    go_wp2_with fail
    go_ret
    exact ⟨A1, c1, rfl, own1, b1⟩
theorem rCut_any {A : Option Addr} {n c : Nat} {b : List UInt8} (k : Int) (w : World) (hl : Hid (n = b.length)) (h : Hid (Rd w 1 A n c (bv b))) (hn : n ≤ 1073741824) (k1 : -9223372036854775808 ≤ k) (k2 : k ≤ 9223372036854775807) :
    Calls Try.prog 34 #[.slice A n c, .int .i64 k] w (Mk w (cutN k n) (b.take (cutN k n))) := by
  have hnc := h.out.nc
  have hc63 := h.out.c63
  obtain ⟨i0, hi, hz0, hz1, hz2⟩ := info_parts info_u8
  have hp := Lib.hid ((h.out.upto1 (cutN_le k n)).alloc (.cells #[] 5))
  have hle := cutN_le k n
  obtain ⟨q, hq⟩ : ∃ q, cutN k n = q := ⟨_, rfl⟩
  rw [hq] at hp hle ⊢
  have hv : (k < 0 ∧ q = 0) ∨ (0 ≤ k ∧ k ≤ n ∧ k = (q : Int)) ∨ (0 < k ∧ (n : Int) < k ∧ q = n) := by
    rw [← hq]; unfold cutN; split; omega; split <;> omega
  clear hq
  rcases hv with ⟨h1, rfl⟩ | ⟨h1, h2, rfl⟩ | ⟨h1, h2, rfl⟩
  all_goals
    go_enter Try.func34, Try.ntmps34
    go_wp2_with (at_builtin; refine wpList_app _ rfl (.tmp 5) (.tmp 12) 22 rfl w.heap.size 5 i0 (.int .u8 0) 1 1 Try.underlying22 hi hz0 hz1 hz2 rfl (by omega) (by rfl) (own_lit w _ 1 #[] 0 (Nat.le_refl _) (by unfold maxLen; omega) rfl) (by rfl) hp.out (bv_one _) (by omega) (by omega) (by simp) ?_; intro A1 c1 w1 own1 g1)
    go_ret
    rw [Nat.zero_add] at own1
    exact ⟨A1, c1, by simp, own1, g1.low' ((Below.refl _ _).alloc (Nat.le_refl _) _) (Nat.le_refl _) (Nat.le_refl _)⟩
end Go.Proofs.Ytfkeedeiafegiaa.Wl
