/- Walks through the reference's texts of integers. -/
import Derived.Test.YtfmdgeeooohilaaTextW
import Derived.Test.YtfmdgeeooohilaaIntAw
import Derived.Test.YtfmdgeeooohilaaParW
namespace Go.Proofs.Ytfmdgeeooohilaa
set_option linter.unusedVariables false
set_option linter.unusedSimpArgs false
open Go.RowKit

theorem str_append (a b : List Int) : strOfNums a ++ strOfNums b = strOfNums (a ++ b) := by
  simp only [strOfNums]
  rw [ByteArray.mk_append_mk, List.map_append]
theorem Text_bad (n k : Int) (w : World) (h : k < 0 ∨ 20 < k) :
    Calls Try.prog 20 #[.int .i64 n, .int .i64 k] w fun e w' => e = .returned (.string (strOfNums (M.txt n k))) ∧ Below w.heap.size w w' := by
  have R := Lib.hid (M.txt_bad (n := n) h)
  have h' : k < 0 ∨ (0 ≤ k ∧ 20 < k) := by omega
  clear h
  rcases h' with h | ⟨h, h'⟩
  all_goals
    go_enter Try.func20, Try.ntmps20
    go_wp2
    go_ret
    exact ⟨ret_val (by rw [R.out]; rfl), Below.refl _ _⟩

theorem conv_one (w : World) (c : Int) : (Go.convert 50 9 (.slice (some ⟨w.heap.size, 0, none⟩) 1 1)).run Try.prog (w.alloc (.cells #[.int .u8 c] 5)) = .ok (.string (strOfNums [c])) (w.alloc (.cells #[.int .u8 c] 5)) :=
  run_convert_bytes_arg (w.alloc (.cells #[.int .u8 c] 5)) 50 5 Try.underlying50 Try.underlying5 w.heap.size 0 1 1 [c] rfl (fun i hi => by
    obtain rfl : i = 0 := by omega
    simp [go_sem]) 9 Try.underlying9

theorem M.digs_pad : ∀ (f m K : Nat), m < 10 ^ f → K ≤ f → M.digs f m K = List.replicate (K - (M.digs f m 0).length) 48 ++ M.digs f m 0
  | 0, m, K, h, hK => by
    obtain rfl : K = 0 := by omega
    rfl
  | f + 1, m, K, h, hK => by
    have hm : m / 10 < 10 ^ f := by rw [Nat.pow_succ, Nat.mul_comm] at h; exact Nat.div_lt_of_lt_mul h
    rcases Nat.eq_zero_or_pos K with rfl | hp
    · simp
    · obtain ⟨k, rfl⟩ : ∃ k, K = k + 1 := ⟨K - 1, by omega⟩
      rw [M.digs_step (by omega), Nat.add_sub_cancel, M.digs_pad f (m / 10) k hm (by omega)]
      rcases Nat.eq_zero_or_pos m with rfl | hp
      · rw [M.digs_nil, M.digs_nil]
        simp [List.replicate_succ']
      · rw [M.digs_step (f := f) (m := m) (k := 0) (by omega)]
        simp
def szOf : Value → Nat
  | .string s => s.size
  | _ => 0

/-- At the head of the first loop: L holds the last digits, M is what is left. -/
structure RInv (w wr : World) (n m : Int) (j : Nat) (L : List Int) : Prop where
  bel : Below w.heap.size w wr
  len : L.length = j
  small : m.natAbs < 10 ^ (20 - j)
  digs : M.digs 20 n.natAbs 0 = M.digs (20 - j) m.natAbs 0 ++ L
  sgn : n < 0 → m ≤ 0
  pos : 0 ≤ n → 0 ≤ m
  lo : n < 0 → n ≤ m
  hi : 0 ≤ n → m ≤ n

theorem RInv.next {w wr : World} {n m q r d : Int} {j : Nat} {L : List Int} (h : RInv w wr n m j L) (hm : m ≠ 0) (hq : 10 * q + r = m) (hd : (0 < m ∧ d = r ∧ 0 ≤ r) ∨ (m < 0 ∧ d = -r ∧ r ≤ 0)) (d1 : 0 ≤ d) (d2 : d ≤ 9) :
    RInv w (wr.alloc (.cells #[.int .u8 (48 + d)] 5)) n q (j + 1) ((48 + d) :: L) := by
  have hj : j < 20 := by
    have := h.small
    rcases Nat.lt_or_ge j 20 with h | h
    · exact h
    · rw [show 20 - j = 0 by omega] at this; simp at this; omega
  have e1 : q.natAbs = m.natAbs / 10 := by omega
  have e2 : d = (m.natAbs : Int) % 10 := by omega
  have s0 := h.sgn
  have p0 := h.pos
  have l0 := h.lo
  have h0 := h.hi
  refine ⟨h.bel.alloc (h.bel.size) _, by simp [h.len], ?_, ?_, fun h => by omega, fun h => by omega, fun h => by omega, fun h => by omega⟩
  · have := h.small
    rw [show 20 - j = (20 - (j + 1)) + 1 by omega, Nat.pow_succ, Nat.mul_comm] at this
    rw [e1]
    exact Nat.div_lt_of_lt_mul this
  · rw [h.digs, show 20 - j = (20 - (j + 1)) + 1 by omega, M.digs_step (by omega), List.append_assoc, e1, e2]; rfl
theorem RInv.short {w wr : World} {n m : Int} {j : Nat} {L : List Int} (h : RInv w wr n m j L) (hm : m ≠ 0) : j ≤ 20 := by
  have := h.small
  rcases Nat.lt_or_ge j 20 with h | h
  · omega
  · rw [show 20 - j = 0 by omega] at this; simp at this; omega

set_option maxHeartbeats 1000000 in
theorem rText_any (n k : Int) (w : World) (h1 : -9223372036854775808 ≤ n) (h2 : n ≤ 9223372036854775807) (h3 : -9223372036854775808 ≤ k) (h4 : k ≤ 9223372036854775807) :
    Calls Try.prog 21 #[.int .i64 n, .int .i64 k] w fun e w' => e = .returned (.string (strOfNums (M.txt n k))) ∧ Below w.heap.size w w' := by
  by_cases hbad : k < 0 ∨ 20 < k
  · have R := Lib.hid (M.txt_bad (n := n) hbad)
    have h' : k < 0 ∨ (0 ≤ k ∧ 20 < k) := by omega
    clear hbad
    rcases h' with h | ⟨h, h'⟩
    all_goals
      go_enter Try.func21, Try.ntmps21
      go_wp2
      go_ret
      exact ⟨ret_val (by rw [R.out]; rfl), Below.refl _ _⟩
  · have HB := Lib.hid hbad
    have k0 : 0 ≤ k := by omega
    have k20 : k ≤ 20 := by omega
    clear hbad
    go_enter Try.func21, Try.ntmps21
    go_wp2
    go_loopw [5, 6] (fun s m wr => ∃ (j : Nat) (m' : Int) (L : List Int), m = .int .i64 m' ∧ s = .string (strOfNums L) ∧ Hid (RInv w wr n m' j L) ∧ -9223372036854775808 ≤ m' ∧ m' ≤ 9223372036854775807) (fun _ m _ => (intOf m).natAbs)
    case atStart => exact ⟨0, n, [], rfl, rfl, Lib.hid ⟨Below.refl _ _, rfl, by simp; omega, by simp, fun h => by omega, fun h => h, fun _ => by omega, fun _ => by omega⟩, h1, h2⟩
    case round =>
      obtain ⟨j, m', L, rfl, rfl, inv, m1, m2⟩ := hrel
      rcases Int.lt_trichotomy m' 0 with hm | hm0 | hm
      · obtain ⟨q, e2⟩ : ∃ q, m'.tdiv 10 = q := ⟨_, rfl⟩
        obtain ⟨r, e1⟩ : ∃ r, m'.tmod 10 = r := ⟨_, rfl⟩
        have e1' : m'.tmod 10 = -((-m') % 10) := M.tmod_neg (by omega) (by omega)
        have e2' : m'.tdiv 10 = -((-m') / 10) := M.tdiv_neg (by omega) (by omega)
        have b1 : -9 ≤ r ∧ r ≤ 0 ∧ 10 * q + r = m' ∧ m' < q ∧ q ≤ 0 := by omega
        clear e1' e2'
        obtain ⟨b1, b2, b3, b4, b5⟩ := b1
        have hcv := conv_one wr (48 + -r)
        have nx := Lib.hid (inv.out.next (q := q) (r := r) (d := -r) (by omega) (by omega) (by omega) (by omega) (by omega))
        have sz : (strOfNums L).size ≤ 20 := by rw [strOfNums_size, inv.out.len]; exact inv.out.short (by omega)
        have s1 : (strOfNums [48 + -r]).size = 1 := rfl
        clear b3
        have mz : (m' != 0) = true := by simp; omega
        rcases Int.lt_or_le r 0 with hr | hr
        · go_wp2
          go_roundw
          case rel => exact ⟨j + 1, q, _, rfl, by rw [str_append]; rfl, nx, by omega, by omega⟩
          case measure => simp [intOf]; omega
        · obtain rfl : r = 0 := by omega
          have hcv0 := conv_one wr 48
          have s10 : (strOfNums [48]).size = 1 := rfl
          go_wp2
          go_roundw
          case rel => exact ⟨j + 1, q, _, rfl, by rw [str_append]; rfl, nx, by omega, by omega⟩
          case measure => simp [intOf]; omega
      · have hD : Hid (M.digs 20 n.natAbs 0 = L) := Lib.hid (by rw [inv.out.digs, hm0, Int.natAbs_zero, M.digs_nil]; rfl)
        have hbel := inv.out.bel
        have ln : L.length ≤ 20 := by rw [← hD.out]; exact M.digs_len _ _ _
        have hfin : Hid (∀ i : Nat, (i = 0 ∨ (i + L.length : Int) ≤ max k 1) → 1 ≤ i + L.length → k ≤ (i + L.length : Int) → M.digs 20 n.natAbs (max k 1).toNat = List.replicate i 48 ++ L) := Lib.hid fun i h1 h2 h3 => by
          rw [M.digs_pad 20 n.natAbs _ (by omega) (by omega), hD.out, show (max k 1).toNat - L.length = i by omega]
        clear inv
        subst hm0
        go_wp2
        go_loop [5] (fun s => ∃ i : Nat, s = .string (strOfNums (List.replicate i 48 ++ L)) ∧ (i = 0 ∨ (i + L.length : Int) ≤ max k 1)) (fun s => 21 - szOf s)
        case atStart => exact ⟨0, rfl, .inl rfl⟩
        case round =>
          obtain ⟨i, rfl, hi⟩ := hrel
          obtain ⟨x, hx⟩ : ∃ x, strOfNums (List.replicate i 48 ++ L) = x := ⟨_, rfl⟩
          have hsz : x.size = i + L.length := by rw [← hx, strOfNums_size]; simp
          have sx : x.size ≤ 20 := by omega
          have HX := Lib.hid hx
          rw [hx]
          clear hx
          by_cases hz : i + L.length = 0
          · have hem : x.toList.isEmpty = true := by rw [ByteArray.toList_eq, str_empty (t := x) (by omega)]; rfl
            have HI := Lib.hid hi
            clear hi
            go_wp2
            go_round
            case rel => exact ⟨i + 1, by rw [← HX.out]; exact congrArg Value.string (str_append [48] _), by omega⟩
            case measure => simp [szOf]; rw [show ({ data := #[48] } : ByteArray).size = 1 from rfl]; omega
          · have hem : x.toList.isEmpty = false := str_full (by omega)
            by_cases hlt : (i + L.length : Int) < k
            · have hlt' : (x.size : Int) < k := by omega
              have HI := Lib.hid hi
              have HS := Lib.hid hsz
              clear hi hsz
              go_wp2
              go_round
              case rel => exact ⟨i + 1, by rw [← HX.out]; exact congrArg Value.string (str_append [48] _), by omega⟩
              case measure => simp [szOf]; rw [show ({ data := #[48] } : ByteArray).size = 1 from rfl]; omega
            · have hlt' : k ≤ (x.size : Int) := by omega
              have R := Lib.hid (hfin.out i hi (by omega) (by omega))
              clear hi hsz hlt
              rcases Int.lt_or_le n 0 with hn | hn
              · go_wp2
                go_ret
                exact ⟨ret_val (by rw [M.txt_neg HB.out hn, R.out, ← HX.out]; exact congrArg Value.string (str_append [45] _)), hbel⟩
              · go_wp2
                exact bodyPost_ret (v := .string x) (by simp [results, Try.results21, go_sem]) rfl ⟨ret_val (by rw [M.txt_pos HB.out (by omega), R.out, ← HX.out]), hbel⟩
      · have hcv := conv_one wr (48 + m' % 10)
        have nx := Lib.hid (inv.out.next (q := m' / 10) (r := m' % 10) (d := m' % 10) (by omega) (by omega) (by omega) (by omega) (by omega))
        have sz : (strOfNums L).size ≤ 20 := by rw [strOfNums_size, inv.out.len]; exact inv.out.short (by omega)
        have s1 : (strOfNums [48 + m' % 10]).size = 1 := rfl
        have b1 : 0 ≤ m' % 10 := by omega
        have b2 : m' % 10 ≤ 9 := by omega
        have mz : (m' != 0) = true := by simp; omega
        go_wp2
        go_roundw
        case rel => exact ⟨j + 1, m' / 10, _, rfl, by rw [str_append]; rfl, nx, by omega, by omega⟩
        case measure => simp [intOf]; omega

end Go.Proofs.Ytfmdgeeooohilaa
