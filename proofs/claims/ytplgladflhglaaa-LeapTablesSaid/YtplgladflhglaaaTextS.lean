/- Walks through the texts of integers and dates, here and at the reference. -/
import Derived.Test.YtplgladflhglaaaFldW2
import Derived.Test.YtplgladflhglaaaTextM2
import Derived.Test.YtplgladflhglaaaTextW
import Derived.Test.YtplgladflhglaaaDateW
import Derived.Deep.RegionWith
namespace Go.Proofs.Ytplgladflhglaaa
set_option linter.unusedVariables false
set_option linter.unusedSimpArgs false
open Go.RowKit

theorem str_append (a b : List Int) : strOfNums a ++ strOfNums b = strOfNums (a ++ b) := by
  simp only [strOfNums]
  rw [ByteArray.mk_append_mk, List.map_append]
theorem str_dash : (⟨#[45]⟩ : ByteArray) = strOfNums [45] := rfl

theorem dtext_len {y m d : Int} (h : M.vld y m d = true) : (M.dtext y m d).length = 10 := by rw [M.dtext_t h]; simp [M.dg_len]

theorem Text4 (n : Int) (w : World) (h1 : 0 ≤ n) (h2 : n ≤ 9999) :
    Calls Try.prog 59 #[.int .i64 n, .int .i64 4] w fun e w' => e = .returned (.string (strOfNums (M.dg 4 n.toNat))) ∧ Below w.heap.size w w' := by
  have := Text_any n 4 w (by omega) (by omega) (by omega) (by omega)
  rw [M.txt_dg h1 (by omega) (by omega) (by show _ < 10000; omega)] at this; exact this
theorem Text2 (n : Int) (w : World) (h1 : 0 ≤ n) (h2 : n ≤ 99) :
    Calls Try.prog 59 #[.int .i64 n, .int .i64 2] w fun e w' => e = .returned (.string (strOfNums (M.dg 2 n.toNat))) ∧ Below w.heap.size w w' := by
  have := Text_any n 2 w (by omega) (by omega) (by omega) (by omega)
  rw [M.txt_dg h1 (by omega) (by omega) (by show _ < 100; omega)] at this; exact this

theorem cText_any (y m d : Int) (w : World) : Calls Try.prog 44 #[.agg #[.int .i64 y, .int .i64 m, .int .i64 d]] w fun e w' => e = .returned (.string (strOfNums (M.dtext y m d))) ∧ Below w.heap.size w w' := by
  rcases hv : M.vld y m d with _ | _
  · have R := Lib.hid (M.dtext_f hv)
    go_enter Try.func44, Try.ntmps44
    go_wp2_with (go_at_call 51; refine (Valid_any _ _ _ _).mono ?_; rintro e w1 ⟨rfl, hb⟩)
    go_ret
    exact ⟨ret_val (by rw [R.out]; rfl), ((Below.refl _ _).alloc (Nat.le_refl _) _).trans (hb.mono (by simp))⟩
  · have R := Lib.hid (M.dtext_t hv)
    obtain ⟨b1, b2, b3, b4, b5, b6⟩ := M.vld_bd hv
    have z4 : (strOfNums (M.dg 4 y.toNat)).size = 4 := by rw [strOfNums_size, M.dg_len]
    have z2 : (strOfNums (M.dg 2 m.toNat)).size = 2 := by rw [strOfNums_size, M.dg_len]
    have z2' : (strOfNums (M.dg 2 d.toNat)).size = 2 := by rw [strOfNums_size, M.dg_len]
    go_enter Try.func44, Try.ntmps44
    go_wp2_with (go_at_call 51; refine (Valid_any _ _ _ _).mono ?_; rintro e w1 ⟨rfl, hb⟩; obtain ⟨hc, hf⟩ := bcell hb)
    have hz : w.heap.size < w1.heap.size := by have := hb.size; simp at this; omega
    have hS := Abv.cells w1
    refine wp_region_abv (by kernel_rfl) (by kernel_rfl) ?_
    repeat (go_big_quiet_step ((first | (go_at_call_of 59 (Value.int IntKind.i64 4); exact abv_call (Text4 _ _ (by omega) (by omega))) | (go_at_call_of 59 (Value.int IntKind.i64 2); exact abv_call (Text2 _ _ (by omega) (by omega))))))
    refine wpQuiet_nil ?_
    rintro w2 hb2
    go_wp2
    go_ret
    exact ⟨ret_val (by rw [R.out]; simp only [str_dash, str_append]; simp), (((Below.refl _ _).alloc (Nat.le_refl _) _).trans (hb.mono (by simp))).trans (hb2.mono (by omega))⟩

theorem str_empty {t : ByteArray} (h : t.size = 0) : t = ⟨#[]⟩ := by
  rcases t with ⟨⟨l⟩⟩
  cases l with
  | nil => rfl
  | cons a l => simp [ByteArray.size] at h
theorem conv_one (w : World) (c : Int) : (Go.convert 67 9 (.slice (some ⟨w.heap.size, 0, none⟩) 1 1)).run Try.prog (w.alloc (.cells #[.int .u8 c] 5)) = .ok (.string (strOfNums [c])) (w.alloc (.cells #[.int .u8 c] 5)) :=
  run_convert_bytes_arg (w.alloc (.cells #[.int .u8 c] 5)) 67 5 Try.underlying67 Try.underlying5 w.heap.size 0 1 1 [c] rfl (fun i hi => by
    obtain rfl : i = 0 := by omega
    simp [go_sem]) 9 Try.underlying9

theorem M.digs_pad : ∀ (f m K : Nat), m < 10 ^ f → K ≤ f → M.digs f m K = List.replicate (K - (M.digs f m 0).length) 48 ++ M.digs f m 0
  | 0, m, K, h, hK => by
    obtain rfl : K = 0 := by omega
    rfl
  | f + 1, m, K, h, hK => by
    have hm : m / 10 < 10 ^ f := by rw [Nat.pow_succ, Nat.mul_comm] at h; exact Nat.div_lt_of_lt_mul h
    rcases Nat.eq_zero_or_pos K with rfl | hp
    · simp
    · obtain ⟨k, rfl⟩ : ∃ k, K = k + 1 := ⟨K - 1, by omega⟩
      rw [M.digs_step (by omega), Nat.add_sub_cancel, M.digs_pad f (m / 10) k hm (by omega)]
      rcases Nat.eq_zero_or_pos m with rfl | hp
      · rw [M.digs_nil, M.digs_nil]
        simp [List.replicate_succ']
      · rw [M.digs_step (f := f) (m := m) (k := 0) (by omega)]
        simp
def szOf : Value → Nat
  | .string s => s.size
  | _ => 0

/-- At the head of the first loop: L holds the last digits, M is what is left. -/
structure RInv (w wr : World) (n m : Int) (j : Nat) (L : List Int) : Prop where
  bel : Below w.heap.size w wr
  len : L.length = j
  small : m.natAbs < 10 ^ (20 - j)
  digs : M.digs 20 n.natAbs 0 = M.digs (20 - j) m.natAbs 0 ++ L
  sgn : n < 0 → m ≤ 0
  pos : 0 ≤ n → 0 ≤ m
  lo : n < 0 → n ≤ m
  hi : 0 ≤ n → m ≤ n

theorem RInv.next {w wr : World} {n m q r d : Int} {j : Nat} {L : List Int} (h : RInv w wr n m j L) (hm : m ≠ 0) (hq : 10 * q + r = m) (hd : (0 < m ∧ d = r ∧ 0 ≤ r) ∨ (m < 0 ∧ d = -r ∧ r ≤ 0)) (d1 : 0 ≤ d) (d2 : d ≤ 9) :
    RInv w (wr.alloc (.cells #[.int .u8 (48 + d)] 5)) n q (j + 1) ((48 + d) :: L) := by
  have hj : j < 20 := by
    have := h.small
    rcases Nat.lt_or_ge j 20 with h | h
    · exact h
    · rw [show 20 - j = 0 by omega] at this; simp at this; omega
  have e1 : q.natAbs = m.natAbs / 10 := by omega
  have e2 : d = (m.natAbs : Int) % 10 := by omega
  have s0 := h.sgn
  have p0 := h.pos
  have l0 := h.lo
  have h0 := h.hi
  refine ⟨h.bel.alloc (h.bel.size) _, by simp [h.len], ?_, ?_, fun h => by omega, fun h => by omega, fun h => by omega, fun h => by omega⟩
  · have := h.small
    rw [show 20 - j = (20 - (j + 1)) + 1 by omega, Nat.pow_succ, Nat.mul_comm] at this
    rw [e1]
    exact Nat.div_lt_of_lt_mul this
  · rw [h.digs, show 20 - j = (20 - (j + 1)) + 1 by omega, M.digs_step (by omega), List.append_assoc, e1, e2]; rfl
theorem RInv.short {w wr : World} {n m : Int} {j : Nat} {L : List Int} (h : RInv w wr n m j L) (hm : m ≠ 0) : j ≤ 20 := by
  have := h.small
  rcases Nat.lt_or_ge j 20 with h | h
  · omega
  · rw [show 20 - j = 0 by omega] at this; simp at this; omega

set_option maxRecDepth 100000 in
set_option maxHeartbeats 1000000 in
theorem rText_any (n k : Int) (w : World) (h1 : -9223372036854775808 ≤ n) (h2 : n ≤ 9223372036854775807) (h3 : -9223372036854775808 ≤ k) (h4 : k ≤ 9223372036854775807) :
    Calls Try.prog 61 #[.int .i64 n, .int .i64 k] w fun e w' => e = .returned (.string (strOfNums (M.txt n k))) ∧ Below w.heap.size w w' := by
  by_cases hbad : k < 0 ∨ 20 < k
  · have R := Lib.hid (M.txt_bad (n := n) hbad)
    have h' : k < 0 ∨ (0 ≤ k ∧ 20 < k) := by omega
    clear hbad
    rcases h' with h | ⟨h, h'⟩
    all_goals
      go_enter Try.func61, Try.ntmps61
      go_wp2
      go_ret
      exact ⟨ret_val (by rw [R.out]; rfl), Below.refl _ _⟩
  · have HB := Lib.hid hbad
    have k0 : 0 ≤ k := by omega
    have k20 : k ≤ 20 := by omega
    clear hbad
    go_enter Try.func61, Try.ntmps61
    go_wp2
    go_loopw [5, 6] (fun s m wr => ∃ (j : Nat) (m' : Int) (L : List Int), m = .int .i64 m' ∧ s = .string (strOfNums L) ∧ Hid (RInv w wr n m' j L) ∧ -9223372036854775808 ≤ m' ∧ m' ≤ 9223372036854775807) (fun _ m _ => (intOf m).natAbs)
    case atStart => exact ⟨0, n, [], rfl, rfl, Lib.hid ⟨Below.refl _ _, rfl, by simp; omega, by simp, fun h => by omega, fun h => h, fun _ => by omega, fun _ => by omega⟩, h1, h2⟩
    case round =>
      obtain ⟨j, m', L, rfl, rfl, inv, m1, m2⟩ := hrel
      rcases Int.lt_trichotomy m' 0 with hm | hm0 | hm
      · obtain ⟨q, e2⟩ : ∃ q, m'.tdiv 10 = q := ⟨_, rfl⟩
        obtain ⟨r, e1⟩ : ∃ r, m'.tmod 10 = r := ⟨_, rfl⟩
        have e1' : m'.tmod 10 = -((-m') % 10) := M.tmod_neg (by omega) (by omega)
        have e2' : m'.tdiv 10 = -((-m') / 10) := M.tdiv_neg (by omega) (by omega)
        have b1 : -9 ≤ r ∧ r ≤ 0 ∧ 10 * q + r = m' ∧ m' < q ∧ q ≤ 0 := by omega
        clear e1' e2'
        obtain ⟨b1, b2, b3, b4, b5⟩ := b1
        have hcv := conv_one wr (48 + -r)
        have nx := Lib.hid (inv.out.next (q := q) (r := r) (d := -r) (by omega) (by omega) (by omega) (by omega) (by omega))
        have sz : (strOfNums L).size ≤ 20 := by rw [strOfNums_size, inv.out.len]; exact inv.out.short (by omega)
        have s1 : (strOfNums [48 + -r]).size = 1 := rfl
        clear b3
        have mz : (m' != 0) = true := by simp; omega
        rcases Int.lt_or_le r 0 with hr | hr
        · go_wp2
          go_roundw
          case rel => exact ⟨j + 1, q, _, rfl, by rw [str_append]; rfl, nx, by omega, by omega⟩
          case measure => simp [intOf]; omega
        · obtain rfl : r = 0 := by omega
          have hcv0 := conv_one wr 48
          have s10 : (strOfNums [48]).size = 1 := rfl
          go_wp2
          go_roundw
          case rel => exact ⟨j + 1, q, _, rfl, by rw [str_append]; rfl, nx, by omega, by omega⟩
          case measure => simp [intOf]; omega
      · have hD : Hid (M.digs 20 n.natAbs 0 = L) := Lib.hid (by rw [inv.out.digs, hm0, Int.natAbs_zero, M.digs_nil]; rfl)
        have hbel := inv.out.bel
        have ln : L.length ≤ 20 := by rw [← hD.out]; exact M.digs_len _ _ _
        have hfin : Hid (∀ i : Nat, (i = 0 ∨ (i + L.length : Int) ≤ max k 1) → 1 ≤ i + L.length → k ≤ (i + L.length : Int) → M.digs 20 n.natAbs (max k 1).toNat = List.replicate i 48 ++ L) := Lib.hid fun i h1 h2 h3 => by
          rw [M.digs_pad 20 n.natAbs _ (by omega) (by omega), hD.out, show (max k 1).toNat - L.length = i by omega]
        clear inv
        subst hm0
        go_wp2
        go_loop [5] (fun s => ∃ i : Nat, s = .string (strOfNums (List.replicate i 48 ++ L)) ∧ (i = 0 ∨ (i + L.length : Int) ≤ max k 1)) (fun s => 21 - szOf s)
        case atStart => exact ⟨0, rfl, .inl rfl⟩
        case round =>
          obtain ⟨i, rfl, hi⟩ := hrel
          obtain ⟨x, hx⟩ : ∃ x, strOfNums (List.replicate i 48 ++ L) = x := ⟨_, rfl⟩
          have hsz : x.size = i + L.length := by rw [← hx, strOfNums_size]; simp
          have sx : x.size ≤ 20 := by omega
          have HX := Lib.hid hx
          rw [hx]
          clear hx
          by_cases hz : i + L.length = 0
          · have hem : x.toList.isEmpty = true := by rw [ByteArray.toList_eq, str_empty (t := x) (by omega)]; rfl
            have HI := Lib.hid hi
            clear hi
            go_wp2
            go_round
            case rel => exact ⟨i + 1, by rw [← HX.out]; exact congrArg Value.string (str_append [48] _), by omega⟩
            case measure => simp [szOf]; rw [show ({ data := #[48] } : ByteArray).size = 1 from rfl]; omega
          · have hem : x.toList.isEmpty = false := txt_full (by omega)
            by_cases hlt : (i + L.length : Int) < k
            · have hlt' : (x.size : Int) < k := by omega
              have HI := Lib.hid hi
              have HS := Lib.hid hsz
              clear hi hsz
              go_wp2
              go_round
              case rel => exact ⟨i + 1, by rw [← HX.out]; exact congrArg Value.string (str_append [48] _), by omega⟩
              case measure => simp [szOf]; rw [show ({ data := #[48] } : ByteArray).size = 1 from rfl]; omega
            · have hlt' : k ≤ (x.size : Int) := by omega
              have R := Lib.hid (hfin.out i hi (by omega) (by omega))
              clear hi hsz hlt
              rcases Int.lt_or_le n 0 with hn | hn
              · go_wp2
                go_ret
                exact ⟨ret_val (by rw [M.txt_neg HB.out hn, R.out, ← HX.out]; exact congrArg Value.string (str_append [45] _)), hbel⟩
              · go_wp2
                exact bodyPost_ret (v := .string x) (by simp [results, Try.results61, go_sem]) rfl ⟨ret_val (by rw [M.txt_pos HB.out (by omega), R.out, ← HX.out]), hbel⟩
      · have hcv := conv_one wr (48 + m' % 10)
        have nx := Lib.hid (inv.out.next (q := m' / 10) (r := m' % 10) (d := m' % 10) (by omega) (by omega) (by omega) (by omega) (by omega))
        have sz : (strOfNums L).size ≤ 20 := by rw [strOfNums_size, inv.out.len]; exact inv.out.short (by omega)
        have s1 : (strOfNums [48 + m' % 10]).size = 1 := rfl
        have b1 : 0 ≤ m' % 10 := by omega
        have b2 : m' % 10 ≤ 9 := by omega
        have mz : (m' != 0) = true := by simp; omega
        go_wp2
        go_roundw
        case rel => exact ⟨j + 1, m' / 10, _, rfl, by rw [str_append]; rfl, nx, by omega, by omega⟩
        case measure => simp [intOf]; omega

/-- The reference's texts of the fields of a date. -/
theorem rText4 (n : Int) (w : World) (h1 : 0 ≤ n) (h2 : n ≤ 9999) :
    Calls Try.prog 61 #[.int .i64 n, .int .i64 4] w fun e w' => e = .returned (.string (strOfNums (M.dg 4 n.toNat))) ∧ Below w.heap.size w w' := by
  have := rText_any n 4 w (by omega) (by omega) (by omega) (by omega)
  rw [M.txt_dg h1 (by omega) (by omega) (by show _ < 10000; omega)] at this; exact this
theorem rText2 (n : Int) (w : World) (h1 : 0 ≤ n) (h2 : n ≤ 99) :
    Calls Try.prog 61 #[.int .i64 n, .int .i64 2] w fun e w' => e = .returned (.string (strOfNums (M.dg 2 n.toNat))) ∧ Below w.heap.size w w' := by
  have := rText_any n 2 w (by omega) (by omega) (by omega) (by omega)
  rw [M.txt_dg h1 (by omega) (by omega) (by show _ < 100; omega)] at this; exact this
theorem dateText_at {x y m d : Int} (w : World) (hv : M.vld y m d = true) (hx : M.cnt y m d = x) :
    Calls Try.prog 46 #[.int .i64 x] w fun e w' => e = .returned (.string (strOfNums (M.dtext y m d))) ∧ Below w.heap.size w w' := by
  have R := Lib.hid (M.dtext_t hv)
  obtain ⟨b1, b2, b3, b4, b5, b6⟩ := M.vld_bd hv
  have HF : Hid (∀ w, Calls Try.prog 60 #[.int .i64 x] w fun e w' => e = .returned (.agg #[.int .i64 y, .int .i64 m, .int .i64 d]) ∧ Below w.heap.size w w') := Lib.hid fun w => Fields_at w hv hx
  have z4 : (strOfNums (M.dg 4 y.toNat)).size = 4 := by rw [strOfNums_size, M.dg_len]
  have z2 : (strOfNums (M.dg 2 m.toNat)).size = 2 := by rw [strOfNums_size, M.dg_len]
  have z2' : (strOfNums (M.dg 2 d.toNat)).size = 2 := by rw [strOfNums_size, M.dg_len]
  clear hv hx
  go_enter Try.func46, Try.ntmps46
  go_wp2_with fail
  refine (HF.out _).mono ?_
  rintro e w1 ⟨rfl, hb⟩
  obtain ⟨W2, hW2⟩ : ∃ W2, w1.alloc (.cells #[.int .i64 y, .int .i64 m, .int .i64 d] 59) = W2 := ⟨_, rfl⟩
  have q0 : W2.cell? ⟨w1.heap.size, 0, none⟩ = some (.int .i64 y) := by rw [← hW2]; simp [go_sem]
  have q1 : W2.cell? ⟨w1.heap.size, 1, none⟩ = some (.int .i64 m) := by rw [← hW2]; simp [go_sem]
  have q2 : W2.cell? ⟨w1.heap.size, 2, none⟩ = some (.int .i64 d) := by rw [← hW2]; simp [go_sem]
  have zz : w1.heap.size < W2.heap.size := by rw [← hW2]; simp
  have B2 : Below w.heap.size w W2 := by rw [← hW2]; exact hb.alloc hb.size _
  have hS := Abv.cells W2
  go_wp2_with fail
  refine wp_region_abv (by kernel_rfl) (by kernel_rfl) ?_
  repeat (go_big_quiet_step ((first | (go_at_call_of 61 (Value.int IntKind.i64 4); exact abv_call (rText4 _ _ (by omega) (by omega))) | (go_at_call_of 61 (Value.int IntKind.i64 2); exact abv_call (rText2 _ _ (by omega) (by omega))))))
  refine wpQuiet_nil ?_
  rintro w2 hb2
  go_wp2
  go_ret
  exact ⟨ret_val (by rw [R.out]; simp only [str_dash, str_append]; simp), B2.trans (hb2.mono B2.size)⟩

end Go.Proofs.Ytplgladflhglaaa
