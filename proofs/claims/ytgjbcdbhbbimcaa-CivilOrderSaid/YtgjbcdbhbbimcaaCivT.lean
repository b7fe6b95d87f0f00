/- Walks through the texts of dates. -/
import Derived.Test.YtgjbcdbhbbimcaaCivR
import Derived.Test.YtgjbcdbhbbimcaaTextM2
import Derived.Test.YtgjbcdbhbbimcaaTextW
import Derived.Deep.RegionWith
namespace Go.Proofs.Ytgjbcdbhbbimcaa
set_option linter.unusedVariables false
set_option linter.unusedSimpArgs false
open Go.RowKit

theorem str_append (a b : List Int) : strOfNums a ++ strOfNums b = strOfNums (a ++ b) := by
  simp only [strOfNums]
  rw [ByteArray.mk_append_mk, List.map_append]
theorem str_dash : (⟨#[45]⟩ : ByteArray) = strOfNums [45] := rfl

theorem enc_digit (c : Int) (h : 48 ≤ c) (h2 : c ≤ 57) : Utf8.encode c = strOfNums [c] := by
  have : c = 48 ∨ c = 49 ∨ c = 50 ∨ c = 51 ∨ c = 52 ∨ c = 53 ∨ c = 54 ∨ c = 55 ∨ c = 56 ∨ c = 57 := by omega
  rcases this with rfl | rfl | rfl | rfl | rfl | rfl | rfl | rfl | rfl | rfl <;> rfl

theorem digits_any (n k : Int) (w : World) (h1 : 0 ≤ n) (h2 : n ≤ 9223372036854775807) (h3 : 0 ≤ k) (h4 : k ≤ 20) :
    Calls Try.prog 47 #[.int .i64 n, .int .i64 k] w fun e w' => e = .returned (.string (strOfNums (M.dg k.toNat n.toNat))) ∧ w = w' := by
  obtain ⟨N, rfl⟩ := Int.eq_ofNat_of_zero_le h1
  obtain ⟨K, rfl⟩ := Int.eq_ofNat_of_zero_le h3
  simp only [Int.toNat_natCast]
  go_enter Try.func47, Try.ntmps47
  go_wp2
  go_loop [5, 6, 0] (fun s i n => ∃ (j m : Nat) (L : List Int), j ≤ K ∧ i = .int .i64 j ∧ n = .int .i64 m ∧ s = .string (strOfNums L) ∧ L.length = j ∧ m ≤ N ∧ Hid (M.dg K N = M.dg (K - j) m ++ L)) (fun _ i _ => (K - intOf i).toNat)
  case atStart => exact ⟨0, N, [], by omega, rfl, rfl, rfl, rfl, Nat.le_refl _, Lib.hid (by simp)⟩
  case round =>
    obtain ⟨j, m, L, hj, rfl, rfl, rfl, hL, hm, hd⟩ := hrel
    have hsz : (strOfNums L).size = j := by rw [strOfNums_size, hL]
    have HL := Lib.hid hL
    clear hL
    by_cases hlt : j < K
    · have nx : Hid (M.dg K N = M.dg (K - (j + 1)) (m / 10) ++ (48 + (m : Int) % 10) :: L) := Lib.hid (by
        rw [hd.out, show K - j = (K - (j + 1)) + 1 by omega, M.dg, List.append_assoc]; rfl)
      have EU := Lib.hid (enc_digit (48 + (m : Int) % 10) (by omega) (by omega))
      have hu : (Utf8.encode (48 + (m : Int) % 10)).size = 1 := by rw [EU.out]; rfl
      go_wp2
      go_round
      case rel => exact ⟨j + 1, m / 10, (48 + (m : Int) % 10) :: L, by omega, by go_num, by congr 1, by rw [EU.out, str_append]; rfl, by simp [HL.out], by omega, nx⟩
      case measure => simp [intOf]; omega
    · obtain rfl : j = K := by omega
      have HD : Hid (M.dg j N = L) := Lib.hid (by rw [hd.out, Nat.sub_self]; rfl)
      go_wp2
      go_ret
      exact ⟨ret_val (by rw [HD.out]; rfl), rfl⟩

theorem digits4 (n : Int) (w : World) (h1 : 0 ≤ n) (h2 : n ≤ 9223372036854775807) :
    Calls Try.prog 47 #[.int .i64 n, .int .i64 4] w fun e w' => e = .returned (.string (strOfNums (M.dg 4 n.toNat))) ∧ w = w' := digits_any n 4 w h1 h2 (by omega) (by omega)
theorem digits2 (n : Int) (w : World) (h1 : 0 ≤ n) (h2 : n ≤ 9223372036854775807) :
    Calls Try.prog 47 #[.int .i64 n, .int .i64 2] w fun e w' => e = .returned (.string (strOfNums (M.dg 2 n.toNat))) ∧ w = w' := digits_any n 2 w h1 h2 (by omega) (by omega)

theorem dtext_len {y m d : Int} (h : M.vld y m d = true) : (M.dtext y m d).length = 10 := by rw [M.dtext_t h]; simp [M.dg_len]

theorem Text4 (n : Int) (w : World) (h1 : 0 ≤ n) (h2 : n ≤ 9999) :
    Calls Try.prog 44 #[.int .i64 n, .int .i64 4] w fun e w' => e = .returned (.string (strOfNums (M.dg 4 n.toNat))) ∧ Below w.heap.size w w' := by
  have := Text_any n 4 w (by omega) (by omega) (by omega) (by omega)
  rw [M.txt_dg h1 (by omega) (by omega) (by show _ < 10000; omega)] at this; exact this
theorem Text2 (n : Int) (w : World) (h1 : 0 ≤ n) (h2 : n ≤ 99) :
    Calls Try.prog 44 #[.int .i64 n, .int .i64 2] w fun e w' => e = .returned (.string (strOfNums (M.dg 2 n.toNat))) ∧ Below w.heap.size w w' := by
  have := Text_any n 2 w (by omega) (by omega) (by omega) (by omega)
  rw [M.txt_dg h1 (by omega) (by omega) (by show _ < 100; omega)] at this; exact this

theorem cText_any (y m d : Int) (w : World) : Calls Try.prog 33 #[.agg #[.int .i64 y, .int .i64 m, .int .i64 d]] w fun e w' => e = .returned (.string (strOfNums (M.dtext y m d))) ∧ Below w.heap.size w w' := by
  rcases hv : M.vld y m d with _ | _
  · have R := Lib.hid (M.dtext_f hv)
    go_enter Try.func33, Try.ntmps33
    go_wp2_with (go_at_call 15; refine (Valid_any _ _ _ _).mono ?_; rintro e w1 ⟨rfl, hb⟩)
    go_ret
    exact ⟨ret_val (by rw [R.out]; rfl), ((Below.refl _ _).alloc (Nat.le_refl _) _).trans (hb.mono (by simp))⟩
  · have R := Lib.hid (M.dtext_t hv)
    obtain ⟨b1, b2, b3, b4, b5, b6⟩ := M.vld_bd hv
    have z4 : (strOfNums (M.dg 4 y.toNat)).size = 4 := by rw [strOfNums_size, M.dg_len]
    have z2 : (strOfNums (M.dg 2 m.toNat)).size = 2 := by rw [strOfNums_size, M.dg_len]
    have z2' : (strOfNums (M.dg 2 d.toNat)).size = 2 := by rw [strOfNums_size, M.dg_len]
    go_enter Try.func33, Try.ntmps33
    go_wp2_with (go_at_call 15; refine (Valid_any _ _ _ _).mono ?_; rintro e w1 ⟨rfl, hb⟩; obtain ⟨hc, hf⟩ := bcell hb)
    have hz : w.heap.size < w1.heap.size := by have := hb.size; simp at this; omega
    have hS := Abv.cells w1
    refine wp_region_abv (by kernel_rfl) (by kernel_rfl) ?_
    repeat (go_big_quiet_step ((first | (go_at_call_of 44 (Value.int IntKind.i64 4); exact abv_call (Text4 _ _ (by omega) (by omega))) | (go_at_call_of 44 (Value.int IntKind.i64 2); exact abv_call (Text2 _ _ (by omega) (by omega))))))
    refine wpQuiet_nil ?_
    rintro w2 hb2
    go_wp2
    go_ret
    exact ⟨ret_val (by rw [R.out]; simp only [str_dash, str_append]; simp), (((Below.refl _ _).alloc (Nat.le_refl _) _).trans (hb.mono (by simp))).trans (hb2.mono (by omega))⟩

theorem rText_any (y m d : Int) (w : World) : Calls Try.prog 36 #[.agg #[.int .i64 y, .int .i64 m, .int .i64 d]] w fun e w' => e = .returned (.string (strOfNums (M.dtext y m d))) ∧ Below w.heap.size w w' := by
  rcases hv : M.vld y m d with _ | _
  · have R := Lib.hid (M.dtext_f hv)
    go_enter Try.func36, Try.ntmps36
    go_wp2_with (go_at_call 16; refine (rValid_any _ _ _ _).mono ?_; rintro e w1 ⟨rfl, hb⟩)
    go_ret
    exact ⟨ret_val (by rw [R.out]; rfl), ((Below.refl _ _).alloc (Nat.le_refl _) _).trans (hb.mono (by simp))⟩
  · have R := Lib.hid (M.dtext_t hv)
    obtain ⟨b1, b2, b3, b4, b5, b6⟩ := M.vld_bd hv
    have z4 : (strOfNums (M.dg 4 y.toNat)).size = 4 := by rw [strOfNums_size, M.dg_len]
    have z2 : (strOfNums (M.dg 2 m.toNat)).size = 2 := by rw [strOfNums_size, M.dg_len]
    have z2' : (strOfNums (M.dg 2 d.toNat)).size = 2 := by rw [strOfNums_size, M.dg_len]
    go_enter Try.func36, Try.ntmps36
    go_wp2_with (go_at_call 16; refine (rValid_any _ _ _ _).mono ?_; rintro e w1 ⟨rfl, hb⟩; obtain ⟨hc, hf⟩ := bcell hb)
    have hz : w.heap.size < w1.heap.size := by have := hb.size; simp at this; omega
    have hS := Abv.cells w1
    refine wp_region_abv (by kernel_rfl) (by kernel_rfl) ?_
    repeat (go_big_quiet_step ((first | (go_at_call_of 47 (Value.int IntKind.i64 4); exact abv_same (digits4 _ _ (by omega) (by omega))) | (go_at_call_of 47 (Value.int IntKind.i64 2); exact abv_same (digits2 _ _ (by omega) (by omega))))))
    refine wpQuiet_nil ?_
    rintro w2 hb2
    go_wp2
    go_ret
    exact ⟨ret_val (by rw [R.out]; simp only [str_dash, str_append]; simp), (((Below.refl _ _).alloc (Nat.le_refl _) _).trans (hb.mono (by simp))).trans (hb2.mono (by omega))⟩

end Go.Proofs.Ytgjbcdbhbbimcaa
