/- Walks of the small functions of wal and of its reference: checks, numbers. -/
import Derived.Test.YtfkeedeiafegiaaProg
import Derived.Test.YtfkeedeiafegiaaWalMem
import Derived.LoopTactic
import Derived.Outline
import Derived.Deep.QuietTactic
import Derived.BigQuiet
import Derived.Laws.BitsAllLaws
namespace Go.Proofs.Ytfkeedeiafegiaa.Wl
set_option linter.unusedVariables false
set_option linter.unusedSimpArgs false
open Go.RowKit

theorem or_byte (s : Nat) (x : UInt8) (h : s < 72057594037927936) : bits .or .u64 ((s : Int) * 256) (x.toNat : Int) = ((s * 256 + x.toNat : Nat) : Int) := by
  have hx := x.toNat_lt
  have := u64_or_nat (s * 256) x.toNat (by omega) (by omega)
  rw [nat_join 8 _ _ (by omega) (by omega)] at this
  rw [← this]; congr 1
theorem or_2 (a b n : Nat) (ha : a % 2 ^ n = 0) (hb : b < 2 ^ n) (h1 : a < 4294967296) (h2 : b < 4294967296) : bits .or .u32 (a : Int) (b : Int) = ((a + b : Nat) : Int) := by
  rw [u32_or_nat a b h1 h2, nat_join n a b ha hb]
theorem or_4 (a b c d : Nat) (ha : a < 256) (hb : b < 256) (hc : c < 256) (hd : d < 256) : bits .or .u32 (bits .or .u32 (bits .or .u32 ((a : Int) * 16777216) ((b : Int) * 65536)) ((c : Int) * 256)) (d : Int) =
    ((((a * 256 + b) * 256 + c) * 256 + d : Nat) : Int) := by
  have e1 := or_2 (a * 16777216) (b * 65536) 24 (by omega) (by omega) (by omega) (by omega)
  have e2 := or_2 (a * 16777216 + b * 65536) (c * 256) 16 (by omega) (by omega) (by omega) (by omega)
  have e3 := or_2 (a * 16777216 + b * 65536 + c * 256) d 8 (by omega) (by omega) (by omega) (by omega)
  simp only [Int.natCast_mul, Int.natCast_add, Int.cast_ofNat_Int] at e1 e2 e3 ⊢
  rw [e1, e2, e3]; omega
theorem or_four (x0 x1 x2 x3 : UInt8) : bits .or .u32 (bits .or .u32 (bits .or .u32 ((x0.toNat : Int) * 16777216) ((x1.toNat : Int) * 65536)) ((x2.toNat : Int) * 256)) (x3.toNat : Int) =
    ((((x0.toNat * 256 + x1.toNat) * 256 + x2.toNat) * 256 + x3.toNat : Nat) : Int) :=
  or_4 _ _ _ _ x0.toNat_lt x1.toNat_lt x2.toNat_lt x3.toNat_lt
theorem check_any {A : Option Addr} {n c : Nat} {l : List UInt8} (w : World) (hl : Hid (n = l.length)) (h : Hid (Rd w 1 A n c (bv l))) :
    Calls Try.prog 57 #[.slice A n c] w fun e w' => e = .returned (.int .u32 (chk l : Nat)) ∧ w = w' := by
  have hc := h.out.nc
  have hc2 := h.out.c63
  go_enter Try.func57, Try.ntmps57
  go_wp2
  go_loop [3, 5, 8] (fun s _ i => ∃ k : Nat, k ≤ n ∧ i = .int .i64 k ∧ s = .int .u32 (chk (l.take k) : Nat)) (fun _ _ i => (n - intOf i).toNat)
  case atStart => exact ⟨0, by omega, rfl, rfl⟩
  case round =>
    obtain ⟨k, hk, rfl, rfl⟩ := hrel
    have hb := chk_lt (l.take k)
    obtain ⟨s, hs⟩ : ∃ s, chk (l.take k) = s := ⟨_, rfl⟩
    by_cases hlt : k < n
    · obtain ⟨g, o, x, rfl, hg, hx, hcell⟩ := h.out.byte hlt
      have HS : Hid (chk (l.take (k + 1)) = (31 * s + x.toNat) % 4294967296) := by rw [take_snoc hx, chk_snoc, hs]; exact Lib.hid rfl
      rw [hs] at hb ⊢
      clear hs hx
      have hx := x.toNat_lt
      go_wp2
      go_round
      case rel => exact ⟨k + 1, by omega, by go_num, by rw [HS.out]; congr 1; omega⟩
      case measure => simp [intOf]; omega
    · obtain rfl : k = n := by omega
      rw [hs] at hb ⊢
      have HS : Hid (chk l = s) := by rw [← hs, take_n hl.out]; exact Lib.hid rfl
      clear hs
      go_wp2
      go_ret
      exact ⟨ret_int (by rw [HS.out]), rfl⟩

theorem value_any {A : Option Addr} {n c : Nat} {l : List UInt8} (w : World) (hl : Hid (n = l.length)) (h8 : n ≤ 8) (h : Hid (Rd w 1 A n c (bv l))) :
    Calls Try.prog 58 #[.slice A n c] w fun e w' => e = .returned (.int .u64 (val l : Nat)) ∧ w = w' := by
  have hc := h.out.nc
  have hc2 := h.out.c63
  go_enter Try.func58, Try.ntmps58
  go_wp2
  go_loop [3, 5, 8] (fun s _ i => ∃ k : Nat, k ≤ n ∧ i = .int .i64 k ∧ s = .int .u64 (val (l.take k) : Nat)) (fun _ _ i => (n - intOf i).toNat)
  case atStart => exact ⟨0, by omega, rfl, rfl⟩
  case round =>
    obtain ⟨k, hk, rfl, rfl⟩ := hrel
    by_cases hlt : k < n
    · have hb := val_lt (l.take k)
      have hk7 : 256 ^ (l.take k).length ≤ 256 ^ 7 := Nat.pow_le_pow_right (by omega) (by simp; omega)
      obtain ⟨g, o, x, rfl, hg, hx, hcell⟩ := h.out.byte hlt
      obtain ⟨s, hs⟩ : ∃ s, val (l.take k) = s := ⟨_, rfl⟩
      have HS : Hid (val (l.take (k + 1)) = s * 256 + x.toNat) := by rw [take_snoc hx, val_snoc, hs]; exact Lib.hid rfl
      rw [hs] at hb ⊢
      have hb' : s < 72057594037927936 := by omega
      clear hs hx hb hk7
      have hx := x.toNat_lt
      go_wp2
      go_round
      case rel => 
        exact ⟨k + 1, by omega, by go_num, by rw [HS.out, or_byte s x (by omega)]⟩
      case measure => simp [intOf]; omega
    · obtain rfl : k = n := by omega
      have HS : Hid (val l = val (l.take k)) := by rw [take_n hl.out]; exact Lib.hid rfl
      obtain ⟨s, hs⟩ : ∃ s, val (l.take k) = s := ⟨_, rfl⟩
      rw [hs] at HS ⊢
      clear hs
      go_wp2
      go_ret
      exact ⟨ret_int (by rw [HS.out]), rfl⟩

theorem rCheck_any {A : Option Addr} {n c : Nat} {l : List UInt8} (w : World) (hl : Hid (n = l.length)) (h : Hid (Rd w 1 A n c (bv l))) :
    Calls Try.prog 46 #[.slice A n c] w fun e w' => e = .returned (.int .u32 (chk l : Nat)) ∧ w = w' := by
  have hc := h.out.nc
  have hc2 := h.out.c63
  go_enter Try.func46, Try.ntmps46
  go_wp2
  go_loop [3, 4] (fun s i => ∃ k : Nat, k ≤ n ∧ i = .int .i64 k ∧ s = .int .u32 (chk (l.take k) : Nat)) (fun _ i => (n - intOf i).toNat)
  case atStart => exact ⟨0, by omega, rfl, rfl⟩
  case round =>
    obtain ⟨k, hk, rfl, rfl⟩ := hrel
    have hb := chk_lt (l.take k)
    obtain ⟨s, hs⟩ : ∃ s, chk (l.take k) = s := ⟨_, rfl⟩
    by_cases hlt : k < n
    · obtain ⟨g, o, x, rfl, hg, hx, hcell⟩ := h.out.byte hlt
      have HS : Hid (chk (l.take (k + 1)) = (31 * s + x.toNat) % 4294967296) := by rw [take_snoc hx, chk_snoc, hs]; exact Lib.hid rfl
      rw [hs] at hb ⊢
      clear hs hx
      have hx := x.toNat_lt
      go_wp2
      go_round
      case rel => exact ⟨k + 1, by omega, by go_num, by rw [HS.out]; congr 1; omega⟩
      case measure => simp [intOf]; omega
    · obtain rfl : k = n := by omega
      rw [hs] at hb ⊢
      have HS : Hid (chk l = s) := by rw [← hs, take_n hl.out]; exact Lib.hid rfl
      clear hs
      go_wp2
      go_ret
      exact ⟨ret_int (by rw [HS.out]), rfl⟩

/-- A slice of bytes that was appended to. -/
def Ap (w : World) (base : Nat) (A : Option Addr) (n : Nat) (l : List UInt8) (m : Nat) (r : List UInt8) (e : Ending) (w' : World) : Prop :=
  ∃ A' c', e = .returned (.slice A' (n + m) c') ∧ w'.ownsRow base 5 1 (.slice A' (n + m) c') (n + m) (bv (l ++ r)) ∧ Grew w A w' A'
theorem be_get : ∀ (k n i : Nat), i < k → (be k n)[i]? = some (UInt8.ofNat (n / 256 ^ (k - 1 - i)))
  | 0, _, _, h => by omega
  | k + 1, n, 0, _ => by simp [be]
  | k + 1, n, i + 1, h => by
    rw [be, List.getElem?_cons_succ, be_get k n i (by omega), show k - 1 - i = k + 1 - 1 - (i + 1) by omega]
theorem info_u8 : (Try.prog.info? 5).map (fun i => (i.zero, i.size, i.bytes)) = some (some (.int .u8 0), 1, 1) := by kernel_rfl
theorem number_any {A : Option Addr} {n c base : Nat} {l : List UInt8} (x k : Nat) (w : World) (h : Hid (w.ownsRow base 5 1 (.slice A n c) n (bv l))) (hk8 : k ≤ 8) (hx : x < 18446744073709551616) (hn : n ≤ 2147483648) (hbase : base ≤ w.heap.size) :
    Calls Try.prog 56 #[.slice A n c, .int .u64 x, .int .i64 k] w (Ap w base A n l k (be k x)) := by
  obtain ⟨i0, hi, hz0, hz1, hz2⟩ := info_parts info_u8
  go_enter Try.func56, Try.ntmps56
  go_wp2
  go_loopw [0, 7] (fun v i wr => ∃ j A' c', j ≤ k ∧ i = .int .i64 ((j : Int) - 1) ∧ v = .slice A' (n + (k - j)) c' ∧ Hid (wr.ownsRow base 5 1 (.slice A' (n + (k - j)) c') (n + (k - j)) (bv (l ++ (be k x).take (k - j)))) ∧ Grew w A wr A') (fun _ i _ => (intOf i + 1).toNat)
  case atStart => exact ⟨k, A, c, Nat.le_refl _, by simp, by simp, by simpa using h, Grew.refl _ _⟩
  case round =>
    obtain ⟨j, A', c', hj, rfl, rfl, hown, hg⟩ := hrel
    have hzw := hg.by_.size
    rcases j with _ | j
    · go_wp2
      go_ret
      exact ⟨A', c', by simp, by simpa [List.take_of_length_le (Nat.le_of_eq (be_len k x))] using hown.out, hg⟩
    · have hv : Hid (Value.int .u8 (x / 2 ^ (8 * j) % 256) = .int .u8 ((UInt8.ofNat (x / 256 ^ j)).toNat : Int)) := by
        have : (2 : Nat) ^ (8 * j) = 256 ^ j := by rw [Nat.pow_mul]
        refine Lib.hid ?_
        congr 1
        rw [show ((2 : Int) ^ (8 * j)) = ((2 ^ (8 * j) : Nat) : Int) by simp, this]
        simp
      have hs : Hid (List.take (k - j) (be k x) = List.take (k - (j + 1)) (be k x) ++ [UInt8.ofNat (x / 256 ^ j)]) := by
        have := be_get k x (k - (j + 1)) (by omega)
        rw [show k - 1 - (k - (j + 1)) = j by omega] at this
        rw [show k - j = k - (j + 1) + 1 by omega, take_snoc this]; exact Lib.hid rfl
      go_wp2_with (at_builtin; refine wpList_app _ rfl (.tmp 14) (.tmp 20) 22 rfl base 5 i0 (.int .u8 0) 1 1 Try.underlying22 hi hz0 hz1 hz2 rfl (by omega) (by rfl) (own_alloc hown.out _) (by rfl) (Rd.lit _ _ 1 #[.int .u8 (x / 2 ^ (8 * j) % 256)] 1 (by omega) rfl) (one1 _ rfl) (by omega) (by omega) (by simp; omega) ?_; intro A1 c1 w1 hown1 hg1)
      have e : n + (k - (j + 1)) + 1 = n + (k - j) := by omega
      refine ⟨⟨j, A1, c1, by omega, rfl, by rw [e], ?_, (hg.alloc _).trans hg1⟩, by simp [intOf]⟩
      rw [e] at hown1
      rw [hs.out, ← List.append_assoc, bv_app (l ++ _)]
      rw [hv.out] at hown1
      exact hown1

/-- Bytes in a row of the call's own. -/
def Mk (w : World) (m : Nat) (r : List UInt8) (e : Ending) (w' : World) : Prop :=
  ∃ A c, e = .returned (.slice A m c) ∧ w'.ownsRow w.heap.size 5 1 (.slice A m c) m (bv r) ∧ Below w.heap.size w w'
theorem four_any (x : Nat) (w : World) (hx : x < 4294967296) : Calls Try.prog 45 #[.int .u32 x] w (Mk w 4 (be 4 x)) := by
  have hv : Hid ([Value.int .u8 ((x : Int) / 16777216), .int .u8 ((x : Int) / 65536 % 256), .int .u8 ((x : Int) / 256 % 256), .int .u8 ((x : Int) % 256)] = bv (be 4 x)) := by
    refine Lib.hid ?_
    simp [bv, be]; omega
  go_enter Try.func45, Try.ntmps45
  go_wp2
  go_ret
  refine ⟨_, _, rfl, ?_, (Below.refl _ _).alloc (Nat.le_refl _) _⟩
  rw [← hv.out]
  exact own_lit w (base := w.heap.size) 5 1 #[_, _, _, _] 4 (Nat.le_refl _) (by unfold maxLen; omega) rfl
theorem rnumber_any {A : Option Addr} {n c : Nat} {l : List UInt8} (w : World) (h4 : 4 ≤ n) (h : Hid (Rd w 1 A n c (bv l))) :
    Calls Try.prog 59 #[.slice A n c] w fun e w' => e = .returned (.int .u32 (val (l.take 4) : Nat)) ∧ ∃ k, w' = w.drewN k := by
  obtain ⟨g, o, x0, rfl, hg, hx0, c0⟩ := h.out.byte (k := 0) (by omega)
  obtain ⟨g1, o1, x1, e1, _, hx1, c1⟩ := h.out.byte (k := 1) (by omega)
  obtain ⟨g2, o2, x2, e2, _, hx2, c2⟩ := h.out.byte (k := 2) (by omega)
  obtain ⟨g3, o3, x3, e3, _, hx3, c3⟩ := h.out.byte (k := 3) (by omega)
  cases e1; cases e2; cases e3
  simp only [Nat.add_zero] at c0
  have hp : 0 < n := by omega
  have hn : (3 : Int) < (n : Int) := by omega
  have hn2 : (2 : Int) < (n : Int) := by omega
  have hn1 : (1 : Int) < (n : Int) := by omega
  have hn0 : (0 : Int) < (n : Int) := by omega
  have HV : Hid (val (l.take 4) = ((x0.toNat * 256 + x1.toNat) * 256 + x2.toNat) * 256 + x3.toNat) := by
    refine Lib.hid ?_
    rw [take_snoc hx3, take_snoc hx2, take_snoc hx1, take_snoc hx0]
    simp only [val_snoc, List.take_zero]
    simp [val]
  clear hx0 hx1 hx2 hx3
  have b0 := x0.toNat_lt
  have b1 := x1.toNat_lt
  have b2 := x2.toNat_lt
  have b3 := x3.toNat_lt
  go_enter Try.func59, Try.ntmps59
  go_wp2
  go_quiet (fail)
  go_wp2
  go_ret
  exact ⟨ret_int (by rw [HV.out]; exact or_four x0 x1 x2 x3), nq, rfl⟩

/-- A record is valid, of n bytes of data. -/
def okV (k t : Int) (n : Nat) : Bool := decide (1 ≤ k ∧ k ≤ 3 ∧ 1 ≤ t ∧ n ≤ 4096 ∧ (k = 3 → n = 0))
theorem okV_t {k t : Int} {n : Nat} (h : 1 ≤ k ∧ k ≤ 3 ∧ 1 ≤ t ∧ n ≤ 4096 ∧ (k = 3 → n = 0)) : okV k t n = true := decide_eq_true h
theorem okV_f {k t : Int} {n : Nat} (h : ¬ (1 ≤ k ∧ k ≤ 3 ∧ 1 ≤ t ∧ n ≤ 4096 ∧ (k = 3 → n = 0))) : okV k t n = false := decide_eq_false h
theorem valid_any (k t : Int) (A : Option Addr) (n c : Nat) (w : World) : Calls Try.prog 42 #[.agg #[.int .i64 k, .int .i64 t, .slice A n c]] w fun e w' => e = .returned (.bool (okV k t n)) ∧ Below w.heap.size w w' := by
  have fin : ∀ b : Bool, okV k t n = b → Hid (b = okV k t n) := fun b h => Lib.hid h.symm
  by_cases h1 : 1 ≤ k
  · by_cases h2 : k ≤ 3
    · by_cases h3 : 1 ≤ t
      · by_cases h4 : n ≤ 4096
        · by_cases h5 : k = 3
          · subst h5
            by_cases h6 : n = 0
            · subst h6
              have R := fin true (okV_t (by omega))
              clear fin
              go_enter Try.func42, Try.ntmps42
              go_wp2
              go_ret
              exact ⟨ret_bool R.out, (Below.refl _ _).alloc (Nat.le_refl _) _⟩
            · have R := fin false (okV_f (by omega))
              have hd : ((n : Int) == 0) = false := by simp; omega
              clear fin
              go_enter Try.func42, Try.ntmps42
              go_wp2
              go_ret
              exact ⟨ret_bool R.out, (Below.refl _ _).alloc (Nat.le_refl _) _⟩
          · have R := fin true (okV_t (by omega))
            have hd : (k != 3) = true := by simp; omega
            clear fin
            go_enter Try.func42, Try.ntmps42
            go_wp2
            go_ret
            exact ⟨ret_bool R.out, (Below.refl _ _).alloc (Nat.le_refl _) _⟩
        · have R := fin false (okV_f (by omega))
          clear fin
          go_enter Try.func42, Try.ntmps42
          go_wp2
          go_ret
          exact ⟨ret_bool R.out, (Below.refl _ _).alloc (Nat.le_refl _) _⟩
      · have R := fin false (okV_f (by omega))
        clear fin
        go_enter Try.func42, Try.ntmps42
        go_wp2
        go_ret
        exact ⟨ret_bool R.out, (Below.refl _ _).alloc (Nat.le_refl _) _⟩
    · have R := fin false (okV_f (by omega))
      clear fin
      go_enter Try.func42, Try.ntmps42
      go_wp2
      go_ret
      exact ⟨ret_bool R.out, (Below.refl _ _).alloc (Nat.le_refl _) _⟩
  · have R := fin false (okV_f (by omega))
    clear fin
    go_enter Try.func42, Try.ntmps42
    go_wp2
    go_ret
    exact ⟨ret_bool R.out, (Below.refl _ _).alloc (Nat.le_refl _) _⟩
theorem rValid_any (k t : Int) (A : Option Addr) (n c : Nat) (w : World) : Calls Try.prog 44 #[.agg #[.int .i64 k, .int .i64 t, .slice A n c]] w fun e w' => e = .returned (.bool (okV k t n)) ∧ Below w.heap.size w w' := by
  have fin : ∀ b : Bool, okV k t n = b → Hid (b = okV k t n) := fun b h => Lib.hid h.symm
  by_cases h1 : 1 ≤ k
  · by_cases h2 : k ≤ 3
    · by_cases h3 : 1 ≤ t
      · by_cases h4 : n ≤ 4096
        · by_cases h5 : k = 3
          · subst h5
            by_cases h6 : n = 0
            · subst h6
              have R := fin true (okV_t (by omega))
              clear fin
              go_enter Try.func44, Try.ntmps44
              go_wp2
              go_ret
              exact ⟨ret_bool R.out, (Below.refl _ _).alloc (Nat.le_refl _) _⟩
            · have R := fin false (okV_f (by omega))
              have hd : ((n : Int) == 0) = false := by simp; omega
              clear fin
              go_enter Try.func44, Try.ntmps44
              go_wp2
              go_ret
              exact ⟨ret_bool R.out, (Below.refl _ _).alloc (Nat.le_refl _) _⟩
          · have R := fin true (okV_t (by omega))
            have hd : (k != 3) = true := by simp; omega
            clear fin
            go_enter Try.func44, Try.ntmps44
            go_wp2
            go_ret
            exact ⟨ret_bool R.out, (Below.refl _ _).alloc (Nat.le_refl _) _⟩
        · have R := fin false (okV_f (by omega))
          clear fin
          go_enter Try.func44, Try.ntmps44
          go_wp2
          go_ret
          exact ⟨ret_bool R.out, (Below.refl _ _).alloc (Nat.le_refl _) _⟩
      · have R := fin false (okV_f (by omega))
        clear fin
        go_enter Try.func44, Try.ntmps44
        go_wp2
        go_ret
        exact ⟨ret_bool R.out, (Below.refl _ _).alloc (Nat.le_refl _) _⟩
    · have R := fin false (okV_f (by omega))
      clear fin
      go_enter Try.func44, Try.ntmps44
      go_wp2
      go_ret
      exact ⟨ret_bool R.out, (Below.refl _ _).alloc (Nat.le_refl _) _⟩
  · have R := fin false (okV_f (by omega))
    clear fin
    go_enter Try.func44, Try.ntmps44
    go_wp2
    go_ret
    exact ⟨ret_bool R.out, (Below.refl _ _).alloc (Nat.le_refl _) _⟩
end Go.Proofs.Ytfkeedeiafegiaa.Wl
