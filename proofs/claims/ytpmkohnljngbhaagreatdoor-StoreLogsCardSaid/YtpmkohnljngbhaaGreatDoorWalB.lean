/- Walks of the small functions of wal and of its reference: checks, numbers. -/
import Derived.Test.YtpmkohnljngbhaaGreatDoorProg
import Derived.Test.YtpmkohnljngbhaaGreatDoorWalA
import Derived.LoopTactic
import Derived.Outline
import Derived.Deep.QuietTactic
import Derived.BigQuiet
import Derived.Laws.BitsAllLaws
import Derived.Lib.SliceRun
import Derived.Deep.RegionHeld3
import Derived.Deep.DrawnRows
import Derived.Laws.BytesArg
import Derived.WalkLawsBesides
set_option linter.all false
namespace Go.Proofs.YtpmkohnljngbhaaGreatDoor.Wl
set_option linter.unusedVariables false
set_option linter.unusedSimpArgs false
set_option maxRecDepth 1000000
open Go.RowKit

theorem or_byte (s : Nat) (x : UInt8) (h : s < 72057594037927936) : bits .or .u64 ((s : Int) * 256) (x.toNat : Int) = ((s * 256 + x.toNat : Nat) : Int) := by
  have hx := x.toNat_lt
  have := u64_or_nat (s * 256) x.toNat (by omega) (by omega)
  rw [nat_join 8 _ _ (by omega) (by omega)] at this
  rw [← this]; congr 1
theorem or_2 (a b n : Nat) (ha : a % 2 ^ n = 0) (hb : b < 2 ^ n) (h1 : a < 4294967296) (h2 : b < 4294967296) : bits .or .u32 (a : Int) (b : Int) = ((a + b : Nat) : Int) := by
  rw [u32_or_nat a b h1 h2, nat_join n a b ha hb]
theorem or_4 (a b c d : Nat) (ha : a < 256) (hb : b < 256) (hc : c < 256) (hd : d < 256) : bits .or .u32 (bits .or .u32 (bits .or .u32 ((a : Int) * 16777216) ((b : Int) * 65536)) ((c : Int) * 256)) (d : Int) =
    ((((a * 256 + b) * 256 + c) * 256 + d : Nat) : Int) := by
  have e1 := or_2 (a * 16777216) (b * 65536) 24 (by omega) (by omega) (by omega) (by omega)
  have e2 := or_2 (a * 16777216 + b * 65536) (c * 256) 16 (by omega) (by omega) (by omega) (by omega)
  have e3 := or_2 (a * 16777216 + b * 65536 + c * 256) d 8 (by omega) (by omega) (by omega) (by omega)
  simp only [Int.natCast_mul, Int.natCast_add, Int.cast_ofNat_Int] at e1 e2 e3 ⊢
  rw [e1, e2, e3]; omega
theorem or_four (x0 x1 x2 x3 : UInt8) : bits .or .u32 (bits .or .u32 (bits .or .u32 ((x0.toNat : Int) * 16777216) ((x1.toNat : Int) * 65536)) ((x2.toNat : Int) * 256)) (x3.toNat : Int) =
    ((((x0.toNat * 256 + x1.toNat) * 256 + x2.toNat) * 256 + x3.toNat : Nat) : Int) :=
  or_4 _ _ _ _ x0.toNat_lt x1.toNat_lt x2.toNat_lt x3.toNat_lt
theorem check_any {A : Option Addr} {n c : Nat} {l : List UInt8} (w : World) (hl : Hid (n = l.length)) (h : Hid (Rd w 1 A n c (bv l))) :
    Calls Tryz.prog 108 #[.slice A n c] w fun e w' => e = .returned (.int .u32 (chk l : Nat)) ∧ w = w' := by
  have hc := h.out.nc
  have hc2 := h.out.c63
  go_enter Tryz.func108, Tryz.ntmps108
  go_wp2
  go_loop [3, 5, 8] (fun s _ i => ∃ k : Nat, k ≤ n ∧ i = .int .i64 k ∧ s = .int .u32 (chk (l.take k) : Nat)) (fun _ _ i => (n - intOf i).toNat)
  case atStart => exact ⟨0, by omega, rfl, rfl⟩
  case round =>
    obtain ⟨k, hk, rfl, rfl⟩ := hrel
    have hb := chk_lt (l.take k)
    obtain ⟨s, hs⟩ : ∃ s, chk (l.take k) = s := ⟨_, rfl⟩
    by_cases hlt : k < n
    · obtain ⟨g, o, x, rfl, hg, hx, hcell⟩ := h.out.byte hlt
      have HS : Hid (chk (l.take (k + 1)) = (31 * s + x.toNat) % 4294967296) := by rw [take_snoc hx, chk_snoc, hs]; exact Lib.hid rfl
      rw [hs] at hb ⊢
      clear hs hx
      have hx := x.toNat_lt
      go_wp2
      go_round
      case rel => exact ⟨k + 1, by omega, by go_num, by rw [HS.out]; congr 1; omega⟩
      case measure => simp [intOf]; omega
    · obtain rfl : k = n := by omega
      rw [hs] at hb ⊢
      have HS : Hid (chk l = s) := by rw [← hs, take_n hl.out]; exact Lib.hid rfl
      clear hs
      go_wp2
      go_ret
      exact ⟨ret_int (by rw [HS.out]), rfl⟩

theorem value_any {A : Option Addr} {n c : Nat} {l : List UInt8} (w : World) (hl : Hid (n = l.length)) (h8 : n ≤ 8) (h : Hid (Rd w 1 A n c (bv l))) :
    Calls Tryz.prog 107 #[.slice A n c] w fun e w' => e = .returned (.int .u64 (val l : Nat)) ∧ w = w' := by
  have hc := h.out.nc
  have hc2 := h.out.c63
  go_enter Tryz.func107, Tryz.ntmps107
  go_wp2
  go_loop [3, 5, 8] (fun s _ i => ∃ k : Nat, k ≤ n ∧ i = .int .i64 k ∧ s = .int .u64 (val (l.take k) : Nat)) (fun _ _ i => (n - intOf i).toNat)
  case atStart => exact ⟨0, by omega, rfl, rfl⟩
  case round =>
    obtain ⟨k, hk, rfl, rfl⟩ := hrel
    by_cases hlt : k < n
    · have hb := val_lt (l.take k)
      have hk7 : 256 ^ (l.take k).length ≤ 256 ^ 7 := Nat.pow_le_pow_right (by omega) (by simp; omega)
      obtain ⟨g, o, x, rfl, hg, hx, hcell⟩ := h.out.byte hlt
      obtain ⟨s, hs⟩ : ∃ s, val (l.take k) = s := ⟨_, rfl⟩
      have HS : Hid (val (l.take (k + 1)) = s * 256 + x.toNat) := by rw [take_snoc hx, val_snoc, hs]; exact Lib.hid rfl
      rw [hs] at hb ⊢
      have hb' : s < 72057594037927936 := by omega
      clear hs hx hb hk7
      have hx := x.toNat_lt
      go_wp2
      go_round
      case rel => 
        exact ⟨k + 1, by omega, by go_num, by rw [HS.out, or_byte s x (by omega)]⟩
      case measure => simp [intOf]; omega
    · obtain rfl : k = n := by omega
      have HS : Hid (val l = val (l.take k)) := by rw [take_n hl.out]; exact Lib.hid rfl
      obtain ⟨s, hs⟩ : ∃ s, val (l.take k) = s := ⟨_, rfl⟩
      rw [hs] at HS ⊢
      clear hs
      go_wp2
      go_ret
      exact ⟨ret_int (by rw [HS.out]), rfl⟩

theorem rCheck_any {A : Option Addr} {n c : Nat} {l : List UInt8} (w : World) (hl : Hid (n = l.length)) (h : Hid (Rd w 1 A n c (bv l))) :
    Calls Tryz.prog 89 #[.slice A n c] w fun e w' => e = .returned (.int .u32 (chk l : Nat)) ∧ w = w' := by
  have hc := h.out.nc
  have hc2 := h.out.c63
  go_enter Tryz.func89, Tryz.ntmps89
  go_wp2
  go_loop [3, 4] (fun s i => ∃ k : Nat, k ≤ n ∧ i = .int .i64 k ∧ s = .int .u32 (chk (l.take k) : Nat)) (fun _ i => (n - intOf i).toNat)
  case atStart => exact ⟨0, by omega, rfl, rfl⟩
  case round =>
    obtain ⟨k, hk, rfl, rfl⟩ := hrel
    have hb := chk_lt (l.take k)
    obtain ⟨s, hs⟩ : ∃ s, chk (l.take k) = s := ⟨_, rfl⟩
    by_cases hlt : k < n
    · obtain ⟨g, o, x, rfl, hg, hx, hcell⟩ := h.out.byte hlt
      have HS : Hid (chk (l.take (k + 1)) = (31 * s + x.toNat) % 4294967296) := by rw [take_snoc hx, chk_snoc, hs]; exact Lib.hid rfl
      rw [hs] at hb ⊢
      clear hs hx
      have hx := x.toNat_lt
      go_wp2
      go_round
      case rel => exact ⟨k + 1, by omega, by go_num, by rw [HS.out]; congr 1; omega⟩
      case measure => simp [intOf]; omega
    · obtain rfl : k = n := by omega
      rw [hs] at hb ⊢
      have HS : Hid (chk l = s) := by rw [← hs, take_n hl.out]; exact Lib.hid rfl
      clear hs
      go_wp2
      go_ret
      exact ⟨ret_int (by rw [HS.out]), rfl⟩

/-- A slice of bytes that was appended to. -/
def Ap (w : World) (base : Nat) (A : Option Addr) (n : Nat) (l : List UInt8) (m : Nat) (r : List UInt8) (e : Ending) (w' : World) : Prop :=
  ∃ A' c', e = .returned (.slice A' (n + m) c') ∧ w'.ownsRow base 5 1 (.slice A' (n + m) c') (n + m) (bv (l ++ r)) ∧ Grew w A w' A'
theorem be_get : ∀ (k n i : Nat), i < k → (be k n)[i]? = some (UInt8.ofNat (n / 256 ^ (k - 1 - i)))
  | 0, _, _, h => by omega
  | k + 1, n, 0, _ => by simp [be]
  | k + 1, n, i + 1, h => by
    rw [be, List.getElem?_cons_succ, be_get k n i (by omega), show k - 1 - i = k + 1 - 1 - (i + 1) by omega]
theorem info_u8 : (Tryz.prog.info? 5).map (fun i => (i.zero, i.size, i.bytes)) = some (some (.int .u8 0), 1, 1) := by kernel_rfl
theorem number_any {A : Option Addr} {n c base : Nat} {l : List UInt8} (x k : Nat) (w : World) (h : Hid (w.ownsRow base 5 1 (.slice A n c) n (bv l))) (hk8 : k ≤ 8) (hx : x < 18446744073709551616) (hn : n ≤ 2147483648) (hbase : base ≤ w.heap.size) :
    Calls Tryz.prog 123 #[.slice A n c, .int .u64 x, .int .i64 k] w (Ap w base A n l k (be k x)) := by
  obtain ⟨i0, hi, hz0, hz1, hz2⟩ := info_parts info_u8
  go_enter Tryz.func123, Tryz.ntmps123
  go_wp2
  go_loopw [0, 7] (fun v i wr => ∃ j A' c', j ≤ k ∧ i = .int .i64 ((j : Int) - 1) ∧ v = .slice A' (n + (k - j)) c' ∧ Hid (wr.ownsRow base 5 1 (.slice A' (n + (k - j)) c') (n + (k - j)) (bv (l ++ (be k x).take (k - j)))) ∧ Grew w A wr A') (fun _ i _ => (intOf i + 1).toNat)
  case atStart => exact ⟨k, A, c, Nat.le_refl _, by simp, by simp, by simpa using h, Grew.refl _ _⟩
  case round =>
    obtain ⟨j, A', c', hj, rfl, rfl, hown, hg⟩ := hrel
    have hzw := hg.by_.size
    rcases j with _ | j
    · go_wp2
      go_ret
      exact ⟨A', c', by simp, by simpa [List.take_of_length_le (Nat.le_of_eq (be_len k x))] using hown.out, hg⟩
    · have hv : Hid (Value.int .u8 (x / 2 ^ (8 * j) % 256) = .int .u8 ((UInt8.ofNat (x / 256 ^ j)).toNat : Int)) := by
        have : (2 : Nat) ^ (8 * j) = 256 ^ j := by rw [Nat.pow_mul]
        refine Lib.hid ?_
        congr 1
        rw [show ((2 : Int) ^ (8 * j)) = ((2 ^ (8 * j) : Nat) : Int) by simp, this]
        simp
      have hs : Hid (List.take (k - j) (be k x) = List.take (k - (j + 1)) (be k x) ++ [UInt8.ofNat (x / 256 ^ j)]) := by
        have := be_get k x (k - (j + 1)) (by omega)
        rw [show k - 1 - (k - (j + 1)) = j by omega] at this
        rw [show k - j = k - (j + 1) + 1 by omega, take_snoc this]; exact Lib.hid rfl
      go_wp2_with (at_builtin; refine wpList_app _ rfl (.tmp 14) (.tmp 20) 30 rfl base 5 i0 (.int .u8 0) 1 1 Tryz.underlying30 hi hz0 hz1 hz2 rfl (by omega) (by rfl) (own_alloc hown.out _) (by rfl) (Rd.lit _ _ 1 #[.int .u8 (x / 2 ^ (8 * j) % 256)] 1 (by omega) rfl) (one1 _ rfl) (by omega) (by omega) (by simp; omega) ?_; intro A1 c1 w1 hown1 hg1)
      have e : n + (k - (j + 1)) + 1 = n + (k - j) := by omega
      refine ⟨⟨j, A1, c1, by omega, rfl, by rw [e], ?_, (hg.alloc _).trans hg1⟩, by simp [intOf]⟩
      rw [e] at hown1
      rw [hs.out, ← List.append_assoc, bv_app (l ++ _)]
      rw [hv.out] at hown1
      exact hown1

/-- Bytes in a row of the call's own. -/
def Mk (w : World) (m : Nat) (r : List UInt8) (e : Ending) (w' : World) : Prop :=
  ∃ A c, e = .returned (.slice A m c) ∧ w'.ownsRow w.heap.size 5 1 (.slice A m c) m (bv r) ∧ Below w.heap.size w w'
theorem four_any (x : Nat) (w : World) (hx : x < 4294967296) : Calls Tryz.prog 88 #[.int .u32 x] w (Mk w 4 (be 4 x)) := by
  have hv : Hid ([Value.int .u8 ((x : Int) / 16777216), .int .u8 ((x : Int) / 65536 % 256), .int .u8 ((x : Int) / 256 % 256), .int .u8 ((x : Int) % 256)] = bv (be 4 x)) := by
    refine Lib.hid ?_
    simp [bv, be]; omega
  go_enter Tryz.func88, Tryz.ntmps88
  go_wp2
  go_ret
  refine ⟨_, _, rfl, ?_, (Below.refl _ _).alloc (Nat.le_refl _) _⟩
  rw [← hv.out]
  exact own_lit w (base := w.heap.size) 5 1 #[_, _, _, _] 4 (Nat.le_refl _) (by unfold maxLen; omega) rfl
theorem rnumber_any {A : Option Addr} {n c : Nat} {l : List UInt8} (w : World) (h4 : 4 ≤ n) (h : Hid (Rd w 1 A n c (bv l))) :
    Calls Tryz.prog 116 #[.slice A n c] w fun e w' => e = .returned (.int .u32 (val (l.take 4) : Nat)) ∧ ∃ k, w' = w.drewN k := by
  obtain ⟨g, o, x0, rfl, hg, hx0, c0⟩ := h.out.byte (k := 0) (by omega)
  obtain ⟨g1, o1, x1, e1, _, hx1, c1⟩ := h.out.byte (k := 1) (by omega)
  obtain ⟨g2, o2, x2, e2, _, hx2, c2⟩ := h.out.byte (k := 2) (by omega)
  obtain ⟨g3, o3, x3, e3, _, hx3, c3⟩ := h.out.byte (k := 3) (by omega)
  cases e1; cases e2; cases e3
  simp only [Nat.add_zero] at c0
  have hp : 0 < n := by omega
  have hn : (3 : Int) < (n : Int) := by omega
  have hn2 : (2 : Int) < (n : Int) := by omega
  have hn1 : (1 : Int) < (n : Int) := by omega
  have hn0 : (0 : Int) < (n : Int) := by omega
  have HV : Hid (val (l.take 4) = ((x0.toNat * 256 + x1.toNat) * 256 + x2.toNat) * 256 + x3.toNat) := by
    refine Lib.hid ?_
    rw [take_snoc hx3, take_snoc hx2, take_snoc hx1, take_snoc hx0]
    simp only [val_snoc, List.take_zero]
    simp [val]
  clear hx0 hx1 hx2 hx3
  have b0 := x0.toNat_lt
  have b1 := x1.toNat_lt
  have b2 := x2.toNat_lt
  have b3 := x3.toNat_lt
  go_enter Tryz.func116, Tryz.ntmps116
  go_wp2
  go_quiet (fail)
  go_wp2
  go_ret
  exact ⟨ret_int (by rw [HV.out]; exact or_four x0 x1 x2 x3), nq, rfl⟩

/-- A record is valid, of n bytes of data. -/
def okV (k t : Int) (n : Nat) : Bool := decide (1 ≤ k ∧ k ≤ 3 ∧ 1 ≤ t ∧ n ≤ 4096 ∧ (k = 3 → n = 0))
theorem okV_t {k t : Int} {n : Nat} (h : 1 ≤ k ∧ k ≤ 3 ∧ 1 ≤ t ∧ n ≤ 4096 ∧ (k = 3 → n = 0)) : okV k t n = true := decide_eq_true h
theorem okV_f {k t : Int} {n : Nat} (h : ¬ (1 ≤ k ∧ k ≤ 3 ∧ 1 ≤ t ∧ n ≤ 4096 ∧ (k = 3 → n = 0))) : okV k t n = false := decide_eq_false h
theorem valid_any (k t : Int) (A : Option Addr) (n c : Nat) (w : World) : Calls Tryz.prog 105 #[.agg #[.int .i64 k, .int .i64 t, .slice A n c]] w fun e w' => e = .returned (.bool (okV k t n)) ∧ Below w.heap.size w w' := by
  have fin : ∀ b : Bool, okV k t n = b → Hid (b = okV k t n) := fun b h => Lib.hid h.symm
  by_cases h1 : 1 ≤ k
  · by_cases h2 : k ≤ 3
    · by_cases h3 : 1 ≤ t
      · by_cases h4 : n ≤ 4096
        · by_cases h5 : k = 3
          · subst h5
            by_cases h6 : n = 0
            · subst h6
              have R := fin true (okV_t (by omega))
              clear fin
              go_enter Tryz.func105, Tryz.ntmps105
              go_wp2
              go_ret
              exact ⟨ret_bool R.out, (Below.refl _ _).alloc (Nat.le_refl _) _⟩
            · have R := fin false (okV_f (by omega))
              have hd : ((n : Int) == 0) = false := by simp; omega
              clear fin
              go_enter Tryz.func105, Tryz.ntmps105
              go_wp2
              go_ret
              exact ⟨ret_bool R.out, (Below.refl _ _).alloc (Nat.le_refl _) _⟩
          · have R := fin true (okV_t (by omega))
            have hd : (k != 3) = true := by simp; omega
            clear fin
            go_enter Tryz.func105, Tryz.ntmps105
            go_wp2
            go_ret
            exact ⟨ret_bool R.out, (Below.refl _ _).alloc (Nat.le_refl _) _⟩
        · have R := fin false (okV_f (by omega))
          clear fin
          go_enter Tryz.func105, Tryz.ntmps105
          go_wp2
          go_ret
          exact ⟨ret_bool R.out, (Below.refl _ _).alloc (Nat.le_refl _) _⟩
      · have R := fin false (okV_f (by omega))
        clear fin
        go_enter Tryz.func105, Tryz.ntmps105
        go_wp2
        go_ret
        exact ⟨ret_bool R.out, (Below.refl _ _).alloc (Nat.le_refl _) _⟩
    · have R := fin false (okV_f (by omega))
      clear fin
      go_enter Tryz.func105, Tryz.ntmps105
      go_wp2
      go_ret
      exact ⟨ret_bool R.out, (Below.refl _ _).alloc (Nat.le_refl _) _⟩
  · have R := fin false (okV_f (by omega))
    clear fin
    go_enter Tryz.func105, Tryz.ntmps105
    go_wp2
    go_ret
    exact ⟨ret_bool R.out, (Below.refl _ _).alloc (Nat.le_refl _) _⟩
theorem rValid_any (k t : Int) (A : Option Addr) (n c : Nat) (w : World) : Calls Tryz.prog 87 #[.agg #[.int .i64 k, .int .i64 t, .slice A n c]] w fun e w' => e = .returned (.bool (okV k t n)) ∧ Below w.heap.size w w' := by
  have fin : ∀ b : Bool, okV k t n = b → Hid (b = okV k t n) := fun b h => Lib.hid h.symm
  by_cases h1 : 1 ≤ k
  · by_cases h2 : k ≤ 3
    · by_cases h3 : 1 ≤ t
      · by_cases h4 : n ≤ 4096
        · by_cases h5 : k = 3
          · subst h5
            by_cases h6 : n = 0
            · subst h6
              have R := fin true (okV_t (by omega))
              clear fin
              go_enter Tryz.func87, Tryz.ntmps87
              go_wp2
              go_ret
              exact ⟨ret_bool R.out, (Below.refl _ _).alloc (Nat.le_refl _) _⟩
            · have R := fin false (okV_f (by omega))
              have hd : ((n : Int) == 0) = false := by simp; omega
              clear fin
              go_enter Tryz.func87, Tryz.ntmps87
              go_wp2
              go_ret
              exact ⟨ret_bool R.out, (Below.refl _ _).alloc (Nat.le_refl _) _⟩
          · have R := fin true (okV_t (by omega))
            have hd : (k != 3) = true := by simp; omega
            clear fin
            go_enter Tryz.func87, Tryz.ntmps87
            go_wp2
            go_ret
            exact ⟨ret_bool R.out, (Below.refl _ _).alloc (Nat.le_refl _) _⟩
        · have R := fin false (okV_f (by omega))
          clear fin
          go_enter Tryz.func87, Tryz.ntmps87
          go_wp2
          go_ret
          exact ⟨ret_bool R.out, (Below.refl _ _).alloc (Nat.le_refl _) _⟩
      · have R := fin false (okV_f (by omega))
        clear fin
        go_enter Tryz.func87, Tryz.ntmps87
        go_wp2
        go_ret
        exact ⟨ret_bool R.out, (Below.refl _ _).alloc (Nat.le_refl _) _⟩
    · have R := fin false (okV_f (by omega))
      clear fin
      go_enter Tryz.func87, Tryz.ntmps87
      go_wp2
      go_ret
      exact ⟨ret_bool R.out, (Below.refl _ _).alloc (Nat.le_refl _) _⟩
  · have R := fin false (okV_f (by omega))
    clear fin
    go_enter Tryz.func87, Tryz.ntmps87
    go_wp2
    go_ret
    exact ⟨ret_bool R.out, (Below.refl _ _).alloc (Nat.le_refl _) _⟩
end Go.Proofs.YtpmkohnljngbhaaGreatDoor.Wl
/- Walks: the code of a record. -/
namespace Go.Proofs.YtpmkohnljngbhaaGreatDoor.Wl
set_option maxRecDepth 1000000
open Go.RowKit

theorem Grew.cell {w w' : World} {A A' : Option Addr} (h : Grew w A w' A') {b o : Nat} (hb : b < w.heap.size) (hne : blk A ≠ some b) : w'.cell? ⟨b, o, none⟩ = w.cell? ⟨b, o, none⟩ :=
  World.cell?_of_block (h.by_.block b hb fun e => hne e.symm)
theorem nat_flip (a : Nat) (h : a < 4294967296) : a ^^^ 4294967295 = 4294967295 - a := by
  have h1 : (BitVec.ofNat 32 a ^^^ BitVec.allOnes 32).toNat = (~~~ BitVec.ofNat 32 a).toNat := by rw [BitVec.xor_allOnes]
  simp only [BitVec.toNat_xor, BitVec.toNat_not, BitVec.toNat_ofNat, BitVec.toNat_allOnes] at h1
  rw [Nat.mod_eq_of_lt (by omega)] at h1
  omega
theorem u32_not (a : Nat) (h : a < 4294967296) : bits .xor .u32 IntKind.u32.max (a : Int) = ((4294967295 - a : Nat) : Int) := by
  have := u32_xor_nat 4294967295 a (by omega) h
  rw [Nat.xor_comm, nat_flip a h] at this
  exact this
theorem u32_flip (a : Nat) (h : a < 4294967296) : bits .xor .u32 (a : Int) 4294967295 = ((4294967295 - a : Nat) : Int) := by
  have := u32_xor_nat a 4294967295 h (by omega)
  rw [nat_flip a h] at this
  exact this
theorem box3 (w : World) (a b c : Value) (T : TypeId) : (w.alloc (.cells #[a, b, c] T)).cell? ⟨w.heap.size, 0, none⟩ = some a ∧ (w.alloc (.cells #[a, b, c] T)).cell? ⟨w.heap.size, 1, none⟩ = some b ∧
    (w.alloc (.cells #[a, b, c] T)).cell? ⟨w.heap.size, 2, none⟩ = some c := by
  unfold World.cell?; rw [heap_alloc_new]; exact ⟨rfl, rfl, rfl⟩
set_option maxHeartbeats 800000 in
theorem code_nat {A B : Option Addr} {n c m d base : Nat} {l data : List UInt8} (k t : Nat) (w : World) (h : Hid (w.ownsRow base 5 1 (.slice A n c) n (bv l))) (hd : Hid (Rd w 1 B m d (bv data)))
    (hne : Hid (0 < m → blk A = none ∨ blk A ≠ blk B)) (k1 : 1 ≤ k) (k2 : k ≤ 3) (t1 : 1 ≤ t) (t2 : t ≤ 9223372036854775807) (hm : m ≤ 4096) (hn : n ≤ 1073741824) (hbase : base ≤ w.heap.size) :
    Calls Tryz.prog 106 #[.slice A n c, .agg #[.int .i64 k, .int .i64 t, .slice B m d]] w (Ap w base A n l (21 + m) (enc ⟨k, t, data⟩)) := by
  obtain ⟨i0, hi, hz0, hz1, hz2⟩ := info_parts info_u8
  have hs : IntKind.u32.signed = false := rfl
  have hx := u32_not m (by omega)
  have hx2 : 4294967295 - m < 4294967296 := by omega
  obtain ⟨q, hq⟩ : ∃ q, 4294967295 - m = q := ⟨_, rfl⟩
  rw [hq] at hx hx2
  have HQ := Lib.hid hq; clear hq
  have ha : blk A ≠ some w.heap.size := fun e => by have := own_blk_le h.out e; omega
  obtain ⟨x0, x1, x2⟩ := box3 w (.int .i64 k) (.int .i64 t) (.slice B m d) 89
  have X0 := Lib.hid x0
  have X1 := Lib.hid x1
  have X2 := Lib.hid x2
  clear x0 x1 x2
  have hd0 := Lib.hid (hd.out.alloc (.cells #[.int .i64 k, .int .i64 t, .slice B m d] 89))
  go_enter Tryz.func106, Tryz.ntmps106
  go_wp2_with fail
  go_at_call 123
  refine (number_any m 4 _ (own_alloc h.out _) (by omega) (by omega) (by omega) (by simp; omega)).mono ?_
  rintro e w1 ⟨A1, c1, rfl, own1, g1⟩
  obtain ⟨W0, hW0⟩ : ∃ W0, w.alloc (.cells #[.int .i64 k, .int .i64 t, .slice B m d] 89) = W0 := ⟨_, rfl⟩
  have hz0' : W0.heap.size = w.heap.size + 1 := by rw [← hW0]; simp
  have gw : Grew w A W0 A := hW0 ▸ (Grew.refl w A).alloc _
  rw [hW0] at X0 X1 X2 g1 hd0
  have hlt : w.heap.size < W0.heap.size := by omega
  have HW0 := Lib.hid hW0
  clear hW0 hz0'
  have s1 := g1.by_.size
  go_wp2_with fail
  go_at_call 123
  refine (number_any q 4 _ own1 (by omega) (by omega) (by omega) (by omega)).mono ?_
  rintro e w2 ⟨A2, c2, rfl, own2, g2'⟩
  have g2 := g1.trans g2'
  clear g2'
  have s2 := g2.by_.size
  have x0 := (g2.cell (o := 0) hlt ha).trans X0.out
  go_wp2_with (at_builtin; refine wpList_app _ rfl (.tmp 22) (.tmp 26) 30 rfl base 5 i0 (.int .u8 0) 1 1 Tryz.underlying30 hi hz0 hz1 hz2 rfl (by omega) (by rfl) (own_alloc own2 _) (by rfl) (Rd.lit _ _ 1 #[.int .u8 k] 1 (by omega) rfl) (one1 _ rfl) (by omega) (by omega) (by simp; omega) ?_; intro A3 c3 w3 own3 g3'; have g3 := (g2.alloc _).trans g3'; clear g3'; have s3 := g3.by_.size; clear x0; have x1 := (g3.cell (o := 1) hlt ha).trans X1.out)
  go_at_call 123
  refine (number_any (base := base) t 8 _ (l := l ++ be 4 m ++ be 4 q ++ [UInt8.ofNat k]) ?_ (by omega) (by omega) (by omega) (by omega)).mono ?_
  · refine Lib.hid ?_
    rw [bv_app (_ ++ _)]
    have e : bv [UInt8.ofNat k] = (#[Value.int .u8 k] : Array Value).toList := by
      show [Value.int .u8 ((UInt8.ofNat k).toNat : Int)] = [.int .u8 k]
      rw [show (UInt8.ofNat k).toNat = k by simp; omega]
    rw [e]; exact own3
  rintro e w4 ⟨A4, c4, rfl, own4, g4'⟩
  have g4 := g3.trans g4'
  clear g4' x1
  have s4 := g4.by_.size
  have x2 := (g4.cell (o := 2) hlt ha).trans X2.out
  have rd4 : Rd w4 1 B m d (bv data) := hd0.out.grew g4 hne.out
  go_wp2_with (at_builtin; refine wpList_app _ rfl (.tmp 33) (.tmp 35) 30 rfl base 5 i0 (.int .u8 0) 1 1 Tryz.underlying30 hi hz0 hz1 hz2 rfl (by omega) (by rfl) own4 (by rfl) rd4 (bv_one _) (by omega) (by omega) (by omega) ?_; intro A5 c5 w5 own5 g5'; have g5 := g4.trans g5'; clear g5' x2; have s5 := g5.by_.size; obtain ⟨g, rfl, hc5, hm5⟩ := own_pos own5 (by omega); have hne5 : ¬ c5 = n + 4 + 4 := by omega)
  have hnl : n = l.length := by have := h.out.1; rw [bv_len] at this; omega
  have hml : m = data.length := by have := hd.out.len; rw [bv_len] at this; omega
  have HB : Hid (bv (l ++ be 4 m ++ be 4 q ++ [UInt8.ofNat k] ++ be 8 t) ++ bv data = bv ((l ++ be 4 m ++ be 4 q) ++ body ⟨k, t, data⟩)) := by
    refine Lib.hid ?_
    rw [← bv_app]; simp [body]
  have HL : Hid (n + 4 + 4 = (l ++ be 4 m ++ be 4 q).length) := by refine Lib.hid ?_; simp [be_len]; omega
  have HM : Hid (n + 4 + 4 + 1 + 8 + m - (n + 4 + 4) = (body ⟨k, t, data⟩).length) := by refine Lib.hid ?_; rw [body_len]; show _ = 9 + data.length; omega
  have HN := Lib.hid hml
  clear hnl hml
  go_at_call 108
  refine (check_any (l := body ⟨k, t, data⟩) _ HM ?_).mono ?_
  · refine Lib.hid ?_
    rw [HB.out] at own5
    have := (Rd.of_own own5).cut1 (lo := n + 4 + 4) (hi := n + 4 + 4 + 1 + 8 + m) (by omega) (by omega)
    rw [Nat.zero_add, bv_drop, HL.out, List.drop_left, bv_take, List.take_of_length_le] at this
    · rw [← HL.out] at this; exact this
    · rw [← HL.out, HM.out]; omega
  rintro e w' ⟨rfl, rfl⟩
  have hck := chk_lt (body ⟨k, t, data⟩)
  obtain ⟨ck, hck'⟩ : ∃ ck, chk (body ⟨k, t, data⟩) = ck := ⟨_, rfl⟩
  rw [hck'] at hck ⊢
  have HC := Lib.hid hck'
  clear hck'
  go_wp2_with fail
  go_at_call 123
  refine (number_any (base := base) ck 4 _ (l := (l ++ be 4 m ++ be 4 q) ++ body ⟨k, t, data⟩) (by rw [← HB.out]; exact Lib.hid own5) (by omega) (by omega) (by omega) (by omega)).mono ?_
  rintro e w6 ⟨A6, c6, rfl, own6, g6'⟩
  have g6 := g5.trans g6'
  clear g6'
  go_wp2_with fail
  go_ret
  have e : n + 4 + 4 + 1 + 8 + m + 4 = n + (21 + m) := by omega
  refine ⟨A6, c6, by rw [e]; rfl, ?_, gw.trans g6⟩
  rw [e] at own6
  have : l ++ enc ⟨k, t, data⟩ = l ++ be 4 m ++ be 4 q ++ body ⟨k, t, data⟩ ++ be 4 ck := by
    unfold enc; rw [HC.out]; show l ++ (be 4 data.length ++ (be 4 (4294967295 - data.length) ++ _)) = _
    rw [← HN.out, HQ.out]; simp
  rw [this]; exact own6
theorem code_any {A B : Option Addr} {n c m d base : Nat} {l data : List UInt8} (k t : Int) (w : World) (h : Hid (w.ownsRow base 5 1 (.slice A n c) n (bv l))) (hd : Hid (Rd w 1 B m d (bv data)))
    (hne : Hid (0 < m → blk A = none ∨ blk A ≠ blk B)) (k1 : 1 ≤ k) (k2 : k ≤ 3) (t1 : 1 ≤ t) (t2 : t ≤ 9223372036854775807) (hm : m ≤ 4096) (hn : n ≤ 1073741824) (hbase : base ≤ w.heap.size) :
    Calls Tryz.prog 106 #[.slice A n c, .agg #[.int .i64 k, .int .i64 t, .slice B m d]] w (Ap w base A n l (21 + m) (enc ⟨k, t, data⟩)) := by
  obtain ⟨k, rfl⟩ := Int.eq_ofNat_of_zero_le (show 0 ≤ k by omega)
  obtain ⟨t, rfl⟩ := Int.eq_ofNat_of_zero_le (show 0 ≤ t by omega)
  exact code_nat k t w h hd hne (by omega) (by omega) (by omega) (by omega) hm hn hbase
end Go.Proofs.YtpmkohnljngbhaaGreatDoor.Wl
/- Walks: Encode, clones, the code of a record by the reference. -/
namespace Go.Proofs.YtpmkohnljngbhaaGreatDoor.Wl
set_option maxRecDepth 1000000
open Go.RowKit

theorem Grew.bel {w w' : World} {A : Option Addr} (h : Grew w none w' A) : Below w.heap.size w w' :=
  ⟨h.by_.os, h.by_.tape, h.by_.output, h.by_.size, fun i hi => h.by_.block i hi (by simp [blk])⟩
/-- The code of a valid record, in a row of the call's own. -/
def En (w : World) (m : Nat) (r : List UInt8) (e : Ending) (w' : World) : Prop :=
  ∃ A c, e = .returned (.tuple #[.slice A m c, .int .i64 0]) ∧ w'.ownsRow w.heap.size 5 1 (.slice A m c) m (bv r) ∧ Below w.heap.size w w'
def Er (w : World) (x : Int) (e : Ending) (w' : World) : Prop := e = .returned (.tuple #[.slice none 0 0, .int .i64 x]) ∧ Below w.heap.size w w'

theorem okV_p {k t : Int} {n : Nat} (h : okV k t n = true) : 1 ≤ k ∧ k ≤ 3 ∧ 1 ≤ t ∧ n ≤ 4096 ∧ (k = 3 → n = 0) := of_decide_eq_true h
theorem Encode_ok {B : Option Addr} {m d : Nat} {data : List UInt8} (k t : Int) (w : World) (hd : Hid (Rd w 1 B m d (bv data))) (hv : okV k t m = true) (t2 : t ≤ 9223372036854775807) :
    Calls Tryz.prog 77 #[.agg #[.int .i64 k, .int .i64 t, .slice B m d]] w (En w (21 + m) (enc ⟨k, t, data⟩)) := by
  obtain ⟨k1, k2, t1, hm, _⟩ := okV_p hv
  have hd0 := Lib.hid (hd.out.alloc (.cells #[.int .i64 k, .int .i64 t, .slice B m d] 89))
  have HV := Lib.hid hv; clear hv
  go_enter Tryz.func77, Tryz.ntmps77
  go_wp2_with fail
  go_at_call 105
  refine (valid_any k t B m d _).mono ?_
  rintro e w1 ⟨rfl, hb⟩
  rw [HV.out]
  obtain ⟨bc, bf⟩ := bcell hb
  have hz := hb.size
  have hd1 := Lib.hid (hd0.out.below hb)
  have hbw : Below w.heap.size w w1 := ((Below.refl _ _).alloc (Nat.le_refl _) _).trans (hb.mono (by simp))
  clear hb
  go_wp2_with fail
  go_at_call 106
  refine (code_any (base := w.heap.size) (n := 0) (l := []) k t _ (Lib.hid (World.ownsRow_nil _ _ _ _)) hd1 (Lib.hid fun _ => .inl rfl) k1 k2 t1 t2 hm (by omega) hbw.size).mono ?_
  rintro e w2 ⟨A2, c2, rfl, own2, g2⟩
  go_wp2_with fail
  go_ret2
  rw [Nat.zero_add] at own2
  exact ⟨A2, c2, rfl, own2, hbw.trans (g2.bel.mono hbw.size)⟩
theorem Encode_bad {B : Option Addr} {m d : Nat} (k t : Int) (w : World) (hv : okV k t m = false) :
    Calls Tryz.prog 77 #[.agg #[.int .i64 k, .int .i64 t, .slice B m d]] w (Er w 1) := by
  have HV := Lib.hid hv; clear hv
  go_enter Tryz.func77, Tryz.ntmps77
  go_wp2_with fail
  go_at_call 105
  refine (valid_any k t B m d _).mono ?_
  rintro e w1 ⟨rfl, hb⟩
  rw [HV.out]
  have hbw : Below w.heap.size w w1 := ((Below.refl _ _).alloc (Nat.le_refl _) _).trans (hb.mono (by simp))
  clear hb
  go_wp2_with fail
  go_ret2
  exact ⟨rfl, hbw⟩

theorem clone_any {B : Option Addr} {m d : Nat} {data : List UInt8} (w : World) (hd : Hid (Rd w 1 B m d (bv data))) (hm : m ≤ 1073741824) :
    Calls Tryz.prog 80 #[.slice B m d] w (Mk w m data) := by
  obtain ⟨i0, hi, hz0, hz1, hz2⟩ := info_parts info_u8
  rcases B with _ | a
  · obtain rfl : d = 0 := hd.out.nil rfl
    obtain rfl : m = 0 := by have := hd.out.nc; omega
    have q22 := fun w : World => Lib.run_eql_slice_nil (P := Tryz.prog) w 30 5 none 0 0 0 0 Tryz.underlying30
    have hl : Hid (data = []) := Lib.hid (List.eq_nil_of_length_eq_zero (by have := hd.out.len; rw [bv_len] at this; omega))
    go_enter Tryz.func80, Tryz.ntmps80
    go_wp2
    go_ret
    exact ⟨none, 0, rfl, by rw [hl.out]; exact World.ownsRow_nil _ _ _ _, Below.refl _ _⟩
  · have q22 := fun w : World => Lib.run_eql_slice_nil (P := Tryz.prog) w 30 5 (some a) m d 0 0 Tryz.underlying30
    go_enter Tryz.func80, Tryz.ntmps80
    go_wp2_with (at_builtin; refine wpList_app _ rfl (.tmp 5) (.tmp 6) 30 rfl w.heap.size 5 i0 (.int .u8 0) 1 1 Tryz.underlying30 hi hz0 hz1 hz2 rfl (by omega) (by rfl) (own_lit w _ 1 #[] 0 (Nat.le_refl _) (by unfold maxLen; omega) rfl) (by rfl) (hd.out.alloc _) (bv_one _) (by omega) (by omega) (by simp) ?_; intro A1 c1 w1 own1 g1)
    go_ret
    rw [Nat.zero_add] at own1
    exact ⟨A1, c1, rfl, own1, g1.low ((Below.refl _ _).alloc (Nat.le_refl _) _) (by simp) (fun g e => by simp [blk] at e; omega)⟩
theorem bclone_any {B : Option Addr} {m d : Nat} {data : List UInt8} (w : World) (hd : Hid (Rd w 1 B m d (bv data))) (hm : m ≤ 1073741824) :
    Calls Tryz.prog 48 #[.slice B m d] w (Mk w m data) := by
  obtain ⟨i0, hi, hz0, hz1, hz2⟩ := info_parts info_u8
  rcases B with _ | a
  · obtain rfl : d = 0 := hd.out.nil rfl
    obtain rfl : m = 0 := by have := hd.out.nc; omega
    have q22 := fun w : World => Lib.run_eql_slice_nil (P := Tryz.prog) w 30 5 none 0 0 0 0 Tryz.underlying30
    have hl : Hid (data = []) := Lib.hid (List.eq_nil_of_length_eq_zero (by have := hd.out.len; rw [bv_len] at this; omega))
    go_enter Tryz.func48, Tryz.ntmps48
    go_wp2
    go_ret
    exact ⟨none, 0, rfl, by rw [hl.out]; exact World.ownsRow_nil _ _ _ _, Below.refl _ _⟩
  · have q22 := fun w : World => Lib.run_eql_slice_nil (P := Tryz.prog) w 30 5 (some a) m d 0 0 Tryz.underlying30
    go_enter Tryz.func48, Tryz.ntmps48
    go_wp2_with (at_builtin; refine wpList_app _ rfl (.tmp 5) (.tmp 6) 30 rfl w.heap.size 5 i0 (.int .u8 0) 1 1 Tryz.underlying30 hi hz0 hz1 hz2 rfl (by omega) (by rfl) (own_lit w _ 1 #[] 0 (Nat.le_refl _) (by unfold maxLen; omega) rfl) (by rfl) (hd.out.alloc _) (bv_one _) (by omega) (by omega) (by simp) ?_; intro A1 c1 w1 own1 g1)
    go_ret
    rw [Nat.zero_add] at own1
    exact ⟨A1, c1, rfl, own1, g1.low ((Below.refl _ _).alloc (Nat.le_refl _) _) (by simp) (fun g e => by simp [blk] at e; omega)⟩
/-- Cells in a row of the call's own. -/
def Mv (w : World) (E size : Nat) (m : Nat) (xs : List Value) (e : Ending) (w' : World) : Prop :=
  ∃ A c, e = .returned (.slice A m c) ∧ w'.ownsRow w.heap.size E size (.slice A m c) m xs ∧ Below w.heap.size w w'
theorem info_rec : (Tryz.prog.info? 89).map (fun i => (i.zero, i.size, i.bytes)) = some (some (.agg #[.int .i64 0, .int .i64 0, .slice none 0 0]), 3, 40) := by kernel_rfl
end Go.Proofs.YtpmkohnljngbhaaGreatDoor.Wl
/- Walk: the code of a record by the reference. -/
namespace Go.Proofs.YtpmkohnljngbhaaGreatDoor.Wl
set_option maxRecDepth 1000000
open Go.RowKit

theorem rEncode_bad {B : Option Addr} {m d : Nat} (k t : Int) (w : World) (hv : okV k t m = false) :
    Calls Tryz.prog 50 #[.agg #[.int .i64 k, .int .i64 t, .slice B m d]] w (Er w 1) := by
  have HV := Lib.hid hv; clear hv
  go_enter Tryz.func50, Tryz.ntmps50
  go_wp2_with fail
  go_at_call 87
  refine (rValid_any k t B m d _).mono ?_
  rintro e w1 ⟨rfl, hb⟩
  rw [HV.out]
  have hbw : Below w.heap.size w w1 := ((Below.refl _ _).alloc (Nat.le_refl _) _).trans (hb.mono (by simp))
  clear hb
  go_wp2_with fail
  go_ret2
  exact ⟨rfl, hbw⟩
set_option maxHeartbeats 1600000 in
theorem rEncode_nat {B : Option Addr} {m d : Nat} {data : List UInt8} (k t : Nat) (w : World) (hd : Hid (Rd w 1 B m d (bv data))) (hv : okV k t m = true) (k1 : 1 ≤ k) (k2 : k ≤ 3) (t1 : 1 ≤ t) (t2 : t ≤ 9223372036854775807) (hm : m ≤ 4096) :
    Calls Tryz.prog 50 #[.agg #[.int .i64 k, .int .i64 t, .slice B m d]] w (En w (21 + m) (enc ⟨k, t, data⟩)) := by
  obtain ⟨i0, hi, hz0, hz1, hz2⟩ := info_parts info_u8
  have hd0 := Lib.hid (hd.out.alloc (.cells #[.int .i64 k, .int .i64 t, .slice B m d] 89))
  have HV := Lib.hid hv; clear hv
  obtain ⟨x0, x1, x2⟩ := box3 w (.int .i64 k) (.int .i64 t) (.slice B m d) 89
  have X0 := Lib.hid x0
  have X1 := Lib.hid x1
  have X2 := Lib.hid x2
  clear x0 x1 x2
  go_enter Tryz.func50, Tryz.ntmps50
  go_wp2_with fail
  go_at_call 87
  refine (rValid_any k t B m d _).mono ?_
  rintro e w1 ⟨rfl, hb⟩
  rw [HV.out]
  obtain ⟨W0, hW0⟩ : ∃ W0, w.alloc (.cells #[.int .i64 k, .int .i64 t, .slice B m d] 89) = W0 := ⟨_, rfl⟩
  have hz' : W0.heap.size = w.heap.size + 1 := by rw [← hW0]; simp
  have bw : Below w.heap.size w W0 := hW0 ▸ (Below.refl _ _).alloc (Nat.le_refl _) _
  rw [hW0] at X0 X1 X2 hb hd0
  clear hW0
  have hlt : w.heap.size < W0.heap.size := by omega
  clear hz'
  have hz := hb.size
  have x0 := (hb.cell (p := ⟨w.heap.size, 0, none⟩) hlt).trans X0.out
  have x1 := (hb.cell (p := ⟨w.heap.size, 1, none⟩) hlt).trans X1.out
  have x2 := (hb.cell (p := ⟨w.heap.size, 2, none⟩) hlt).trans X2.out
  go_wp2_with fail
  clear x0 x1 x2
  have bw1 : Below W0.heap.size W0 (w1.alloc (.cells #[.int .u8 k] 5)) := hb.alloc hz _
  have own1 : (w1.alloc (.cells #[.int .u8 k] 5)).ownsRow W0.heap.size 5 1 (.slice (some ⟨w1.heap.size, 0, none⟩) 1 1) 1 (bv [UInt8.ofNat k]) := by
    have := own_lit w1 (base := W0.heap.size) 5 1 #[.int .u8 k] 1 hz (by unfold maxLen; omega) rfl
    have e : bv [UInt8.ofNat k] = (#[Value.int .u8 k] : Array Value).toList := by
      show [Value.int .u8 ((UInt8.ofNat k).toNat : Int)] = [.int .u8 k]
      rw [show (UInt8.ofNat k).toNat = k by simp; omega]
    rw [e]; exact this
  have OW1 := Lib.hid own1
  clear own1 hb
  go_loopw [5, 6] (fun v i wr => ∃ j A' c', j ≤ 8 ∧ i = .int .i64 (j : Nat) ∧ v = .slice A' (1 + j) c' ∧ Hid (wr.ownsRow W0.heap.size 5 1 (.slice A' (1 + j) c') (1 + j) (bv (UInt8.ofNat k :: (be 8 t).take j))) ∧ Below W0.heap.size W0 wr) (fun _ i _ => (8 - intOf i).toNat)
  case atStart => exact ⟨0, _, _, by omega, rfl, rfl, OW1, bw1⟩
  case round =>
    obtain ⟨j, A', c', hj, rfl, rfl, own2, b2⟩ := hrel
    clear OW1 bw1
    have z2 := b2.size
    by_cases hlt8 : j < 8
    · have x1 := (b2.cell (p := ⟨w.heap.size, 1, none⟩) hlt).trans X1.out
      go_wp2_with (at_builtin; refine wpList_app _ rfl (.tmp 23) (.tmp 33) 30 rfl W0.heap.size 5 i0 (.int .u8 0) 1 1 Tryz.underlying30 hi hz0 hz1 hz2 rfl (by omega) (by rfl) (own_alloc own2.out _) (by rfl) (Rd.lit _ _ 1 #[_] 1 (by omega) rfl) (one1 _ rfl) (by omega) (by omega) (by simp; omega) ?_; intro A3 c3 w3 own3 g3)
      have hv8 : Value.int .u8 ((t : Int) / 2 ^ (56 - 8 * j) % 256) = .int .u8 ((UInt8.ofNat (t / 256 ^ (7 - j))).toNat : Int) := by
        have : (2 : Nat) ^ (56 - 8 * j) = 256 ^ (7 - j) := by rw [show 56 - 8 * j = 8 * (7 - j) by omega, Nat.pow_mul]
        congr 1
        rw [show ((2 : Int) ^ (56 - 8 * j)) = ((2 ^ (56 - 8 * j) : Nat) : Int) by simp, this]
        simp
      have hs := be_get 8 t j hlt8
      rw [show 8 - 1 - j = 7 - j by omega] at hs
      refine ⟨⟨j + 1, A3, c3, by omega, by go_num, rfl, ?_, g3.low (b2.alloc z2 _) (by simp; omega) (fun g e => (own_blk_le own2.out e).1)⟩, by simp [intOf]; omega⟩
      rw [take_snoc hs, ← List.cons_append, bv_app]
      rw [hv8] at own3
      exact own3
    · obtain rfl : j = 8 := by omega
      have x2 := (b2.cell (p := ⟨w.heap.size, 2, none⟩) hlt).trans X2.out
      have rd2 := hd0.out.below b2
      rw [List.take_of_length_le (Nat.le_of_eq (be_len 8 t))] at own2
      go_wp2_with (at_builtin; refine wpList_app _ rfl (.tmp 35) (.tmp 37) 30 rfl W0.heap.size 5 i0 (.int .u8 0) 1 1 Tryz.underlying30 hi hz0 hz1 hz2 rfl (by omega) (by rfl) own2.out (by rfl) rd2 (bv_one _) (by omega) (by omega) z2 ?_; intro A3 c3 w3 own3 g3)
      have b3 : Below W0.heap.size W0 w3 := g3.low b2 z2 (fun g e => (own_blk_le own2.out e).1)
      have z3 := b3.size
      have HB : Hid (bv (UInt8.ofNat k :: be 8 t) ++ bv data = bv (body ⟨k, t, data⟩)) := by
        refine Lib.hid ?_
        rw [← bv_app]; simp [body]
      rw [HB.out] at own3
      clear x2 rd2 own2 g3 HB
      have hx := u32_flip m (by omega)
      have hx2 : 4294967295 - m < 4294967296 := by omega
      obtain ⟨q, hq⟩ : ∃ q, 4294967295 - m = q := ⟨_, rfl⟩
      rw [hq] at hx hx2
      have HQ := Lib.hid hq; clear hq
      go_at_call 88
      refine (four_any m _ (by omega)).mono ?_
      rintro e w4 ⟨A4, c4, rfl, own4, b4⟩
      have own3' := own_below own3 b4
      have ap := own_apart own3 own4 (Nat.le_refl _)
      have own9 := own3
      clear own3
      have z4 := b4.size
      go_wp2_with fail
      go_at_call 88
      refine (four_any q _ (by omega)).mono ?_
      rintro e w5 ⟨A5, c5, rfl, own5, b5⟩
      have own3 := own_below own3' b5
      have own4' := own_below own4 b5
      clear own3'
      have z5 := b5.size
      go_wp2_with (first
        | (at_builtin; refine wpList_app _ rfl (.tmp 40) (.tmp 43) 30 rfl w3.heap.size 5 i0 (.int .u8 0) 1 1 Tryz.underlying30 hi hz0 hz1 hz2 rfl (by omega) (by rfl) own4' (by rfl) (Rd.of_own own5) (bv_one _) (by omega) (by omega) (by omega) ?_; intro A6 c6 w6 own6 g6; have own3' := own_grew own3 g6 ap; clear own3 own4'; have z6 := g6.by_.size; have ap2 := own_apart own9 own6 (Nat.le_refl _))
        | (at_builtin; refine wpList_app _ rfl (.tmp 45) (.tmp 46) 30 rfl w3.heap.size 5 i0 (.int .u8 0) 1 1 Tryz.underlying30 hi hz0 hz1 hz2 rfl (by omega) (by rfl) own6 (by rfl) (Rd.of_own own3') (bv_one _) (by omega) (by omega) (by omega) ?_; intro A7 c7 w7 own7 g7; have own3 := own_grew own3' g7 ap2; clear own3' own6; have z7 := g7.by_.size))
      have hml : m = data.length := by have := hd.out.len; rw [bv_len] at this; omega
      have HM : Hid (1 + 8 + m = (body ⟨k, t, data⟩).length) := by refine Lib.hid ?_; rw [body_len]; show _ = 9 + data.length; omega
      have HN := Lib.hid hml
      clear hml
      have hrd := Lib.hid (Rd.of_own own3)
      go_at_call 89
      refine (rCheck_any (l := body ⟨k, t, data⟩) _ HM hrd).mono ?_
      rintro e w' ⟨rfl, rfl⟩
      have hck := chk_lt (body ⟨k, t, data⟩)
      obtain ⟨ck, hck'⟩ : ∃ ck, chk (body ⟨k, t, data⟩) = ck := ⟨_, rfl⟩
      rw [hck'] at hck ⊢
      have HC := Lib.hid hck'
      clear hck' hrd
      go_wp2_with fail
      go_at_call 88
      refine (four_any ck _ hck).mono ?_
      rintro e w8 ⟨A8, c8, rfl, own8, b8⟩
      have own7' := own_below own7 b8
      have z8 := b8.size
      clear own7
      go_wp2_with (at_builtin; refine wpList_app _ rfl (.tmp 48) (.tmp 51) 30 rfl w3.heap.size 5 i0 (.int .u8 0) 1 1 Tryz.underlying30 hi hz0 hz1 hz2 rfl (by omega) (by rfl) own7' (by rfl) (Rd.of_own own8) (bv_one _) (by omega) (by omega) (by omega) ?_; intro A9 c9' w9 own9' g9)
      go_ret2
      have e : 4 + 4 + (1 + 8 + m) + 4 = 21 + m := by omega
      rw [e] at own9'
      have g69 : Grew w5 A4 w9 A9 := ((g6.trans g7).below b8).trans g9
      have bL : Below w.heap.size w w9 := by
        refine g69.low (((bw.trans (b3.mono (by omega))).trans (b4.mono (by omega))).trans (b5.mono (by omega))) (by omega) fun g e => ?_
        have := (own_blk_le own4 e).1
        omega
      refine ⟨A9, c9', ?_, ?_, bL⟩
      · exact ret_val (by simp; omega)
      · have hE : enc ⟨k, t, data⟩ = be 4 m ++ be 4 q ++ body ⟨k, t, data⟩ ++ be 4 ck := by
          unfold enc; rw [HC.out]; show be 4 data.length ++ (be 4 (4294967295 - data.length) ++ _) = _
          rw [← HN.out, HQ.out]; simp
        rw [hE, bv_app, bv_app, bv_app]
        exact own_base own9' (by omega)
theorem rEncode_ok {B : Option Addr} {m d : Nat} {data : List UInt8} (k t : Int) (w : World) (hd : Hid (Rd w 1 B m d (bv data))) (hv : okV k t m = true) (t2 : t ≤ 9223372036854775807) :
    Calls Tryz.prog 50 #[.agg #[.int .i64 k, .int .i64 t, .slice B m d]] w (En w (21 + m) (enc ⟨k, t, data⟩)) := by
  obtain ⟨k1, k2, t1, hm, _⟩ := okV_p hv
  obtain ⟨k, rfl⟩ := Int.eq_ofNat_of_zero_le (show 0 ≤ k by omega)
  obtain ⟨t, rfl⟩ := Int.eq_ofNat_of_zero_le (show 0 ≤ t by omega)
  exact rEncode_nat k t w hd hv (by omega) (by omega) (by omega) (by omega) hm
end Go.Proofs.YtpmkohnljngbhaaGreatDoor.Wl
/- Walk: the record at the beginning of some bytes. -/
namespace Go.Proofs.YtpmkohnljngbhaaGreatDoor.Wl
set_option maxRecDepth 1000000
open Go.RowKit
attribute [local go_sem ↓] Go.wp_at_zero Go.wp_at_succ

/-- What is read at the beginning of some bytes. -/
def On (w : World) (b : List UInt8) (e : Ending) (w' : World) : Prop :=
  (one b = none ∧ e = .returned (.tuple #[.agg #[.int .i64 0, .int .i64 0, .slice none 0 0], .int .i64 0]) ∧ Below w.heap.size w w') ∨
  ∃ r m A c, one b = some r ∧ m = r.d.length ∧ e = .returned (.tuple #[.agg #[.int .i64 r.k, .int .i64 r.t, .slice A m c], .int .i64 (21 + m : Nat)]) ∧
    w'.ownsRow w.heap.size 5 1 (.slice A m c) m (bv r.d) ∧ Below w.heap.size w w'
theorem Rd.sub {w : World} {n c g o lo k : Nat} {l : List UInt8} (h : Rd w 1 (some ⟨g, o, none⟩) n c (bv l)) (h2 : lo + k ≤ n) : Rd w 1 (some ⟨g, o + lo, none⟩) k (c - lo) (bv ((l.drop lo).take k)) := by
  have := h.cut1 (lo := lo) (hi := lo + k) (by omega) h2
  rwa [bv_drop, bv_take, show lo + k - lo = k by omega] at this
theorem ok_iff (r : Rec) : ok r ↔ r.t < 9223372036854775808 ∧ okV r.k r.t r.d.length = true := by
  unfold ok okV
  rw [decide_eq_true_iff]
  constructor
  · rintro ⟨h1, h2, h3, h4, h5, h6⟩; exact ⟨h4, h1, h2, h3, h5, fun h => by rw [h6 h]; rfl⟩
  · rintro ⟨h4, h1, h2, h3, h5, h6⟩; exact ⟨h1, h2, h3, h4, h5, fun h => List.eq_nil_of_length_eq_zero (h6 h)⟩
theorem sub_len {l : List UInt8} {n lo k : Nat} (hl : n = l.length) (h : lo + k ≤ n) : k = ((l.drop lo).take k).length := by simp; omega
/-- The worlds in which the result's place is there. -/
structure Res3 (w W : World) : Prop where
  bel : Below w.heap.size w W
  lt : w.heap.size < W.heap.size
  r0 : W.cell? ⟨w.heap.size, 0, none⟩ = some (.int .i64 0)
  r1 : W.cell? ⟨w.heap.size, 1, none⟩ = some (.int .i64 0)
  r2 : W.cell? ⟨w.heap.size, 2, none⟩ = some (.slice none 0 0)
  f0 : W.frozen? ⟨w.heap.size, 0, none⟩ = false
  f1 : W.frozen? ⟨w.heap.size, 1, none⟩ = false
  f2 : W.frozen? ⟨w.heap.size, 2, none⟩ = false
theorem Res3.new (w : World) : Res3 w (w.alloc (.cells #[.int .i64 0, .int .i64 0, .slice none 0 0] 89)) := by
  obtain ⟨a, b, c⟩ := box3 w (.int .i64 0) (.int .i64 0) (.slice none 0 0) 89
  exact ⟨(Below.refl _ _).alloc (Nat.le_refl _) _, by simp, a, b, c, by unfold World.frozen?; rw [heap_alloc_new]; rfl, by unfold World.frozen?; rw [heap_alloc_new]; rfl, by unfold World.frozen?; rw [heap_alloc_new]; rfl⟩
theorem Res3.more {w W U : World} (h : Res3 w W) (hb : Below W.heap.size W U) : Res3 w U :=
  ⟨h.bel.trans (hb.mono h.bel.size), Nat.lt_of_lt_of_le h.lt hb.size, (hb.cell (p := ⟨_, _, _⟩) h.lt).trans h.r0, (hb.cell (p := ⟨_, _, _⟩) h.lt).trans h.r1, (hb.cell (p := ⟨_, _, _⟩) h.lt).trans h.r2,
    (hb.frozen (p := ⟨_, _, _⟩) h.lt).trans h.f0, (hb.frozen (p := ⟨_, _, _⟩) h.lt).trans h.f1, (hb.frozen (p := ⟨_, _, _⟩) h.lt).trans h.f2⟩
/-- Behind the making of the record. -/
structure Fin3 (w : World) (p : Nat) (k t : Int) (A : Option Addr) (x c : Nat) (d : List UInt8) (W : World) : Prop where
  res : Res3 w W
  sz : p < W.heap.size
  k0 : W.cell? ⟨p, 0, none⟩ = some (.int .i64 k)
  k1 : W.cell? ⟨p, 1, none⟩ = some (.int .i64 t)
  k2 : W.cell? ⟨p, 2, none⟩ = some (.slice A x c)
  own : W.ownsRow w.heap.size 5 1 (.slice A x c) x (bv d)
theorem Fin3.mk1 {w W U w2 : World} {k t : Int} {A : Option Addr} {x c : Nat} {d : List UInt8} (h : Res3 w W) (h1 : Below W.heap.size W U) (h2 : Below U.heap.size U w2) (hz : W.heap.size < U.heap.size)
    (hp0 : ∀ o, o < 3 → (U.cell? ⟨W.heap.size, o, none⟩).isSome = true) (own : w2.ownsRow U.heap.size 5 1 (.slice A x c) x (bv d)) :
    Fin3 w W.heap.size k t A x c d (((w2.setCell ⟨W.heap.size, 0, none⟩ (.int .i64 k)).setCell ⟨W.heap.size, 1, none⟩ (.int .i64 t)).setCell ⟨W.heap.size, 2, none⟩ (.slice A x c)) := by
  have ha : blk A ≠ some W.heap.size := fun e => by have := (own_blk_le own e).1; omega
  have hot : ∀ (V : World) (o o' : Nat) (v : Value), o ≠ o' → (V.setCell ⟨W.heap.size, o, none⟩ v).cell? ⟨W.heap.size, o', none⟩ = V.cell? ⟨W.heap.size, o', none⟩ := fun V o o' v h => World.cell?_setCell_other _ _ _ _ (fun e => by injection e; omega)
  have hp1 : ∀ o, o < 3 → (w2.cell? ⟨W.heap.size, o, none⟩).isSome = true := fun o ho => by rw [h2.cell (p := ⟨W.heap.size, o, none⟩) hz]; exact hp0 o ho
  have hw := h1.size
  have hu := h2.size
  refine ⟨h.more ?_, by simp [World.setCell]; omega, ?_, ?_, ?_, ?_⟩
  · exact (((h1.trans (h2.mono hw)).setCell (p := ⟨W.heap.size, 0, none⟩) (Nat.le_refl _) _).setCell (p := ⟨W.heap.size, 1, none⟩) (Nat.le_refl _) _).setCell (p := ⟨W.heap.size, 2, none⟩) (Nat.le_refl _) _
  · rw [hot _ _ _ _ (by omega), hot _ _ _ _ (by omega)]; exact World.cell?_setCell_same' _ _ _ (hp1 0 (by omega))
  · rw [hot _ _ _ _ (by omega)]; exact World.cell?_setCell_same' _ _ _ (by rw [hot _ _ _ _ (by omega)]; exact hp1 1 (by omega))
  · exact World.cell?_setCell_same' _ _ _ (by rw [hot _ _ _ _ (by omega), hot _ _ _ _ (by omega)]; exact hp1 2 (by omega))
  · have := h.lt
    exact own_base (own_set (own_set (own_set own _ _ ha) _ _ ha) _ _ ha) (by omega)
theorem Fin3.mk2 {w W U w2 : World} {k t : Int} {A : Option Addr} {x c : Nat} {d : List UInt8} (h : Res3 w W) (h1 : Below W.heap.size W U) (h2 : Below U.heap.size U w2) (own : w2.ownsRow U.heap.size 5 1 (.slice A x c) x (bv d)) :
    Fin3 w w2.heap.size k t A x c d (w2.alloc (.cells #[.int .i64 k, .int .i64 t, .slice A x c] 89)) := by
  obtain ⟨a, b, c'⟩ := box3 w2 (.int .i64 k) (.int .i64 t) (.slice A x c) 89
  have hw := h1.size
  have := h.lt
  exact ⟨h.more (bel_alloc (h1.trans (h2.mono hw)) (Nat.le_refl _) _), by simp, a, b, c', own_base (own_alloc own _) (by omega)⟩
set_option maxHeartbeats 1600000 in
theorem one_any {A : Option Addr} {n c : Nat} {b : List UInt8} (w : World) (hl : Hid (n = b.length)) (h : Hid (Rd w 1 A n c (bv b))) (hn : n ≤ 1073741824) :
    Calls Tryz.prog 79 #[.slice A n c] w (On w b) := by
  have hnc := h.out.nc
  have hc63 := h.out.c63
  by_cases h21 : n < 21
  · have R := Lib.hid (one_short (b := b) (by have := hl.out; omega))
    go_enter Tryz.func79, Tryz.ntmps79
    go_wp2
    exact bodyPost_ret (v := .tuple #[.agg #[.int .i64 0, .int .i64 0, .slice none 0 0], .int .i64 0]) (by simp [results, Tryz.results79, go_sem]) rfl (.inl ⟨R.out, rfl, (Below.refl _ _).alloc (Nat.le_refl _) _⟩)
  · obtain ⟨g, o, rfl, hg, _⟩ := h.out.at_ (by omega)
    have rd0 := Lib.hid (h.out.alloc (.cells #[.int .i64 0, .int .i64 0, .slice none 0 0] 89))
    have l4 := val_lt (b.take 4)
    have l4' : (b.take 4).length = 4 := by have := hl.out; simp; omega
    rw [l4'] at l4
    have v4 : Hid (val ((b.drop 0).take 4) = val (b.take 4)) := Lib.hid rfl
    have l8 := val_lt ((b.drop 4).take 4)
    have l8' : ((b.drop 4).take 4).length = 4 := by have := hl.out; simp; omega
    rw [l8'] at l8
    clear l4' l8'
    obtain ⟨x, hx⟩ : ∃ x, val (b.take 4) = x := ⟨_, rfl⟩
    obtain ⟨y, hy⟩ : ∃ y, val ((b.drop 4).take 4) = y := ⟨_, rfl⟩
    rw [hx] at l4 v4
    rw [hy] at l8
    have hx4 : x < 4294967296 := l4
    have hy4 : y < 4294967296 := l8
    have HX := Lib.hid hx
    have HY := Lib.hid hy
    clear hx hy l4 l8
    have hxor := u32_not x hx4
    obtain ⟨q, hq⟩ : ∃ q, 4294967295 - x = q := ⟨_, rfl⟩
    rw [hq] at hxor
    have HQ := Lib.hid hq; clear hq
    have hs : IntKind.u32.signed = false := rfl
    go_enter Tryz.func79, Tryz.ntmps79
    go_wp2_with fail
    go_at_call 107
    refine (value_any (l := (b.drop 0).take 4) _ (Lib.hid (sub_len hl.out (by omega))) (by omega) (Lib.hid (rd0.out.sub (lo := 0) (k := 4) (by omega)))).mono ?_
    rintro e w' ⟨rfl, rfl⟩
    rw [v4.out]
    go_wp2_with fail
    go_at_call 107
    refine (value_any (l := (b.drop 4).take 4) _ (Lib.hid (sub_len hl.out (by omega))) (by omega) (Lib.hid (rd0.out.sub (lo := 4) (k := 4) (by omega)))).mono ?_
    rintro e w' ⟨rfl, rfl⟩
    rw [HY.out]
    by_cases hyq : y = q
    · subst hyq
      by_cases hx5 : x ≤ 4096
      · by_cases hnx : 21 + x ≤ n
        · go_wp2_with fail
          have k1 : (0 : Int) ≤ 17 + (x : Int) := by omega
          have k2 : (17 : Int) + (x : Int) ≤ 17 + (x : Int) + 4 := by omega
          have k3 : (17 : Int) + (x : Int) + 4 ≤ (c : Int) := by omega
          have k4 : (8 : Int) ≤ 17 + (x : Int) := by omega
          have k5 : (17 : Int) + (x : Int) ≤ (c : Int) := by omega
          have k6 : IntKind.i64.wrap (17 + (x : Int) + 4) = 17 + (x : Int) + 4 := by simp only [IntKind.wrap_i64]; omega
          have k7 : ¬ c = 17 + x := by omega
          have k8 : ((17 : Int) + (x : Int)).toNat = 17 + x := by omega
          have k9 : ((17 : Int) + (x : Int) + 4).toNat = 21 + x := by omega
          have k11 : 21 + x - (17 + x) = 4 := by omega
          have k12 : 17 + x - 8 = 9 + x := by omega
          have k10 : ¬ c = 8 := by omega
          have l3 := val_lt ((b.drop (17 + x)).take 4)
          have hl3 : ((b.drop (17 + x)).take 4).length = 4 := by have := hl.out; simp; omega
          rw [hl3] at l3
          clear hl3
          obtain ⟨z, hz⟩ : ∃ z, val ((b.drop (17 + x)).take 4) = z := ⟨_, rfl⟩
          rw [hz] at l3
          have hz4 : z < 4294967296 := l3
          have hck := chk_lt ((b.drop 8).take (9 + x))
          obtain ⟨ck, hc⟩ : ∃ ck, chk ((b.drop 8).take (9 + x)) = ck := ⟨_, rfl⟩
          rw [hc] at hck
          have HZ := Lib.hid hz
          have HC := Lib.hid hc
          clear hz hc l3
          have CV : Hid (∀ W', (∃ a, W' = (w.alloc (.cells #[.int .i64 0, .int .i64 0, .slice none 0 0] 89)).drewN a) → Calls Tryz.prog 107 #[.slice (some ⟨g, o + (17 + x), none⟩) 4 (c - (17 + x))] W' fun e w' => e = .returned (.int .u64 (z : Nat)) ∧ W' = w') := by
            refine Lib.hid fun W' ⟨a, ha⟩ => ?_
            subst ha
            rw [← HZ.out]
            exact value_any _ (Lib.hid (sub_len hl.out (by omega))) (by omega) (Lib.hid ((rd0.out.sub (lo := 17 + x) (k := 4) (by omega)).drewN _))
          have CC : Hid (∀ W', (∃ a, W' = (w.alloc (.cells #[.int .i64 0, .int .i64 0, .slice none 0 0] 89)).drewN a) → Calls Tryz.prog 108 #[.slice (some ⟨g, o + 8, none⟩) (9 + x) (c - 8)] W' fun e w' => e = .returned (.int .u32 (ck : Nat)) ∧ W' = w') := by
            refine Lib.hid fun W' ⟨a, ha⟩ => ?_
            subst ha
            rw [← HC.out]
            exact check_any _ (Lib.hid (sub_len hl.out (by omega))) (Lib.hid ((rd0.out.sub (lo := 8) (k := 9 + x) (by omega)).drewN _))
          go_quiet ((first | (go_at_call 107; exact q0_same (CV.out _ ⟨_, rfl⟩)) | (go_at_call 108; exact q0_same (CC.out _ ⟨_, rfl⟩))))
          clear k1 k2 k3 k6 k9 k11 k12 CV CC
          by_cases hzc : z = ck
          · subst hzc
            obtain ⟨W1, hW1⟩ : ∃ W1, (w.alloc (.cells #[.int .i64 0, .int .i64 0, .slice none 0 0] 89)).drewN nq = W1 := ⟨_, rfl⟩
            rw [hW1]
            have bw1 : Below w.heap.size w W1 := hW1 ▸ bdrewN ((Below.refl _ _).alloc (Nat.le_refl _) _)
            have z1 : w.heap.size < W1.heap.size := by rw [← hW1]; simp
            have RS : Hid (Res3 w W1) := Lib.hid (hW1 ▸ (Res3.new w).more (bdrewN (Below.refl _ _)))
            have rd1 := Lib.hid (hW1 ▸ rd0.out.drewN nq)
            clear hW1
            have l9 := val_lt ((b.drop 9).take 8)
            have l9' : ((b.drop 9).take 8).length = 8 := by have := hl.out; simp; omega
            rw [l9'] at l9
            clear l9'
            obtain ⟨t, ht⟩ : ∃ t, val ((b.drop 9).take 8) = t := ⟨_, rfl⟩
            rw [ht] at l9
            have ht8 : t < 18446744073709551616 := l9
            have HT := Lib.hid ht
            clear ht l9
            go_wp2_with fail
            go_at_call 107
            refine (value_any (l := (b.drop 9).take 8) _ (Lib.hid (sub_len hl.out (by omega))) (by omega) (Lib.hid (rd1.out.sub (lo := 9) (k := 8) (by omega)))).mono ?_
            rintro e w' ⟨rfl, rfl⟩
            rw [HT.out]
            go_wp2_with fail
            obtain ⟨g', o', b8, e8, _, hb8, c8⟩ := rd1.out.byte (k := 8) (by omega)
            cases e8
            have hg1 : g < W1.heap.size := by omega
            have hn8 : (8 : Int) < (n : Int) := by omega
            have k6 : (17 : Int) ≤ 17 + (x : Int) := by omega
            have k9 : ¬ c = 17 := by omega
            have k12 : 17 + x - 17 = x := by omega
            have HK : Hid (∀ U, Below W1.heap.size W1 U → (U.cell? ⟨g, o + 8, none⟩ = some (.int .u8 (b8.toNat : Int)) ∧ Below W1.heap.size W1 U)) := Lib.hid fun U hU => ⟨(hU.cell (p := ⟨g, o + 8, none⟩) hg1).trans c8, hU⟩
            have k13 : IntKind.i64.wrap (b8.toNat : Int) = (b8.toNat : Int) := by have := b8.toNat_lt; simp only [IntKind.wrap_i64]; omega
            obtain ⟨tv, htv⟩ : ∃ tv, IntKind.i64.wrap (t : Int) = tv := ⟨_, rfl⟩
            have htt : t < 9223372036854775808 → tv = t := fun h => by rw [← htv]; simp only [IntKind.wrap_i64]; omega
            have HTT := Lib.hid htt
            clear htt
            have HR : Hid (rec1 b x = ⟨(b8.toNat : Int), (t : Int), (b.drop 17).take x⟩) := by
              refine Lib.hid ?_
              unfold rec1
              rw [HT.out, List.getD_eq_getElem?_getD, hb8]; rfl
            have HXL : Hid (((b.drop 17).take x).length = x) := Lib.hid (sub_len hl.out (by omega)).symm
            clear hb8
            have CL : Hid (∀ U, Below W1.heap.size W1 U → Calls Tryz.prog 80 #[.slice (some ⟨g, o + 17, none⟩) x (c - 17)] U (Mk U x ((b.drop 17).take x))) :=
              Lib.hid fun U hU => clone_any U (Lib.hid ((rd1.out.below hU).sub (lo := 17) (k := x) (by omega))) (by omega)
            go_region_held3 (fun w' => w'.cell? ⟨g, o + 8, none⟩ = some (.int .u8 (b8.toNat : Int)) ∧ Below W1.heap.size W1 w')
              ((refine HK.out _ ?_; repeat (first | exact Below.refl _ _ | assumption | (refine Below.drew ?_) | (refine bel_alloc ?_ (Nat.le_refl _) _) | (refine bel_step ?_ (by assumption) (Nat.le_refl _)) | (refine Below.setCell ?_ (by simp) _) | (refine Below.setCell ?_ (by simp; omega) _) | exact And.right (by assumption))))
              (first | (go_at_call 80; refine (CL.out _ (And.right (by assumption))).mono ?_; rintro e w2 ⟨A2, c2, rfl, own2, hb2⟩; obtain ⟨bc, bf⟩ := bcell hb2))
            · refine gen_world (Q := fun W => Exit.then _ _ Exit.normal _ W) (Fin3 w w2.heap.size b8.toNat tv A2 x c2 ((b.drop 17).take x)) (Fin3.mk2 RS.out (Below.refl _ _).drew hb2 own2) ?_
              have AB : blk A2 ≠ some w.heap.size := fun e => by have := (own_blk_le own2 e).1; have := hb2.size; simp at *; omega
              intro W3 F
              obtain ⟨⟨bel, lt, r0, r1, r2, f0, f1, f2⟩, sz, q0, q1, q2, own⟩ := F
              have OW := Lib.hid own
              clear own
              by_cases ht63 : t < 9223372036854775808
              · obtain rfl : tv = (t : Int) := HTT.out ht63
                rcases hv : okV b8.toNat t x with _ | _
                · have R := Lib.hid (one_n3 HX.out (by rw [HR.out, ok_iff]; rintro ⟨_, h⟩; rw [HXL.out, hv] at h; cases h))
                  have HV := Lib.hid hv
                  clear hv
                  go_wp2_with fail
                  go_at_call 105
                  refine (valid_any _ _ A2 x c2 _).mono ?_
                  rintro e w4 ⟨rfl, hb4⟩
                  rw [HV.out]
                  have RS4 := Res3.more ⟨bel, lt, r0, r1, r2, f0, f1, f2⟩ hb4
                  obtain ⟨bel4, lt4, s0, s1, s2, g0, g1, g2⟩ := RS4
                  clear hb4
                  go_wp2_with fail
                  exact bodyPost_ret (v := .tuple #[.agg #[.int .i64 0, .int .i64 0, .slice none 0 0], .int .i64 0]) (by simp [results, Tryz.results79, go_sem, s0, s1, s2]) rfl (.inl ⟨R.out, rfl, ((bel4.setCell (by simp) _).setCell (by simp) _).setCell (by simp) _⟩)
                · have R := Lib.hid (one_y HX.out (by rw [HY.out, HQ.out]; have := hl.out; omega) (by rw [HZ.out, HC.out]) (by rw [HR.out, ok_iff]; exact ⟨by show (t : Int) < _; omega, by rw [HXL.out]; exact hv⟩))
                  have HV := Lib.hid hv
                  clear hv
                  go_wp2_with fail
                  go_at_call 105
                  refine (valid_any _ _ A2 x c2 _).mono ?_
                  rintro e w4 ⟨rfl, hb4⟩
                  rw [HV.out]
                  have RS4 := Res3.more ⟨bel, lt, r0, r1, r2, f0, f1, f2⟩ hb4
                  obtain ⟨bel4, lt4, s0, s1, s2, g0, g1, g2⟩ := RS4
                  have p0 := (hb4.cell (p := ⟨w2.heap.size, 0, none⟩) sz).trans q0
                  have p1 := (hb4.cell (p := ⟨w2.heap.size, 1, none⟩) sz).trans q1
                  have p2 := (hb4.cell (p := ⟨w2.heap.size, 2, none⟩) sz).trans q2
                  have OW4 := own_below OW.out hb4
                  clear hb4
                  go_wp2_with fail
                  exact bodyPost_ret (v := .tuple #[.agg #[.int .i64 b8.toNat, .int .i64 t, .slice A2 x c2], .int .i64 (17 + x + 4)]) (by simp [results, Tryz.results79, go_sem, s0, s1, s2]) rfl (.inr ⟨_, x, A2, c2, R.out, by rw [HR.out]; exact HXL.out.symm, ret_val (by rw [HR.out]; simp; omega),
                    by rw [HR.out]; exact own_set (own_set (own_set OW4 _ _ AB) _ _ AB) _ _ AB, ((bel4.setCell (by simp) _).setCell (by simp) _).setCell (by simp) _⟩)
              · have R := Lib.hid (one_n3 HX.out (by rw [HR.out, ok_iff]; rintro ⟨h, _⟩; exact ht63 (by have : (t : Int) < _ := h; omega)))
                go_wp2_with fail
                exact bodyPost_ret (v := .tuple #[.agg #[.int .i64 0, .int .i64 0, .slice none 0 0], .int .i64 0]) (by simp [results, Tryz.results79, go_sem, r0, r1, r2]) rfl (.inl ⟨R.out, rfl, ((bel.setCell (by simp) _).setCell (by simp) _).setCell (by simp) _⟩)
            · refine gen_world (Q := fun W => Exit.then _ _ Exit.normal _ W) (Fin3 w W1.heap.size b8.toNat tv A2 x c2 ((b.drop 17).take x)) (Fin3.mk1 RS.out ((Below.refl _ _).alloc (Nat.le_refl _) _).drew hb2 (by simp) ?_ own2) ?_
              · intro o ho
                obtain ⟨a, b, c⟩ := box3 W1 (.int .i64 0) (.int .i64 0) (.slice none 0 0) 89
                have : o = 0 ∨ o = 1 ∨ o = 2 := by omega
                rcases this with rfl | rfl | rfl
                · exact Option.isSome_of_eq_some a
                · exact Option.isSome_of_eq_some b
                · exact Option.isSome_of_eq_some c
              have AB : blk A2 ≠ some w.heap.size := fun e => by have := (own_blk_le own2 e).1; have := hb2.size; simp at *; omega
              intro W3 F
              obtain ⟨⟨bel, lt, r0, r1, r2, f0, f1, f2⟩, sz, q0, q1, q2, own⟩ := F
              have OW := Lib.hid own
              clear own
              by_cases ht63 : t < 9223372036854775808
              · obtain rfl : tv = (t : Int) := HTT.out ht63
                rcases hv : okV b8.toNat t x with _ | _
                · have R := Lib.hid (one_n3 HX.out (by rw [HR.out, ok_iff]; rintro ⟨_, h⟩; rw [HXL.out, hv] at h; cases h))
                  have HV := Lib.hid hv
                  clear hv
                  go_wp2_with fail
                  go_at_call 105
                  refine (valid_any _ _ A2 x c2 _).mono ?_
                  rintro e w4 ⟨rfl, hb4⟩
                  rw [HV.out]
                  have RS4 := Res3.more ⟨bel, lt, r0, r1, r2, f0, f1, f2⟩ hb4
                  obtain ⟨bel4, lt4, s0, s1, s2, g0, g1, g2⟩ := RS4
                  clear hb4
                  go_wp2_with fail
                  exact bodyPost_ret (v := .tuple #[.agg #[.int .i64 0, .int .i64 0, .slice none 0 0], .int .i64 0]) (by simp [results, Tryz.results79, go_sem, s0, s1, s2]) rfl (.inl ⟨R.out, rfl, ((bel4.setCell (by simp) _).setCell (by simp) _).setCell (by simp) _⟩)
                · have R := Lib.hid (one_y HX.out (by rw [HY.out, HQ.out]; have := hl.out; omega) (by rw [HZ.out, HC.out]) (by rw [HR.out, ok_iff]; exact ⟨by show (t : Int) < _; omega, by rw [HXL.out]; exact hv⟩))
                  have HV := Lib.hid hv
                  clear hv
                  go_wp2_with fail
                  go_at_call 105
                  refine (valid_any _ _ A2 x c2 _).mono ?_
                  rintro e w4 ⟨rfl, hb4⟩
                  rw [HV.out]
                  have RS4 := Res3.more ⟨bel, lt, r0, r1, r2, f0, f1, f2⟩ hb4
                  obtain ⟨bel4, lt4, s0, s1, s2, g0, g1, g2⟩ := RS4
                  have p0 := (hb4.cell (p := ⟨W1.heap.size, 0, none⟩) sz).trans q0
                  have p1 := (hb4.cell (p := ⟨W1.heap.size, 1, none⟩) sz).trans q1
                  have p2 := (hb4.cell (p := ⟨W1.heap.size, 2, none⟩) sz).trans q2
                  have OW4 := own_below OW.out hb4
                  clear hb4
                  go_wp2_with fail
                  exact bodyPost_ret (v := .tuple #[.agg #[.int .i64 b8.toNat, .int .i64 t, .slice A2 x c2], .int .i64 (17 + x + 4)]) (by simp [results, Tryz.results79, go_sem, s0, s1, s2]) rfl (.inr ⟨_, x, A2, c2, R.out, by rw [HR.out]; exact HXL.out.symm, ret_val (by rw [HR.out]; simp; omega),
                    by rw [HR.out]; exact own_set (own_set (own_set OW4 _ _ AB) _ _ AB) _ _ AB, ((bel4.setCell (by simp) _).setCell (by simp) _).setCell (by simp) _⟩)
              · have R := Lib.hid (one_n3 HX.out (by rw [HR.out, ok_iff]; rintro ⟨h, _⟩; exact ht63 (by have : (t : Int) < _ := h; omega)))
                go_wp2_with fail
                exact bodyPost_ret (v := .tuple #[.agg #[.int .i64 0, .int .i64 0, .slice none 0 0], .int .i64 0]) (by simp [results, Tryz.results79, go_sem, r0, r1, r2]) rfl (.inl ⟨R.out, rfl, ((bel.setCell (by simp) _).setCell (by simp) _).setCell (by simp) _⟩)
          · have R := Lib.hid (one_n2 (b := b) (by rw [HX.out, HZ.out, HC.out]; exact hzc))
            have hd : ((z : Int) != (ck : Int)) = true := by simp; omega
            go_wp2
            exact bodyPost_ret (v := .tuple #[.agg #[.int .i64 0, .int .i64 0, .slice none 0 0], .int .i64 0]) (by simp [results, Tryz.results79, go_sem]) rfl (.inl ⟨R.out, rfl, (((bdrewN ((Below.refl _ _).alloc (Nat.le_refl _) _)).setCell (by simp) _).setCell (by simp) _).setCell (by simp) _⟩)
        · have R := Lib.hid (one_n1 (b := b) (by rw [HX.out]; right; right; have := hl.out; omega))
          go_wp2
          exact bodyPost_ret (v := .tuple #[.agg #[.int .i64 0, .int .i64 0, .slice none 0 0], .int .i64 0]) (by simp [results, Tryz.results79, go_sem]) rfl (.inl ⟨R.out, rfl, (Below.refl _ _).alloc (Nat.le_refl _) _⟩)
      · have R := Lib.hid (one_n1 (b := b) (by rw [HX.out]; right; left; omega))
        go_wp2
        exact bodyPost_ret (v := .tuple #[.agg #[.int .i64 0, .int .i64 0, .slice none 0 0], .int .i64 0]) (by simp [results, Tryz.results79, go_sem]) rfl (.inl ⟨R.out, rfl, (Below.refl _ _).alloc (Nat.le_refl _) _⟩)
    · have R := Lib.hid (one_n1 (b := b) (by rw [HX.out, HY.out, HQ.out]; left; exact hyq))
      have hd : ((y : Int) != (q : Int)) = true := by simp; omega
      go_wp2
      exact bodyPost_ret (v := .tuple #[.agg #[.int .i64 0, .int .i64 0, .slice none 0 0], .int .i64 0]) (by simp [results, Tryz.results79, go_sem]) rfl (.inl ⟨R.out, rfl, (Below.refl _ _).alloc (Nat.le_refl _) _⟩)
end Go.Proofs.YtpmkohnljngbhaaGreatDoor.Wl
/- Walk: the record at the beginning of some bytes, by the reference. -/
namespace Go.Proofs.YtpmkohnljngbhaaGreatDoor.Wl
set_option maxRecDepth 1000000
open Go.RowKit
attribute [local go_sem ↓] Go.wp_at_zero Go.wp_at_succ

theorem Fin3.mk3 {w W w2 : World} {p : Nat} {k t : Int} {A : Option Addr} {x c : Nat} {d : List UInt8} (h : Res3 w W) (h2 : Below W.heap.size W w2) (hp : W.heap.size ≤ p) (hz : p < w2.heap.size)
    (hp1 : ∀ o, o < 3 → (w2.cell? ⟨p, o, none⟩).isSome = true) (own : w2.ownsRow W.heap.size 5 1 (.slice A x c) x (bv d)) (ha : blk A ≠ some p) :
    Fin3 w p k t A x c d (((w2.setCell ⟨p, 0, none⟩ (.int .i64 k)).setCell ⟨p, 1, none⟩ (.int .i64 t)).setCell ⟨p, 2, none⟩ (.slice A x c)) := by
  have hot : ∀ (V : World) (o o' : Nat) (v : Value), o ≠ o' → (V.setCell ⟨p, o, none⟩ v).cell? ⟨p, o', none⟩ = V.cell? ⟨p, o', none⟩ := fun V o o' v h => World.cell?_setCell_other _ _ _ _ (fun e => by injection e; omega)
  refine ⟨h.more ?_, by simpa [World.setCell] using hz, ?_, ?_, ?_, ?_⟩
  · exact ((h2.setCell (p := ⟨p, 0, none⟩) hp _).setCell (p := ⟨p, 1, none⟩) hp _).setCell (p := ⟨p, 2, none⟩) hp _
  · rw [hot _ _ _ _ (by omega), hot _ _ _ _ (by omega)]; exact World.cell?_setCell_same' _ _ _ (hp1 0 (by omega))
  · rw [hot _ _ _ _ (by omega)]; exact World.cell?_setCell_same' _ _ _ (by rw [hot _ _ _ _ (by omega)]; exact hp1 1 (by omega))
  · exact World.cell?_setCell_same' _ _ _ (by rw [hot _ _ _ _ (by omega), hot _ _ _ _ (by omega)]; exact hp1 2 (by omega))
  · have := h.lt
    exact own_base (own_set (own_set (own_set own _ _ ha) _ _ ha) _ _ ha) (by omega)
set_option maxHeartbeats 1600000 in
theorem rone_any {A : Option Addr} {n c : Nat} {b : List UInt8} (w : World) (hl : Hid (n = b.length)) (h : Hid (Rd w 1 A n c (bv b))) (hn : n ≤ 1073741824) :
    Calls Tryz.prog 90 #[.slice A n c] w (On w b) := by
  have hnc := h.out.nc
  have hc63 := h.out.c63
  by_cases h21 : n < 21
  · have R := Lib.hid (one_short (b := b) (by have := hl.out; omega))
    go_enter Tryz.func90, Tryz.ntmps90
    go_wp2
    exact bodyPost_ret (v := .tuple #[.agg #[.int .i64 0, .int .i64 0, .slice none 0 0], .int .i64 0]) (by simp [results, Tryz.results90, go_sem]) rfl (.inl ⟨R.out, rfl, (Below.refl _ _).alloc (Nat.le_refl _) _⟩)
  · obtain ⟨g, o, rfl, hg, _⟩ := h.out.at_ (by omega)
    have rd0 := Lib.hid (h.out.alloc (.cells #[.int .i64 0, .int .i64 0, .slice none 0 0] 89))
    have l4 := val_lt (b.take 4)
    have l4' : (b.take 4).length = 4 := by have := hl.out; simp; omega
    rw [l4'] at l4
    have l8 := val_lt ((b.drop 4).take 4)
    have l8' : ((b.drop 4).take 4).length = 4 := by have := hl.out; simp; omega
    rw [l8'] at l8
    clear l4' l8'
    obtain ⟨x, hx⟩ : ∃ x, val (b.take 4) = x := ⟨_, rfl⟩
    obtain ⟨y, hy⟩ : ∃ y, val ((b.drop 4).take 4) = y := ⟨_, rfl⟩
    rw [hx] at l4
    rw [hy] at l8
    have hx4 : x < 4294967296 := l4
    have hy4 : y < 4294967296 := l8
    have HX := Lib.hid hx
    have HY := Lib.hid hy
    clear hx hy l4 l8
    have hxor := u32_flip y hy4
    obtain ⟨q, hq⟩ : ∃ q, 4294967295 - y = q := ⟨_, rfl⟩
    rw [hq] at hxor
    have HQ := Lib.hid hq; clear hq
    go_enter Tryz.func90, Tryz.ntmps90
    go_wp2_with fail
    go_at_call 116
    refine (rnumber_any (l := b) _ (by omega) rd0).mono ?_
    rintro e W1 ⟨rfl, k1, hw1⟩
    rw [HX.out]
    have rd1 := Lib.hid (hw1 ▸ rd0.out.drewN k1)
    have RS : Hid (Res3 w W1) := Lib.hid (hw1 ▸ (Res3.new w).more (bdrewN (Below.refl _ _)))
    clear hw1
    go_wp2_with fail
    go_at_call 116
    refine (rnumber_any (l := b.drop 4) _ (by omega) (Lib.hid (rd1.out.tail (lo := 4) (by omega)))).mono ?_
    rintro e W2 ⟨rfl, k2, hw2⟩
    rw [HY.out]
    have rd2 := Lib.hid (hw2 ▸ rd1.out.drewN k2)
    have RS2 : Hid (Res3 w W2) := Lib.hid (hw2 ▸ RS.out.more (bdrewN (Below.refl _ _)))
    clear hw2 RS rd1
    obtain ⟨bel, lt, r0, r1, r2, f0, f1, f2⟩ := RS2.out
    by_cases hyq : x = q
    · subst hyq
      by_cases hx5 : x ≤ 4096
      · by_cases hnx : 21 + x ≤ n
        · go_wp2_with fail
          have k1 : (0 : Int) ≤ 17 + (x : Int) := by omega
          have k2 : (17 : Int) + (x : Int) ≤ (n : Int) := by omega
          have k4 : (8 : Int) ≤ 17 + (x : Int) := by omega
          have k5 : (17 : Int) + (x : Int) ≤ (c : Int) := by omega
          have k7 : ¬ c = 17 + x := by omega
          have k8 : ((17 : Int) + (x : Int)).toNat = 17 + x := by omega
          have k10 : ¬ c = 8 := by omega
          have k12 : 17 + x - 8 = 9 + x := by omega
          have l3 := val_lt ((b.drop (17 + x)).take 4)
          have hl3 : ((b.drop (17 + x)).take 4).length = 4 := by have := hl.out; simp; omega
          rw [hl3] at l3
          clear hl3
          obtain ⟨z, hz⟩ : ∃ z, val ((b.drop (17 + x)).take 4) = z := ⟨_, rfl⟩
          rw [hz] at l3
          have hz4 : z < 4294967296 := l3
          have hck := chk_lt ((b.drop 8).take (9 + x))
          obtain ⟨ck, hc⟩ : ∃ ck, chk ((b.drop 8).take (9 + x)) = ck := ⟨_, rfl⟩
          rw [hc] at hck
          have HZ := Lib.hid hz
          have HC := Lib.hid hc
          clear hz hc l3
          have CV : Hid (∀ a, Calls Tryz.prog 116 #[.slice (some ⟨g, o + (17 + x), none⟩) (n - (17 + x)) (c - (17 + x))] (W2.drewN a) fun e w' => e = .returned (.int .u32 (z : Nat)) ∧ ∃ m, w' = (W2.drewN a).drewN m) := by
            refine Lib.hid fun a => ?_
            rw [← HZ.out]
            exact rnumber_any (l := b.drop (17 + x)) _ (by omega) (Lib.hid ((rd2.out.tail (lo := 17 + x) (by omega)).drewN _))
          have CC : Hid (∀ a, Calls Tryz.prog 89 #[.slice (some ⟨g, o + 8, none⟩) (9 + x) (c - 8)] (W2.drewN a) fun e w' => e = .returned (.int .u32 (ck : Nat)) ∧ W2.drewN a = w') := by
            refine Lib.hid fun a => ?_
            rw [← HC.out]
            exact rCheck_any _ (Lib.hid (sub_len hl.out (by omega))) (Lib.hid ((rd2.out.sub (lo := 8) (k := 9 + x) (by omega)).drewN _))
          go_quiet ((first | (go_at_call 116; exact q0_drew (CV.out _)) | (go_at_call 89; exact q0_same (CC.out _))))
          clear k1 k2 k12 CV CC
          by_cases hzc : z = ck
          · subst hzc
            obtain ⟨W3, hW3⟩ : ∃ W3, W2.drewN nq = W3 := ⟨_, rfl⟩
            rw [hW3]
            have rd3 := Lib.hid (hW3 ▸ rd2.out.drewN nq)
            have RS3 : Hid (Res3 w W3) := Lib.hid (hW3 ▸ RS2.out.more (bdrewN (Below.refl _ _)))
            clear hW3 bel lt r0 r1 r2 f0 f1 f2 RS2 rd2
            go_wp2_with fail
            go_loop [6, 7] (fun s i => ∃ j : Nat, j ≤ 8 ∧ i = .int .i64 ((9 + j : Nat) : Int) ∧ s = .int .u64 (val ((b.drop 9).take j) : Nat)) (fun _ i => (17 - intOf i).toNat)
            case atStart => exact ⟨0, by omega, rfl, rfl⟩
            case round =>
              obtain ⟨j, hj, rfl, rfl⟩ := hrel
              by_cases hlt8 : j < 8
              · have hb := val_lt ((b.drop 9).take j)
                have hk7 : 256 ^ ((b.drop 9).take j).length ≤ 256 ^ 7 := Nat.pow_le_pow_right (by omega) (by simp; omega)
                obtain ⟨g', o', xb, e9, _, hxb, hcell⟩ := rd3.out.byte (k := 9 + j) (by omega)
                cases e9
                obtain ⟨s, hs⟩ : ∃ s, val ((b.drop 9).take j) = s := ⟨_, rfl⟩
                have HS : Hid (val ((b.drop 9).take (j + 1)) = s * 256 + xb.toNat) := by
                  have : (b.drop 9)[j]? = some xb := by rw [List.getElem?_drop]; exact hxb
                  rw [take_snoc this, val_snoc, hs]; exact Lib.hid rfl
                rw [hs] at hb ⊢
                have hb' : s < 72057594037927936 := by omega
                clear hs hxb hb hk7
                have hxx := xb.toNat_lt
                go_wp2
                go_round
                case rel => exact ⟨j + 1, by omega, by go_num, by rw [HS.out, or_byte s xb (by omega)]⟩
                case measure => simp [intOf]; omega
              · obtain rfl : j = 8 := by omega
                have l9 := val_lt ((b.drop 9).take 8)
                have l9' : ((b.drop 9).take 8).length = 8 := by have := hl.out; simp; omega
                rw [l9'] at l9
                clear l9'
                obtain ⟨t, ht⟩ : ∃ t, val ((b.drop 9).take 8) = t := ⟨_, rfl⟩
                rw [ht] at l9 ⊢
                have ht8 : t < 18446744073709551616 := l9
                have HT := Lib.hid ht
                clear ht l9
                obtain ⟨g', o', b8, e8, _, hb8, c8⟩ := rd3.out.byte (k := 8) (by omega)
                cases e8
                have hg1 : g < W3.heap.size := by have := RS3.out.bel.size; omega
                have hn8 : (8 : Int) < (n : Int) := by omega
                have k6 : (17 : Int) ≤ 17 + (x : Int) := by omega
                have k9 : ¬ c = 17 := by omega
                have k12 : 17 + x - 17 = x := by omega
                have k13 : IntKind.i64.wrap (b8.toNat : Int) = (b8.toNat : Int) := by have := b8.toNat_lt; simp only [IntKind.wrap_i64]; omega
                obtain ⟨tv, htv⟩ : ∃ tv, IntKind.i64.wrap (t : Int) = tv := ⟨_, rfl⟩
                have htt : (t < 9223372036854775808 → tv = t) ∧ (¬ t < 9223372036854775808 → tv < 1) := by rw [← htv]; simp only [IntKind.wrap_i64]; omega
                have HTT := Lib.hid htt
                clear htt
                have HR : Hid (rec1 b x = ⟨(b8.toNat : Int), (t : Int), (b.drop 17).take x⟩) := by
                  refine Lib.hid ?_
                  unfold rec1
                  rw [HT.out, List.getD_eq_getElem?_getD, hb8]; rfl
                have HXL : Hid (((b.drop 17).take x).length = x) := Lib.hid (sub_len hl.out (by omega)).symm
                clear hb8
                have HK : Hid (∀ U, Below W3.heap.size W3 U → (U.cell? ⟨g, o + 8, none⟩ = some (.int .u8 (b8.toNat : Int)) ∧ Below W3.heap.size W3 U)) := Lib.hid fun U hU => ⟨(hU.cell (p := ⟨g, o + 8, none⟩) hg1).trans c8, hU⟩
                have SB : Hid (∀ U, Below W3.heap.size W3 U → Rd U 1 (some ⟨g, o + 17, none⟩) x (c - 17) (bv ((b.drop 17).take x))) := Lib.hid fun U hU => (rd3.out.below hU).sub (lo := 17) (k := x) (by omega)
                obtain ⟨i0, hi, hz0, hz1, hz2⟩ := info_parts info_u8
                go_wp2_with fail
                go_region_held3 (fun w' => w'.cell? ⟨g, o + 8, none⟩ = some (.int .u8 (b8.toNat : Int)) ∧ Below W3.heap.size W3 w')
                  ((refine HK.out _ ?_; repeat (first | exact Below.refl _ _ | assumption | (refine Below.drew ?_) | (refine bel_alloc ?_ (Nat.le_refl _) _) | (refine Below.setCell ?_ (by simp) _) | (refine Below.setCell ?_ (by simp; omega) _) | exact And.right (by assumption))))
                  ((
                     refine step_app (n := 0) (c := 0) (xs := (#[] : Array Value).toList) _ (by rfl) (.tmp 65) (.tmp 68) 30 (by rfl) W3.heap.size 5 i0 (.int .u8 0) 1 1 Tryz.underlying30 hi hz0 hz1 hz2 rfl (by omega) (by rfl) ?_ (by rfl) (SB.out _ ?_) (bv_one _) (by omega) (by omega) ?_ ?_
                     · (repeat (first | exact own_lit' _ _ 1 #[] 0 (by simp) (by simp) (by unfold maxLen; omega) rfl | refine own_drew ?_ | refine own_alloc ?_ _))
                     · exact And.right (by assumption)
                     · first | (simp; done) | (simp; omega)
                     intro A2 c2 w2 own2 gr2; have hb2 := gr2.low' (And.right (by assumption)) (Nat.le_refl W3.heap.size) (by first | (simp; done) | (simp; omega)); have ee := gr2.cells3 (W3.heap.size + 1); have ef := gr2.cells3 W3.heap.size; simp at ee ef))
                · have own3 : w2.ownsRow W3.heap.size 5 1 (.slice A2 x c2) x (bv ((b.drop 17).take x)) := by simpa using own2
                  have AB : blk A2 ≠ some w.heap.size := fun e => by have := (own_blk_le own3 e).1; have := RS3.out.lt; omega
                  have sz2 := gr2.by_.size
                  simp at sz2
                  refine gen_world (Q := fun W => Exit.then _ _ Exit.normal _ W) (Fin3 w w2.heap.size b8.toNat tv A2 x c2 ((b.drop 17).take x)) (Fin3.mk2 RS3.out (Below.refl _ _) hb2 own3) ?_
                  clear own2 own3 gr2 hb2 sz2
                  intro W4 F
                  obtain ⟨⟨bel, lt, r0, r1, r2, f0, f1, f2⟩, sz, q0, q1, q2, own⟩ := F
                  have OW := Lib.hid own
                  clear own
                  rcases hv : okV b8.toNat tv x with _ | _
                  · have R := Lib.hid (one_n3 HX.out (by
                      rw [HR.out, ok_iff]; rintro ⟨ht, h⟩; rw [HXL.out] at h
                      have := HTT.out.1 (by have : (t : Int) < _ := ht; omega)
                      rw [this] at hv; exact absurd (h.symm.trans hv) (by simp)))
                    have HV := Lib.hid hv
                    clear hv
                    go_wp2_with fail
                    go_at_call 87
                    refine (rValid_any _ _ A2 x c2 _).mono ?_
                    rintro e w4 ⟨rfl, hb4⟩
                    rw [HV.out]
                    have RS4 := Res3.more ⟨bel, lt, r0, r1, r2, f0, f1, f2⟩ hb4
                    obtain ⟨bel4, lt4, s0, s1, s2, g0, g1, g2⟩ := RS4
                    clear hb4
                    go_wp2_with fail
                    exact bodyPost_ret (v := .tuple #[.agg #[.int .i64 0, .int .i64 0, .slice none 0 0], .int .i64 0]) (by simp [results, Tryz.results90, go_sem, s0, s1, s2]) rfl (.inl ⟨R.out, rfl, ((bel4.setCell (by simp) _).setCell (by simp) _).setCell (by simp) _⟩)
                  · have ht63 : t < 9223372036854775808 := by
                      rcases Nat.lt_or_ge t 9223372036854775808 with h | h
                      · exact h
                      · have h1 := HTT.out.2 (by omega)
                        have h2 := (okV_p hv).2.2.1
                        omega
                    obtain rfl : tv = (t : Int) := HTT.out.1 ht63
                    have R := Lib.hid (one_y HX.out (by rw [HY.out]; have := hl.out; have := HQ.out; omega) (by rw [HZ.out, HC.out]) (by rw [HR.out, ok_iff]; exact ⟨by show (t : Int) < _; omega, by rw [HXL.out]; exact hv⟩))
                    have HV := Lib.hid hv
                    clear hv
                    go_wp2_with fail
                    go_at_call 87
                    refine (rValid_any _ _ A2 x c2 _).mono ?_
                    rintro e w4 ⟨rfl, hb4⟩
                    rw [HV.out]
                    have RS4 := Res3.more ⟨bel, lt, r0, r1, r2, f0, f1, f2⟩ hb4
                    obtain ⟨bel4, lt4, s0, s1, s2, g0, g1, g2⟩ := RS4
                    have p0 := (hb4.cell (p := ⟨w2.heap.size, 0, none⟩) sz).trans q0
                    have p1 := (hb4.cell (p := ⟨w2.heap.size, 1, none⟩) sz).trans q1
                    have p2 := (hb4.cell (p := ⟨w2.heap.size, 2, none⟩) sz).trans q2
                    have OW4 := own_below OW.out hb4
                    clear hb4
                    go_wp2_with fail
                    exact bodyPost_ret (v := .tuple #[.agg #[.int .i64 b8.toNat, .int .i64 t, .slice A2 x c2], .int .i64 (17 + x + 4)]) (by simp [results, Tryz.results90, go_sem, s0, s1, s2]) rfl (.inr ⟨_, x, A2, c2, R.out, by rw [HR.out]; exact HXL.out.symm, ret_val (by rw [HR.out]; simp; omega),
                      by rw [HR.out]; exact own_set (own_set (own_set OW4 _ _ AB) _ _ AB) _ _ AB, ((bel4.setCell (by simp) _).setCell (by simp) _).setCell (by simp) _⟩)
                · have own3 : w2.ownsRow W3.heap.size 5 1 (.slice A2 x c2) x (bv ((b.drop 17).take x)) := by simpa using own2
                  have AB : blk A2 ≠ some w.heap.size := fun e => by have := (own_blk_le own3 e).1; have := RS3.out.lt; omega
                  have sz2 := gr2.by_.size
                  simp at sz2
                  refine gen_world (Q := fun W => Exit.then _ _ Exit.normal _ W) (Fin3 w (W3.heap.size + 1) b8.toNat tv A2 x c2 ((b.drop 17).take x)) (Fin3.mk3 RS3.out hb2 (by omega) (by omega) (fun o ho => ?_) own3 (gr2.ne (by simp) (by simp))) ?_
                  · rw [gr2.cells.1 _ _ (by simp) (by simp)]
                    exact new3 (W3.alloc _) (by simp) _ _ _ _ o ho
                  clear own2 own3 gr2 hb2 sz2 ee
                  intro W4 F
                  obtain ⟨⟨bel, lt, r0, r1, r2, f0, f1, f2⟩, sz, q0, q1, q2, own⟩ := F
                  have OW := Lib.hid own
                  clear own
                  rcases hv : okV b8.toNat tv x with _ | _
                  · have R := Lib.hid (one_n3 HX.out (by
                      rw [HR.out, ok_iff]; rintro ⟨ht, h⟩; rw [HXL.out] at h
                      have := HTT.out.1 (by have : (t : Int) < _ := ht; omega)
                      rw [this] at hv; exact absurd (h.symm.trans hv) (by simp)))
                    have HV := Lib.hid hv
                    clear hv
                    go_wp2_with fail
                    go_at_call 87
                    refine (rValid_any _ _ A2 x c2 _).mono ?_
                    rintro e w4 ⟨rfl, hb4⟩
                    rw [HV.out]
                    have RS4 := Res3.more ⟨bel, lt, r0, r1, r2, f0, f1, f2⟩ hb4
                    obtain ⟨bel4, lt4, s0, s1, s2, g0, g1, g2⟩ := RS4
                    clear hb4
                    go_wp2_with fail
                    exact bodyPost_ret (v := .tuple #[.agg #[.int .i64 0, .int .i64 0, .slice none 0 0], .int .i64 0]) (by simp [results, Tryz.results90, go_sem, s0, s1, s2]) rfl (.inl ⟨R.out, rfl, ((bel4.setCell (by simp) _).setCell (by simp) _).setCell (by simp) _⟩)
                  · have ht63 : t < 9223372036854775808 := by
                      rcases Nat.lt_or_ge t 9223372036854775808 with h | h
                      · exact h
                      · have h1 := HTT.out.2 (by omega)
                        have h2 := (okV_p hv).2.2.1
                        omega
                    obtain rfl : tv = (t : Int) := HTT.out.1 ht63
                    have R := Lib.hid (one_y HX.out (by rw [HY.out]; have := hl.out; have := HQ.out; omega) (by rw [HZ.out, HC.out]) (by rw [HR.out, ok_iff]; exact ⟨by show (t : Int) < _; omega, by rw [HXL.out]; exact hv⟩))
                    have HV := Lib.hid hv
                    clear hv
                    go_wp2_with fail
                    go_at_call 87
                    refine (rValid_any _ _ A2 x c2 _).mono ?_
                    rintro e w4 ⟨rfl, hb4⟩
                    rw [HV.out]
                    have RS4 := Res3.more ⟨bel, lt, r0, r1, r2, f0, f1, f2⟩ hb4
                    obtain ⟨bel4, lt4, s0, s1, s2, g0, g1, g2⟩ := RS4
                    have p0 := (hb4.cell (p := ⟨W3.heap.size + 1, 0, none⟩) sz).trans q0
                    have p1 := (hb4.cell (p := ⟨W3.heap.size + 1, 1, none⟩) sz).trans q1
                    have p2 := (hb4.cell (p := ⟨W3.heap.size + 1, 2, none⟩) sz).trans q2
                    have OW4 := own_below OW.out hb4
                    clear hb4
                    go_wp2_with fail
                    exact bodyPost_ret (v := .tuple #[.agg #[.int .i64 b8.toNat, .int .i64 t, .slice A2 x c2], .int .i64 (17 + x + 4)]) (by simp [results, Tryz.results90, go_sem, s0, s1, s2]) rfl (.inr ⟨_, x, A2, c2, R.out, by rw [HR.out]; exact HXL.out.symm, ret_val (by rw [HR.out]; simp; omega),
                      by rw [HR.out]; exact own_set (own_set (own_set OW4 _ _ AB) _ _ AB) _ _ AB, ((bel4.setCell (by simp) _).setCell (by simp) _).setCell (by simp) _⟩)
                · have own3 : w2.ownsRow W3.heap.size 5 1 (.slice A2 x c2) x (bv ((b.drop 17).take x)) := by simpa using own2
                  have AB : blk A2 ≠ some w.heap.size := fun e => by have := (own_blk_le own3 e).1; have := RS3.out.lt; omega
                  have sz2 := gr2.by_.size
                  simp at sz2
                  refine gen_world (Q := fun W => Exit.then _ _ Exit.normal _ W) (Fin3 w W3.heap.size b8.toNat tv A2 x c2 ((b.drop 17).take x)) (Fin3.mk3 RS3.out hb2 (by omega) (by omega) (fun o ho => ?_) own3 (gr2.ne (by simp; omega) (by simp))) ?_
                  · rw [gr2.cells.1 _ _ (by simp; omega) (by simp)]
                    have := new3 W3 rfl (.int .i64 0) (.int .i64 0) (.slice none 0 0) 89 o ho
                    rw [← World.cell?_alloc_lt _ (.cells #[] 5) ⟨W3.heap.size, o, none⟩ (by simp)] at this
                    exact this
                  clear own2 own3 gr2 hb2 sz2 ef
                  intro W4 F
                  obtain ⟨⟨bel, lt, r0, r1, r2, f0, f1, f2⟩, sz, q0, q1, q2, own⟩ := F
                  have OW := Lib.hid own
                  clear own
                  rcases hv : okV b8.toNat tv x with _ | _
                  · have R := Lib.hid (one_n3 HX.out (by
                      rw [HR.out, ok_iff]; rintro ⟨ht, h⟩; rw [HXL.out] at h
                      have := HTT.out.1 (by have : (t : Int) < _ := ht; omega)
                      rw [this] at hv; exact absurd (h.symm.trans hv) (by simp)))
                    have HV := Lib.hid hv
                    clear hv
                    go_wp2_with fail
                    go_at_call 87
                    refine (rValid_any _ _ A2 x c2 _).mono ?_
                    rintro e w4 ⟨rfl, hb4⟩
                    rw [HV.out]
                    have RS4 := Res3.more ⟨bel, lt, r0, r1, r2, f0, f1, f2⟩ hb4
                    obtain ⟨bel4, lt4, s0, s1, s2, g0, g1, g2⟩ := RS4
                    clear hb4
                    go_wp2_with fail
                    exact bodyPost_ret (v := .tuple #[.agg #[.int .i64 0, .int .i64 0, .slice none 0 0], .int .i64 0]) (by simp [results, Tryz.results90, go_sem, s0, s1, s2]) rfl (.inl ⟨R.out, rfl, ((bel4.setCell (by simp) _).setCell (by simp) _).setCell (by simp) _⟩)
                  · have ht63 : t < 9223372036854775808 := by
                      rcases Nat.lt_or_ge t 9223372036854775808 with h | h
                      · exact h
                      · have h1 := HTT.out.2 (by omega)
                        have h2 := (okV_p hv).2.2.1
                        omega
                    obtain rfl : tv = (t : Int) := HTT.out.1 ht63
                    have R := Lib.hid (one_y HX.out (by rw [HY.out]; have := hl.out; have := HQ.out; omega) (by rw [HZ.out, HC.out]) (by rw [HR.out, ok_iff]; exact ⟨by show (t : Int) < _; omega, by rw [HXL.out]; exact hv⟩))
                    have HV := Lib.hid hv
                    clear hv
                    go_wp2_with fail
                    go_at_call 87
                    refine (rValid_any _ _ A2 x c2 _).mono ?_
                    rintro e w4 ⟨rfl, hb4⟩
                    rw [HV.out]
                    have RS4 := Res3.more ⟨bel, lt, r0, r1, r2, f0, f1, f2⟩ hb4
                    obtain ⟨bel4, lt4, s0, s1, s2, g0, g1, g2⟩ := RS4
                    have p0 := (hb4.cell (p := ⟨W3.heap.size, 0, none⟩) sz).trans q0
                    have p1 := (hb4.cell (p := ⟨W3.heap.size, 1, none⟩) sz).trans q1
                    have p2 := (hb4.cell (p := ⟨W3.heap.size, 2, none⟩) sz).trans q2
                    have OW4 := own_below OW.out hb4
                    clear hb4
                    go_wp2_with fail
                    exact bodyPost_ret (v := .tuple #[.agg #[.int .i64 b8.toNat, .int .i64 t, .slice A2 x c2], .int .i64 (17 + x + 4)]) (by simp [results, Tryz.results90, go_sem, s0, s1, s2]) rfl (.inr ⟨_, x, A2, c2, R.out, by rw [HR.out]; exact HXL.out.symm, ret_val (by rw [HR.out]; simp; omega),
                      by rw [HR.out]; exact own_set (own_set (own_set OW4 _ _ AB) _ _ AB) _ _ AB, ((bel4.setCell (by simp) _).setCell (by simp) _).setCell (by simp) _⟩)
          · have R := Lib.hid (one_n2 (b := b) (by rw [HX.out, HZ.out, HC.out]; exact hzc))
            have hd : ((z : Int) != (ck : Int)) = true := by simp; omega
            go_wp2
            exact bodyPost_ret (v := .tuple #[.agg #[.int .i64 0, .int .i64 0, .slice none 0 0], .int .i64 0]) (by simp [results, Tryz.results90, go_sem, r0, r1, r2]) rfl (.inl ⟨R.out, rfl, (((bdrewN bel).setCell (by simp) _).setCell (by simp) _).setCell (by simp) _⟩)
        · have R := Lib.hid (one_n1 (b := b) (by rw [HX.out]; right; right; have := hl.out; omega))
          go_wp2
          exact bodyPost_ret (v := .tuple #[.agg #[.int .i64 0, .int .i64 0, .slice none 0 0], .int .i64 0]) (by simp [results, Tryz.results90, go_sem, r0, r1, r2]) rfl (.inl ⟨R.out, rfl, ((bel.setCell (by simp) _).setCell (by simp) _).setCell (by simp) _⟩)
      · have R := Lib.hid (one_n1 (b := b) (by rw [HX.out]; right; left; omega))
        go_wp2
        exact bodyPost_ret (v := .tuple #[.agg #[.int .i64 0, .int .i64 0, .slice none 0 0], .int .i64 0]) (by simp [results, Tryz.results90, go_sem, r0, r1, r2]) rfl (.inl ⟨R.out, rfl, ((bel.setCell (by simp) _).setCell (by simp) _).setCell (by simp) _⟩)
    · have R := Lib.hid (one_n1 (b := b) (by rw [HX.out, HY.out]; left; have := HQ.out; omega))
      have hd : ((x : Int) != (q : Int)) = true := by simp; omega
      go_wp2
      exact bodyPost_ret (v := .tuple #[.agg #[.int .i64 0, .int .i64 0, .slice none 0 0], .int .i64 0]) (by simp [results, Tryz.results90, go_sem, r0, r1, r2]) rfl (.inl ⟨R.out, rfl, ((bel.setCell (by simp) _).setCell (by simp) _).setCell (by simp) _⟩)
end Go.Proofs.YtpmkohnljngbhaaGreatDoor.Wl
/- Walks: Read, by the program and by the reference. -/
namespace Go.Proofs.YtpmkohnljngbhaaGreatDoor.Wl
set_option maxRecDepth 1000000
open Go.RowKit

/-- What Read returns. -/
def Rdd (w : World) (b : List UInt8) (e : Ending) (w' : World) : Prop :=
  ∃ A n c l, e = .returned (.tuple #[.slice A n c, .int .i64 (glen b : Nat)]) ∧ l.map RV.r = rd b ∧ Rs w' w.heap.size A n c l ∧ Below w.heap.size w w'
/-- What has been read. -/
structure Got (b : List UInt8) (l : List RV) (at_ : Nat) : Prop where
  ok : ∀ r ∈ l.map RV.r, ok r
  len : at_ = (encs (l.map RV.r)).length
  eq : b = encs (l.map RV.r) ++ b.drop at_
theorem Got.nil (b : List UInt8) : Got b [] 0 := ⟨by simp, by simp [encs], by simp [encs]⟩
theorem Got.push {b : List UInt8} {l : List RV} {a : Nat} (h : Got b l a) {r : Rec} (ho : one (b.drop a) = some r) (x : RV) (hx : x.r = r) : Got b (l ++ [x]) (a + (21 + r.d.length)) := by
  obtain ⟨h1, h2⟩ := one_some ho
  refine ⟨?_, ?_, ?_⟩
  · intro y hy
    rw [List.map_append, List.mem_append] at hy
    rcases hy with hy | hy
    · exact h.ok y hy
    · obtain rfl : y = r := by simpa [hx] using hy
      exact h1
  · rw [List.map_append, List.map_cons, List.map_nil, encs_snoc, List.length_append, hx, enc_len, ← h.len]
  · rw [List.map_append, List.map_cons, List.map_nil, encs_snoc, hx, List.append_assoc]
    rw [List.drop_drop] at h2
    rw [h2]; exact h.eq
theorem Got.le {b : List UInt8} {l : List RV} {a : Nat} (h : Got b l a) : a ≤ b.length := by
  have := congrArg List.length h.eq
  rw [List.length_append, ← h.len] at this
  omega
theorem Got.all {b : List UInt8} {l : List RV} {a : Nat} (h : Got b l a) (ho : one (b.drop a) = none) : l.map RV.r = rd b ∧ a = glen b := by
  have := rd_eq (b := b) (l := l.map RV.r) ⟨h.ok, b.drop a, h.eq, ho⟩
  exact ⟨this.symm, by unfold glen; rw [this]; exact h.len⟩
/-- The rest of a slice, as the model spells it. -/
theorem Rd.end_ {w : World} {n c : Nat} {A A' : Option Addr} {l : List UInt8} (h : Rd w 1 A n c (bv l)) (hA : A' = none → c = n) (hn : l.length = n) {c' : Nat} (hc : c' = c - n) : Rd w 1 A' 0 c' (bv (l.drop n)) := by
  subst hc
  have h1 := h.nc
  have h2 := h.c63
  exact ⟨by rw [bv_len, List.length_drop]; omega, by omega, fun e => by have := hA e; omega, by omega, fun h => by omega⟩

set_option maxHeartbeats 1600000 in
theorem Read_any {A : Option Addr} {n c : Nat} {b : List UInt8} (w : World) (hl : Hid (n = b.length)) (h : Hid (Rd w 1 A n c (bv b))) (hn : n ≤ 1073741824) :
    Calls Tryz.prog 43 #[.slice A n c] w (Rdd w b) := by
  have hnc := h.out.nc
  have hc63 := h.out.c63
  obtain ⟨i0, hi, hz0, hz1, hz2⟩ := info_parts info_rec
  go_enter Tryz.func43, Tryz.ntmps43
  go_wp2_with fail
  go_loopw [4, 5, 6, 7, 8] (fun v i _ _ _ wr => ∃ l A1 n1 c1 a, v = .slice A1 n1 c1 ∧ i = .int .i64 (a : Nat) ∧ a ≤ n ∧ n1 ≤ a ∧ Hid (Rs wr w.heap.size A1 n1 c1 l) ∧ Hid (Got b l a) ∧ Below w.heap.size w wr) (fun _ i _ _ _ _ => (n - intOf i).toNat)
  case atStart => exact ⟨[], none, 0, 0, 0, rfl, rfl, by omega, by omega, Lib.hid (Rs.nil_ _ _), Lib.hid (Got.nil b), Below.refl _ _⟩
  case round =>
    obtain ⟨l, A1, n1, c1, a, rfl, rfl, ha, hn1, rs, gt, bw⟩ := hrel
    have hrd := Lib.hid (h.out.below bw)
    by_cases han : a < n
    · obtain ⟨g, o, rfl, hg, _⟩ := h.out.at_ (by omega)
      have hca : ¬ c = a := by omega
      go_wp2_with fail
      go_at_call 79
      refine (one_any (b := b.drop a) _ (Lib.hid (by have := hl.out; simp; omega)) (Lib.hid (hrd.out.tail (lo := a) (by omega))) (by omega)).mono ?_
      rintro e w1 (⟨ho, rfl, b1⟩ | ⟨r, m, A2, c2, ho, hm, rfl, own, b1⟩)
      · have R := Lib.hid (gt.out.all ho)
        have hag := R.out.2
        have HL := Lib.hid R.out.1
        have rs1 := Lib.hid (rs.out.below b1)
        have bw1 := bw.trans (b1.mono bw.size)
        have HG := Lib.hid hag
        clear R hag ho b1
        go_wp2_with fail
        go_ret2
        exact ⟨A1, n1, c1, l, by rw [← HG.out]; rfl, HL.out, rs1.out.alloc _, bel_alloc bw1 (Nat.le_refl _) _⟩
      · have hle := congrArg List.length (one_some ho).2
        rw [List.length_append, enc_len, List.length_drop, List.length_drop, ← hm, ← hl.out] at hle
        have hok := (one_some ho).1
        have hm' : m ≤ 4096 := by rw [hm]; exact ok_len hok
        have GT := Lib.hid (gt.out.push ho ⟨r.k, r.t, A2, c2, r.d⟩ rfl)
        have HM := Lib.hid hm
        have rs1 := Lib.hid (rs.out.below b1)
        have bw1 := bw.trans (b1.mono bw.size)
        have own1 : w1.ownsRow w.heap.size 5 1 (.slice A2 m c2) m (bv r.d) := own_base own bw.size
        have OW := Lib.hid own1
        have z1 := bw1.size
        have hlen : a + (21 + m) ≤ n := by omega
        clear hle hok hm ho own own1 b1 gt rs
        go_wp2_with (at_builtin; refine wpList_app _ rfl (.tmp 19) (.tmp 21) 85 rfl w.heap.size 89 i0 (.agg #[.int .i64 0, .int .i64 0, .slice none 0 0]) 3 40 Tryz.underlying85 hi hz0 hz1 hz2 rfl (by omega) (by rfl) ((rs1.out.alloc _).alloc _).row (by rfl) (Rd.lit' _ _ 3 #[.int .i64 r.k, .int .i64 r.t, .slice A2 m c2] 1 (by simp) (by omega) rfl) (one3 _ _ _ rfl rfl rfl) (by omega) (by omega) (by simp; omega) ?_; intro A3 c3 w3 own3 g3)
        go_roundw
        case rel =>
          have hw3 := g3.low (bel_alloc (bel_alloc bw1 (Nat.le_refl _) (.cells #[.int .i64 r.k, .int .i64 r.t, .slice A2 m c2] 89)) (Nat.le_refl _) (.cells #[.int .i64 r.k, .int .i64 r.t, .slice A2 m c2] 89)) (by simp; omega) (fun g e => (own_blk_le rs1.out.row e).1)
          refine ⟨_, A3, n1 + 1, c3, a + (21 + r.d.length), rfl, by rw [← HM.out]; go_num, by rw [← HM.out]; exact hlen, by omega, ?_, GT, hw3⟩
          refine Lib.hid (((rs1.out.alloc _).alloc _).push ⟨r.k, r.t, A2, c2, r.d⟩ ?_ ?_ g3)
          · rw [← HM.out]; exact own_alloc (own_alloc OW.out _) _
          · show w3.ownsRow _ _ _ _ _ (_ ++ [.int .i64 r.k, .int .i64 r.t, .slice A2 r.d.length c2])
            rw [← HM.out]; exact own3
        case measure => simp [intOf]; omega
    · obtain rfl : a = n := by omega
      have ho : one (b.drop a) = none := one_short (by have := hl.out; simp; omega)
      have R := Lib.hid (gt.out.all ho)
      have hag := R.out.2
      have HL := Lib.hid R.out.1
      have HG := Lib.hid hag
      clear R hag
      by_cases hca : c = a
      · subst hca
        have hr0 := Lib.hid (hrd.out.end_ (A' := A) (c' := 0) (fun _ => rfl) hl.out.symm (by omega))
        go_wp2_with fail
        go_at_call 79
        refine (one_any (n := 0) (c := 0) (b := b.drop c) _ (Lib.hid (by have := hl.out; simp; omega)) hr0 (by omega)).mono ?_
        rintro e w1 (⟨_, rfl, b1⟩ | ⟨r, m, A2, c2, ho', _⟩)
        · have rs1 := Lib.hid (rs.out.below b1)
          have bw1 := bw.trans (b1.mono bw.size)
          clear b1
          go_wp2_with fail
          go_ret2
          exact ⟨A1, n1, c1, l, by rw [← HG.out]; rfl, HL.out, rs1.out.alloc _, bel_alloc bw1 (Nat.le_refl _) _⟩
        · rw [ho'] at ho; cases ho
      · have hr0 := Lib.hid (hrd.out.end_ (A' := Option.map (fun x => x.add a) A) (c' := c - a) (fun e => by
          rcases A with _ | q
          · have := h.out.nil rfl; omega
          · cases e) hl.out.symm rfl)
        go_wp2_with fail
        go_at_call 79
        refine (one_any (n := 0) (c := c - a) (b := b.drop a) _ (Lib.hid (by have := hl.out; simp; omega)) hr0 (by omega)).mono ?_
        rintro e w1 (⟨_, rfl, b1⟩ | ⟨r, m, A2, c2, ho', _⟩)
        · have rs1 := Lib.hid (rs.out.below b1)
          have bw1 := bw.trans (b1.mono bw.size)
          clear b1
          go_wp2_with fail
          go_ret2
          exact ⟨A1, n1, c1, l, by rw [← HG.out]; rfl, HL.out, rs1.out.alloc _, bel_alloc bw1 (Nat.le_refl _) _⟩
        · rw [ho'] at ho; cases ho

set_option maxHeartbeats 1600000 in
theorem rRead_any {A : Option Addr} {n c : Nat} {b : List UInt8} (w : World) (hl : Hid (n = b.length)) (h : Hid (Rd w 1 A n c (bv b))) (hn : n ≤ 1073741824) :
    Calls Tryz.prog 53 #[.slice A n c] w (Rdd w b) := by
  have hnc := h.out.nc
  have hc63 := h.out.c63
  obtain ⟨i0, hi, hz0, hz1, hz2⟩ := info_parts info_rec
  go_enter Tryz.func53, Tryz.ntmps53
  go_wp2_with fail
  go_loopw [4, 5, 6, 7, 8] (fun v i _ _ _ wr => ∃ l A1 n1 c1 a, v = .slice A1 n1 c1 ∧ i = .int .i64 (a : Nat) ∧ a ≤ n ∧ n1 ≤ a ∧ Hid (Rs wr w.heap.size A1 n1 c1 l) ∧ Hid (Got b l a) ∧ Below w.heap.size w wr) (fun _ i _ _ _ _ => (n - intOf i).toNat)
  case atStart => exact ⟨[], none, 0, 0, 0, rfl, rfl, by omega, by omega, Lib.hid (Rs.nil_ _ _), Lib.hid (Got.nil b), Below.refl _ _⟩
  case round =>
    obtain ⟨l, A1, n1, c1, a, rfl, rfl, ha, hn1, rs, gt, bw⟩ := hrel
    have hrd := Lib.hid (h.out.below bw)
    by_cases han : a < n
    · obtain ⟨g, o, rfl, hg, _⟩ := h.out.at_ (by omega)
      have hca : ¬ c = a := by omega
      go_wp2_with fail
      go_at_call 90
      refine (rone_any (b := b.drop a) _ (Lib.hid (by have := hl.out; simp; omega)) (Lib.hid (hrd.out.tail (lo := a) (by omega))) (by omega)).mono ?_
      rintro e w1 (⟨ho, rfl, b1⟩ | ⟨r, m, A2, c2, ho, hm, rfl, own, b1⟩)
      · have R := Lib.hid (gt.out.all ho)
        have hag := R.out.2
        have HL := Lib.hid R.out.1
        have rs1 := Lib.hid (rs.out.below b1)
        have bw1 := bw.trans (b1.mono bw.size)
        have HG := Lib.hid hag
        clear R hag ho b1
        go_wp2_with fail
        go_ret2
        exact ⟨A1, n1, c1, l, by rw [← HG.out]; rfl, HL.out, rs1.out.alloc _, bel_alloc bw1 (Nat.le_refl _) _⟩
      · have hle := congrArg List.length (one_some ho).2
        rw [List.length_append, enc_len, List.length_drop, List.length_drop, ← hm, ← hl.out] at hle
        have hok := (one_some ho).1
        have hm' : m ≤ 4096 := by rw [hm]; exact ok_len hok
        have GT := Lib.hid (gt.out.push ho ⟨r.k, r.t, A2, c2, r.d⟩ rfl)
        have HM := Lib.hid hm
        have rs1 := Lib.hid (rs.out.below b1)
        have bw1 := bw.trans (b1.mono bw.size)
        have own1 : w1.ownsRow w.heap.size 5 1 (.slice A2 m c2) m (bv r.d) := own_base own bw.size
        have OW := Lib.hid own1
        have z1 := bw1.size
        have hlen : a + (21 + m) ≤ n := by omega
        clear hle hok hm ho own own1 b1 gt rs
        go_wp2_with (at_builtin; refine wpList_app _ rfl (.tmp 19) (.tmp 21) 85 rfl w.heap.size 89 i0 (.agg #[.int .i64 0, .int .i64 0, .slice none 0 0]) 3 40 Tryz.underlying85 hi hz0 hz1 hz2 rfl (by omega) (by rfl) ((rs1.out.alloc _).alloc _).row (by rfl) (Rd.lit' _ _ 3 #[.int .i64 r.k, .int .i64 r.t, .slice A2 m c2] 1 (by simp) (by omega) rfl) (one3 _ _ _ rfl rfl rfl) (by omega) (by omega) (by simp; omega) ?_; intro A3 c3 w3 own3 g3)
        go_roundw
        case rel =>
          have hw3 := g3.low (bel_alloc (bel_alloc bw1 (Nat.le_refl _) (.cells #[.int .i64 r.k, .int .i64 r.t, .slice A2 m c2] 89)) (Nat.le_refl _) (.cells #[.int .i64 r.k, .int .i64 r.t, .slice A2 m c2] 89)) (by simp; omega) (fun g e => (own_blk_le rs1.out.row e).1)
          refine ⟨_, A3, n1 + 1, c3, a + (21 + r.d.length), rfl, by rw [← HM.out]; go_num, by rw [← HM.out]; exact hlen, by omega, ?_, GT, hw3⟩
          refine Lib.hid (((rs1.out.alloc _).alloc _).push ⟨r.k, r.t, A2, c2, r.d⟩ ?_ ?_ g3)
          · rw [← HM.out]; exact own_alloc (own_alloc OW.out _) _
          · show w3.ownsRow _ _ _ _ _ (_ ++ [.int .i64 r.k, .int .i64 r.t, .slice A2 r.d.length c2])
            rw [← HM.out]; exact own3
        case measure => simp [intOf]; omega
    · obtain rfl : a = n := by omega
      have ho : one (b.drop a) = none := one_short (by have := hl.out; simp; omega)
      have R := Lib.hid (gt.out.all ho)
      have hag := R.out.2
      have HL := Lib.hid R.out.1
      have HG := Lib.hid hag
      clear R hag
      by_cases hca : c = a
      · subst hca
        have hr0 := Lib.hid (hrd.out.end_ (A' := A) (c' := 0) (fun _ => rfl) hl.out.symm (by omega))
        go_wp2_with fail
        go_at_call 90
        refine (rone_any (n := 0) (c := 0) (b := b.drop c) _ (Lib.hid (by have := hl.out; simp; omega)) hr0 (by omega)).mono ?_
        rintro e w1 (⟨_, rfl, b1⟩ | ⟨r, m, A2, c2, ho', _⟩)
        · have rs1 := Lib.hid (rs.out.below b1)
          have bw1 := bw.trans (b1.mono bw.size)
          clear b1
          go_wp2_with fail
          go_ret2
          exact ⟨A1, n1, c1, l, by rw [← HG.out]; rfl, HL.out, rs1.out.alloc _, bel_alloc bw1 (Nat.le_refl _) _⟩
        · rw [ho'] at ho; cases ho
      · have hr0 := Lib.hid (hrd.out.end_ (A' := Option.map (fun x => x.add a) A) (c' := c - a) (fun e => by
          rcases A with _ | q
          · have := h.out.nil rfl; omega
          · cases e) hl.out.symm rfl)
        go_wp2_with fail
        go_at_call 90
        refine (rone_any (n := 0) (c := c - a) (b := b.drop a) _ (Lib.hid (by have := hl.out; simp; omega)) hr0 (by omega)).mono ?_
        rintro e w1 (⟨_, rfl, b1⟩ | ⟨r, m, A2, c2, ho', _⟩)
        · have rs1 := Lib.hid (rs.out.below b1)
          have bw1 := bw.trans (b1.mono bw.size)
          clear b1
          go_wp2_with fail
          go_ret2
          exact ⟨A1, n1, c1, l, by rw [← HG.out]; rfl, HL.out, rs1.out.alloc _, bel_alloc bw1 (Nat.le_refl _) _⟩
        · rw [ho'] at ho; cases ho
end Go.Proofs.YtpmkohnljngbhaaGreatDoor.Wl
/- Walks: Append, Cut, by the program and by the reference. -/
namespace Go.Proofs.YtpmkohnljngbhaaGreatDoor.Wl
set_option maxRecDepth 1000000
open Go.RowKit
attribute [local go_sem ↓] Go.wp_at_zero Go.wp_at_succ

def aerr (b : List UInt8) (r : Rec) : Int :=
  if okV r.k r.t r.d.length = false then 1 else if glen b ≠ b.length ∨ 1048576 < b.length then 16 else if 1048576 < b.length + (21 + r.d.length) then 5 else 0
def aout (b : List UInt8) (r : Rec) : List UInt8 := if aerr b r = 0 then b ++ enc r else []
theorem aerr_1 {b : List UInt8} {r : Rec} (h : okV r.k r.t r.d.length = false) : aerr b r = 1 := by unfold aerr; rw [if_pos h]
theorem aerr_16 {b : List UInt8} {r : Rec} (h : okV r.k r.t r.d.length = true) (h1 : glen b ≠ b.length ∨ 1048576 < b.length) : aerr b r = 16 := by unfold aerr; rw [if_neg (by rw [h]; simp), if_pos h1]
theorem aerr_5 {b : List UInt8} {r : Rec} (h : okV r.k r.t r.d.length = true) (h1 : ¬ (glen b ≠ b.length ∨ 1048576 < b.length)) (h2 : 1048576 < b.length + (21 + r.d.length)) : aerr b r = 5 := by
  unfold aerr; rw [if_neg (by rw [h]; simp), if_neg h1, if_pos h2]
theorem aerr_0 {b : List UInt8} {r : Rec} (h : okV r.k r.t r.d.length = true) (h1 : ¬ (glen b ≠ b.length ∨ 1048576 < b.length)) (h2 : ¬ 1048576 < b.length + (21 + r.d.length)) : aerr b r = 0 := by
  unfold aerr; rw [if_neg (by rw [h]; simp), if_neg h1, if_neg h2]
theorem aout_no {b : List UInt8} {r : Rec} (h : aerr b r ≠ 0) : aout b r = [] := if_neg h
theorem aout_yes {b : List UInt8} {r : Rec} (h : aerr b r = 0) : aout b r = b ++ enc r := if_pos h
/-- What Append returns. -/
def ApR (w : World) (b : List UInt8) (r : Rec) (e : Ending) (w' : World) : Prop :=
  ∃ A n c, e = .returned (.tuple #[.slice A n c, .int .i64 (aerr b r)]) ∧ w'.ownsRow w.heap.size 5 1 (.slice A n c) n (bv (aout b r)) ∧ Below w.heap.size w w'
theorem ApR.no {w : World} {b : List UInt8} {r : Rec} {w' : World} {x : Int} (h : aerr b r = x) (h0 : x ≠ 0) (hb : Below w.heap.size w w') : ApR w b r (.returned (.tuple #[.slice none 0 0, .int .i64 x])) w' :=
  ⟨none, 0, 0, by rw [h], by rw [aout_no (by omega)]; exact World.ownsRow_nil _ _ _ _, hb⟩

end Go.Proofs.YtpmkohnljngbhaaGreatDoor.Wl
/- Walks: bytes.Equal, HasPrefix, Cut, records compared. -/
namespace Go.Proofs.YtpmkohnljngbhaaGreatDoor.Wl
set_option maxRecDepth 1000000
open Go.RowKit

theorem conv_any {w : World} {A : Option Addr} {n c : Nat} {l : List UInt8} (h : Rd w 1 A n c (bv l)) :
    (convert 30 9 (.slice A n c)).run Tryz.prog w = .ok (.string ⟨l.toArray⟩) w := by
  have hl := h.len
  rw [bv_len, Nat.mul_one] at hl
  rcases Nat.eq_zero_or_pos n with h0 | h0
  · subst h0
    obtain rfl : l = [] := List.eq_nil_of_length_eq_zero hl
    rw [run_convert_bytes_string w 30 9 5 _ 0 c Tryz.underlying30 Tryz.underlying5 Tryz.underlying9]
    cases A <;> simp [Conv.bytesToString, loadCells]
    all_goals rfl
  · obtain ⟨g, o, rfl, _, hc⟩ := h.at_ h0
    have := run_convert_bytes_arg (P := Tryz.prog) w 30 5 Tryz.underlying30 Tryz.underlying5 g o n c (l.map fun u => (u.toNat : Int)) (by simpa using hl) (fun i hi => by
      have hi' : i < l.length := by omega
      rw [hc i (by omega), bv_get, List.getElem?_eq_getElem hi', List.getD_eq_getElem?_getD, List.getElem?_map, List.getElem?_eq_getElem hi']; rfl) 9 Tryz.underlying9
    rw [this]
    congr 2
    unfold strOfNums
    congr 2
    rw [List.map_map]
    have : ((fun n : Int => UInt8.ofNat n.toNat) ∘ fun u : UInt8 => (u.toNat : Int)) = id := by
      funext u; simp
    rw [this, List.map_id]
def eqB (a b : List UInt8) : Bool := decide (a = b)
theorem eqB_self (a : List UInt8) : eqB a a = true := decide_eq_true rfl
theorem eqB_iff {a b : List UInt8} : eqB a b = true ↔ a = b := decide_eq_true_iff
theorem beq_eqB (a b : List UInt8) : (a == b) = eqB a b := by
  unfold eqB
  rw [Bool.eq_iff_iff, beq_iff_eq, decide_eq_true_iff]
theorem Equal_any {A B : Option Addr} {n c m d : Nat} {a b : List UInt8} (w : World) (h : Hid (Rd w 1 A n c (bv a))) (k : Hid (Rd w 1 B m d (bv b))) :
    Calls Tryz.prog 18 #[.slice A n c, .slice B m d] w fun e w' => e = .returned (.bool (eqB a b)) ∧ w = w' := by
  have r1 := conv_any h.out
  have r2 := conv_any k.out
  have E := Lib.hid (beq_eqB a b)
  go_enter Tryz.func18, Tryz.ntmps18
  go_wp2
  go_ret
  exact ⟨ret_bool E.out, rfl⟩

theorem Rd.upto {w : World} {size n c k : Nat} {A : Option Addr} {xs : List Value} (h : Rd w size A n c xs) (hk : k ≤ n) : Rd w size A k c (xs.take (k * size)) := by
  have h1 := h.nc
  have h2 := h.len
  have h3 : k * size ≤ n * size := Nat.mul_le_mul_right _ hk
  refine ⟨by rw [List.length_take]; omega, by omega, h.nil, h.c63, fun hp => ?_⟩
  obtain ⟨g, o, e, hb, hc⟩ := h.at_ (by omega)
  exact ⟨g, o, e, hb, fun j hj => by rw [hc j (by omega), List.getElem?_take, if_pos hj]⟩
theorem Rd.upto1 {w : World} {n c k : Nat} {A : Option Addr} {l : List UInt8} (h : Rd w 1 A n c (bv l)) (hk : k ≤ n) : Rd w 1 A k c (bv (l.take k)) := by
  have := h.upto hk
  rwa [Nat.mul_one, bv_take] at this
def cutN (n : Int) (l : Nat) : Nat := if n ≤ 0 then 0 else if n ≤ l then n.toNat else l
theorem cutN_le (n : Int) (l : Nat) : cutN n l ≤ l := by unfold cutN; split; omega; split <;> omega
theorem Cut_any {A : Option Addr} {n c : Nat} {b : List UInt8} (k : Int) (w : World) (hl : Hid (n = b.length)) (h : Hid (Rd w 1 A n c (bv b))) (hn : n ≤ 1073741824) (k1 : -9223372036854775808 ≤ k) (k2 : k ≤ 9223372036854775807) :
    Calls Tryz.prog 42 #[.slice A n c, .int .i64 k] w (Mk w (cutN k n) (b.take (cutN k n))) := by
  have hnc := h.out.nc
  have hc63 := h.out.c63
  have hp := Lib.hid (h.out.upto1 (cutN_le k n))
  have hle := cutN_le k n
  obtain ⟨q, hq⟩ : ∃ q, cutN k n = q := ⟨_, rfl⟩
  rw [hq] at hp hle ⊢
  have hv : (k < 0 ∧ q = 0) ∨ (0 ≤ k ∧ k ≤ n ∧ k = (q : Int)) ∨ (0 < k ∧ (n : Int) < k ∧ q = n) := by
    rw [← hq]; unfold cutN; split; omega; split <;> omega
  clear hq
  rcases hv with ⟨h1, rfl⟩ | ⟨h1, h2, rfl⟩ | ⟨h1, h2, rfl⟩
  · go_enter Tryz.func42, Tryz.ntmps42
    go_wp2_with fail
    go_at_call 80
    refine (clone_any _ hp (by omega)).mono ?_
    rintro e w1 ⟨A1, c1, rfl, own1, b1⟩
    go_wp2_with fail
    go_ret
    exact ⟨A1, c1, rfl, own1, b1⟩
  · go_enter Tryz.func42, Tryz.ntmps42
    go_wp2_with fail
    go_at_call 80
    refine (clone_any _ hp (by omega)).mono ?_
    rintro e w1 ⟨A1, c1, rfl, own1, b1⟩
    go_wp2_with fail
    go_ret
    exact ⟨A1, c1, rfl, own1, b1⟩
  · go_enter Tryz.func42, Tryz.ntmps42
    go_wp2_with fail
    go_at_call 80
    refine (clone_any _ hp (by omega)).mono ?_
    rintro e w1 ⟨A1, c1, rfl, own1, b1⟩
    go_wp2_with fail
    go_ret
    exact ⟨A1, c1, rfl, own1, b1⟩
end Go.Proofs.YtpmkohnljngbhaaGreatDoor.Wl
/- Walks: put, commit, records compared, great, the log of records. -/
namespace Go.Proofs.YtpmkohnljngbhaaGreatDoor.Wl
set_option maxRecDepth 1000000
open Go.RowKit

def sameB (a b : Rec) : Bool := decide (a.k = b.k ∧ a.t = b.t ∧ a.d = b.d)
theorem sameB_self (a : Rec) : sameB a a = true := decide_eq_true ⟨rfl, rfl, rfl⟩
theorem sameB_iff {a b : Rec} : sameB a b = true ↔ a = b := by
  unfold sameB
  rw [decide_eq_true_iff]
  exact ⟨fun ⟨h1, h2, h3⟩ => Rec.ext' h1 h2 h3, fun h => by rw [h]; exact ⟨rfl, rfl, rfl⟩⟩
end Go.Proofs.YtpmkohnljngbhaaGreatDoor.Wl
/- Walks: lists of records compared; great. -/
namespace Go.Proofs.YtpmkohnljngbhaaGreatDoor.Wl
set_option maxRecDepth 1000000
open Go.RowKit

theorem Rr.rec_ {w : World} {A : Option Addr} {n c i : Nat} {l : List RV} (h : Rr w A n c l) (hi : i < n) : ∃ g o x, A = some ⟨g, o, none⟩ ∧ g < w.heap.size ∧ l[i]? = some x ∧ x ∈ l ∧
    w.cell? ⟨g, o + i * 3, none⟩ = some (.int .i64 x.k) ∧ w.cell? ⟨g, o + i * 3 + 1, none⟩ = some (.int .i64 x.t) ∧ w.cell? ⟨g, o + i * 3 + 2, none⟩ = some (.slice x.A x.d.length x.c) := by
  obtain ⟨g, o, e, hb, hc⟩ := h.row.at_ (by omega)
  have hl := h.len
  have hx : l[i]? = some (l[i]'(by omega)) := List.getElem?_eq_getElem (by omega)
  obtain ⟨c0, c1, c2⟩ := cells_get l i _ hx
  refine ⟨g, o, _, e, hb, hx, List.getElem_mem _, ?_, ?_, ?_⟩
  · rw [hc _ (by omega)]; exact c0
  · rw [Nat.add_assoc, hc _ (by omega)]; exact c1
  · rw [Nat.add_assoc, hc _ (by omega)]; exact c2
def eqR : List Rec → List Rec → Bool
  | [], [] => true
  | x :: a, y :: b => sameB x y && eqR a b
  | _, _ => false
theorem eqR_iff : ∀ {a b : List Rec}, eqR a b = true ↔ a = b
  | [], [] => by simp [eqR]
  | [], _ :: _ => by simp [eqR]
  | _ :: _, [] => by simp [eqR]
  | x :: a, y :: b => by rw [eqR, Bool.and_eq_true, sameB_iff, eqR_iff]; simp
theorem eqR_f {a b : List Rec} (h : a ≠ b) : eqR a b = false := by
  rcases h' : eqR a b with _ | _
  · rfl
  · exact absurd (eqR_iff.1 h') h
theorem eqR_self (a : List Rec) : eqR a a = true := eqR_iff.2 rfl
theorem map_at {l : List RV} {i : Nat} {x : RV} (h : l[i]? = some x) : (l.map RV.r)[i]? = some x.r := by rw [List.getElem?_map, h]; rfl
end Go.Proofs.YtpmkohnljngbhaaGreatDoor.Wl
