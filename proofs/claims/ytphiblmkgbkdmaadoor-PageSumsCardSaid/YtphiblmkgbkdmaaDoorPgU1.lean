/- Walks of utf8.DecodeRune and bytes.ContainsFunc: a byte that is not zero is found. -/
import Derived.Test.YtphiblmkgbkdmaaDoorBitW
import Derived.Test.YtphiblmkgbkdmaaDoorPgMem
import GoSem.PinnedTables
namespace Go.Proofs.YtphiblmkgbkdmaaDoor.Pg
set_option linter.unusedVariables false
set_option linter.unusedSimpArgs false
open Go.RowKit Wl

def fst8 (b : Nat) : Nat := Go.Pinned.utf8FirstZ.getD b 0
def acc : List Nat := [128, 191, 160, 191, 128, 159, 144, 191, 128, 143]
/-- The tables of the library lie as the program's text lays them. -/
structure Gl (w : World) : Prop where
  sz : 3 ≤ w.heap.size
  first : ∀ i, i < 256 → w.cell? ⟨1, i, none⟩ = some (.int .u8 (fst8 i : Nat))
  acc : ∀ i, i < 10 → w.cell? ⟨2, i, none⟩ = some (.int .u8 (acc.getD i 0 : Nat))
def okb (b : Nat) : Bool := decide (b < 128) || fst8 b == 241 || (fst8 b == 2 && decide (194 ≤ b ∧ b < 224)) || (fst8 b == 19 && b == 224) || (fst8 b == 3 && decide (225 ≤ b ∧ b < 240)) || (fst8 b == 35 && b == 237) || (fst8 b == 52 && b == 240) ||
  (fst8 b == 4 && decide (241 ≤ b ∧ b < 244)) || (fst8 b == 68 && b == 244)
theorem okb_all : (List.range 256).all okb = true := by kernel_rfl
theorem okb_of (b x : Nat) (hx : fst8 b = x) (h1 : 128 ≤ b) (h : okb b = true) : x = 241 ∨ (x = 2 ∧ 194 ≤ b ∧ b < 224) ∨ (x = 19 ∧ b = 224) ∨ (x = 3 ∧ 225 ≤ b ∧ b < 240) ∨ (x = 35 ∧ b = 237) ∨ (x = 52 ∧ b = 240) ∨ (x = 4 ∧ 241 ≤ b ∧ b < 244) ∨ (x = 68 ∧ b = 244) := by
  unfold okb at h
  rw [hx] at h
  simp only [Bool.or_eq_true, Bool.and_eq_true, decide_eq_true_eq, beq_iff_eq] at h
  rcases h with ((((((((h | h) | h) | h) | h) | h) | h) | h) | h)
  · exact absurd h (by omega)
  · exact .inl h
  · exact .inr (.inl h)
  · exact .inr (.inr (.inl h))
  · exact .inr (.inr (.inr (.inl h)))
  · exact .inr (.inr (.inr (.inr (.inl h))))
  · exact .inr (.inr (.inr (.inr (.inr (.inl h)))))
  · exact .inr (.inr (.inr (.inr (.inr (.inr (.inl h))))))
  · exact .inr (.inr (.inr (.inr (.inr (.inr (.inr h))))))
theorem okb_at (b : Nat) (h2 : b < 256) : okb b = true := List.all_eq_true.1 okb_all b (List.mem_range.2 h2)
theorem i32_or_nat (a b : Nat) (ha : a < 2147483648) (hb : b < 2147483648) : bits .or .i32 (a : Int) (b : Int) = ((a ||| b : Nat) : Int) := by
  have hx : a ||| b < 2 ^ 31 := Nat.or_lt_two_pow (by omega) (by omega)
  show IntKind.i32.wrap ((BitVec.ofInt 32 (a : Int) ||| BitVec.ofInt 32 (b : Int)).toNat : Int) = _
  rw [BitVec.toNat_or, ofInt_u32 a (by omega), ofInt_u32 b (by omega)]
  simp [IntKind.wrap, IntKind.bits, IntKind.signed]
  omega
theorem or_ne {a b : Nat} (h : a ≠ 0 ∨ b ≠ 0) : a ||| b ≠ 0 := by
  intro e
  obtain ⟨h1, h2⟩ := Nat.or_eq_zero_iff.1 e
  omega
theorem or_nat2 (a b : Nat) (ha : a < 2147483648) (hb : b < 2147483648) : bits .or .i32 (a : Int) (b : Int) = ((a ||| b : Nat) : Int) := i32_or_nat a b ha hb
theorem or_ne2 (a b : Nat) (ha : a < 2147483648) (hb : b < 2147483648) (h : a ≠ 0 ∨ b ≠ 0) : bits .or .i32 (a : Int) (b : Int) ≠ 0 := by
  rw [i32_or_nat a b ha hb]
  have := or_ne h
  omega
theorem err_ne (b : Nat) (h : b < 256) : bits .or .i32 (bits .andNot .i32 (b : Int) (wrap32 517543559168 / 2147483648)) (bits .and .i32 65533 (wrap32 517543559168 / 2147483648)) ≠ 0 := by
  have : (List.range 256).all (fun b => decide (bits .or .i32 (bits .andNot .i32 (b : Int) (wrap32 517543559168 / 2147483648)) (bits .and .i32 65533 (wrap32 517543559168 / 2147483648)) ≠ 0)) = true := by kernel_rfl
  exact of_decide_eq_true (List.all_eq_true.1 this b (List.mem_range.2 h))
set_option maxHeartbeats 3200000 in
theorem slow_any {A : Option Addr} {n c : Nat} {l : List UInt8} {b0 : UInt8} (w : World) (G : Hid (Gl w)) (h : Hid (Rd w 1 A n c (bv l))) (h0 : Hid (l[0]? = some b0)) (hb : 128 ≤ b0.toNat) (hn1 : 1 ≤ n) (hn : n ≤ 256) :
    Calls Tryd.prog 92 #[.slice A n c] w fun e w' => ∃ q s : Int, e = .returned (.tuple #[.int .i32 q, .int .i64 s]) ∧ q ≠ 0 ∧ Below w.heap.size w w' := by
  have hc := h.out.nc
  have hc2 := h.out.c63
  obtain ⟨g, o, x, rfl, hg, hx, c0⟩ := h.out.byte (k := 0) (by omega)
  obtain rfl : b0 = x := by have := h0.out; rw [this] at hx; injection hx
  have hxl := b0.toNat_lt
  have cf := G.out.first b0.toNat (by omega)
  have sz := G.out.sz
  obtain ⟨z, hz⟩ : ∃ z, b0.toNat = z := ⟨_, rfl⟩
  obtain ⟨y, hy⟩ : ∃ y, fst8 z = y := ⟨_, rfl⟩
  rw [Nat.add_zero, hz] at c0
  rw [hz, hy] at cf
  rw [hz] at hb hxl
  have HY := okb_of z y hy hb (okb_at z (by omega))
  have n31 : bits .and .u8 (z : Int) 31 = (z : Int) % 32 := by rw [show (z : Int) % 32 = ((z % 32 : Nat) : Int) by omega, ← nat_mask5]; exact u8_and_nat z 31 (by omega) (by omega)
  have n15 : bits .and .u8 (z : Int) 15 = (z : Int) % 16 := by rw [show (z : Int) % 16 = ((z % 16 : Nat) : Int) by omega, ← nat_mask4]; exact u8_and_nat z 15 (by omega) (by omega)
  have n7 : bits .and .u8 (z : Int) 7 = (z : Int) % 8 := by rw [show (z : Int) % 8 = ((z % 8 : Nat) : Int) by omega, ← nat_mask3]; exact u8_and_nat z 7 (by omega) (by omega)
  have e0 := err_ne z (by omega)
  clear hx hz h0 hy
  have second : ∀ {k : Nat}, k < n → ∃ x : Nat, x < 256 ∧ w.cell? ⟨g, o + k, none⟩ = some (.int .u8 (x : Int)) ∧ bits .and .u8 (x : Int) 63 = (x : Int) % 64 := by
    intro k hk
    obtain ⟨g', o', x, e, _, _, cc⟩ := h.out.byte hk
    injection e with e
    injection e with e1 e2
    subst e1 e2
    have := x.toNat_lt
    exact ⟨x.toNat, by omega, cc, by rw [show ((x.toNat : Nat) : Int) % 64 = ((x.toNat % 64 : Nat) : Int) by omega, ← nat_mask6]; exact u8_and_nat _ 63 (by omega) (by omega)⟩
  rcases HY with rfl | ⟨rfl, H⟩ | ⟨rfl, H⟩ | ⟨rfl, H⟩ | ⟨rfl, H⟩ | ⟨rfl, H⟩ | ⟨rfl, H⟩ | ⟨rfl, H⟩
  · go_enter Tryd.func92, Tryd.ntmps92
    go_wp2
    go_ret2
    exact ⟨_, _, rfl, e0, Below.refl _ _⟩
  --ARMS
  · clear n15 n7
    have a0 : w.cell? ⟨2, 0, none⟩ = some (.int .u8 128) := G.out.acc 0 (by omega)
    have a1 : w.cell? ⟨2, 1, none⟩ = some (.int .u8 191) := G.out.acc 1 (by omega)
    by_cases hn2 : n < 2
    · clear second
      go_enter Tryd.func92, Tryd.ntmps92
      go_wp2
      all_goals go_ret2
      all_goals (first | exact ⟨_, _, rfl, by decide, bal _ _⟩ | exact ⟨_, ⟨_, rfl⟩, by decide, bal _ _⟩ | (refine ⟨_, ⟨_, rfl⟩, ?_, bal _ _⟩; omega) | exact ⟨_, _, rfl, R, bal _ _⟩ | (refine ⟨_, _, rfl, ?_, bal _ _⟩; omega) | (refine ⟨?_, bal _ _⟩; omega))
    · obtain ⟨x1, l1, c1, m1⟩ := second (k := 1) (by omega)
      clear second
      by_cases hx1 : x1 < 128
      · go_enter Tryd.func92, Tryd.ntmps92
        go_wp2
        all_goals go_ret2
        all_goals (first | exact ⟨_, _, rfl, by decide, bal _ _⟩ | exact ⟨_, ⟨_, rfl⟩, by decide, bal _ _⟩ | (refine ⟨_, ⟨_, rfl⟩, ?_, bal _ _⟩; omega) | exact ⟨_, _, rfl, R, bal _ _⟩ | (refine ⟨_, _, rfl, ?_, bal _ _⟩; omega) | (refine ⟨?_, bal _ _⟩; omega))
      · by_cases hx1b : 191 < x1
        · go_enter Tryd.func92, Tryd.ntmps92
          go_wp2
          all_goals go_ret2
          all_goals (first | exact ⟨_, _, rfl, by decide, bal _ _⟩ | exact ⟨_, ⟨_, rfl⟩, by decide, bal _ _⟩ | (refine ⟨_, ⟨_, rfl⟩, ?_, bal _ _⟩; omega) | exact ⟨_, _, rfl, R, bal _ _⟩ | (refine ⟨_, _, rfl, ?_, bal _ _⟩; omega) | (refine ⟨?_, bal _ _⟩; omega))
        · have R := or_ne2 (z % 32 * 64) (x1 % 64) (by omega) (by omega) (by omega)
          simp only [Int.natCast_mul, Int.natCast_emod, Int.cast_ofNat_Int] at R 
          go_enter Tryd.func92, Tryd.ntmps92
          go_wp2
          all_goals go_ret2
          all_goals (first | exact ⟨_, _, rfl, by decide, bal _ _⟩ | exact ⟨_, ⟨_, rfl⟩, by decide, bal _ _⟩ | (refine ⟨_, ⟨_, rfl⟩, ?_, bal _ _⟩; omega) | exact ⟨_, _, rfl, R, bal _ _⟩ | (refine ⟨_, _, rfl, ?_, bal _ _⟩; omega) | (refine ⟨?_, bal _ _⟩; omega))
  · replace H : 224 ≤ z ∧ z < 225 := by omega
    clear n31 n7
    have a0 : w.cell? ⟨2, 2, none⟩ = some (.int .u8 160) := G.out.acc 2 (by omega)
    have a1 : w.cell? ⟨2, 3, none⟩ = some (.int .u8 191) := G.out.acc 3 (by omega)
    by_cases hn3 : n < 3
    · clear second
      go_enter Tryd.func92, Tryd.ntmps92
      go_wp2
      all_goals go_ret2
      all_goals (first | exact ⟨_, _, rfl, by decide, bal _ _⟩ | exact ⟨_, ⟨_, rfl⟩, by decide, bal _ _⟩ | (refine ⟨_, ⟨_, rfl⟩, ?_, bal _ _⟩; omega) | exact ⟨_, _, rfl, R, bal _ _⟩ | (refine ⟨_, _, rfl, ?_, bal _ _⟩; omega) | (refine ⟨?_, bal _ _⟩; omega))
    · obtain ⟨x1, l1, c1, m1⟩ := second (k := 1) (by omega)
      obtain ⟨x2, l2, c2, m2⟩ := second (k := 2) (by omega)
      clear second
      by_cases hx1 : x1 < 160
      · go_enter Tryd.func92, Tryd.ntmps92
        go_wp2
        all_goals go_ret2
        all_goals (first | exact ⟨_, _, rfl, by decide, bal _ _⟩ | exact ⟨_, ⟨_, rfl⟩, by decide, bal _ _⟩ | (refine ⟨_, ⟨_, rfl⟩, ?_, bal _ _⟩; omega) | exact ⟨_, _, rfl, R, bal _ _⟩ | (refine ⟨_, _, rfl, ?_, bal _ _⟩; omega) | (refine ⟨?_, bal _ _⟩; omega))
      · by_cases hx1b : 191 < x1
        · go_enter Tryd.func92, Tryd.ntmps92
          go_wp2
          all_goals go_ret2
          all_goals (first | exact ⟨_, _, rfl, by decide, bal _ _⟩ | exact ⟨_, ⟨_, rfl⟩, by decide, bal _ _⟩ | (refine ⟨_, ⟨_, rfl⟩, ?_, bal _ _⟩; omega) | exact ⟨_, _, rfl, R, bal _ _⟩ | (refine ⟨_, _, rfl, ?_, bal _ _⟩; omega) | (refine ⟨?_, bal _ _⟩; omega))
        · have R0 := or_nat2 (z % 16 * 4096) (x1 % 64 * 64) (by omega) (by omega)
          have R1 := or_ne (a := z % 16 * 4096) (b := x1 % 64 * 64) (by omega)
          have R2 : z % 16 * 4096 ||| x1 % 64 * 64 < 2147483648 := Nat.or_lt_two_pow (n := 31) (by omega) (by omega)
          obtain ⟨y, hy⟩ : ∃ y, z % 16 * 4096 ||| x1 % 64 * 64 = y := ⟨_, rfl⟩
          rw [hy] at R0 R1 R2
          have R := or_ne2 y (x2 % 64) (by omega) (by omega) (by omega)
          clear hy
          simp only [Int.natCast_mul, Int.natCast_emod, Int.cast_ofNat_Int] at R R0
          go_enter Tryd.func92, Tryd.ntmps92
          go_wp2
          all_goals go_ret2
          all_goals (first | exact ⟨_, _, rfl, by decide, bal _ _⟩ | exact ⟨_, ⟨_, rfl⟩, by decide, bal _ _⟩ | (refine ⟨_, ⟨_, rfl⟩, ?_, bal _ _⟩; omega) | exact ⟨_, _, rfl, R, bal _ _⟩ | (refine ⟨_, _, rfl, ?_, bal _ _⟩; omega) | (refine ⟨?_, bal _ _⟩; omega))
  · clear n31 n7
    have a0 : w.cell? ⟨2, 0, none⟩ = some (.int .u8 128) := G.out.acc 0 (by omega)
    have a1 : w.cell? ⟨2, 1, none⟩ = some (.int .u8 191) := G.out.acc 1 (by omega)
    by_cases hn3 : n < 3
    · clear second
      go_enter Tryd.func92, Tryd.ntmps92
      go_wp2
      all_goals go_ret2
      all_goals (first | exact ⟨_, _, rfl, by decide, bal _ _⟩ | exact ⟨_, ⟨_, rfl⟩, by decide, bal _ _⟩ | (refine ⟨_, ⟨_, rfl⟩, ?_, bal _ _⟩; omega) | exact ⟨_, _, rfl, R, bal _ _⟩ | (refine ⟨_, _, rfl, ?_, bal _ _⟩; omega) | (refine ⟨?_, bal _ _⟩; omega))
    · obtain ⟨x1, l1, c1, m1⟩ := second (k := 1) (by omega)
      obtain ⟨x2, l2, c2, m2⟩ := second (k := 2) (by omega)
      clear second
      by_cases hx1 : x1 < 128
      · go_enter Tryd.func92, Tryd.ntmps92
        go_wp2
        all_goals go_ret2
        all_goals (first | exact ⟨_, _, rfl, by decide, bal _ _⟩ | exact ⟨_, ⟨_, rfl⟩, by decide, bal _ _⟩ | (refine ⟨_, ⟨_, rfl⟩, ?_, bal _ _⟩; omega) | exact ⟨_, _, rfl, R, bal _ _⟩ | (refine ⟨_, _, rfl, ?_, bal _ _⟩; omega) | (refine ⟨?_, bal _ _⟩; omega))
      · by_cases hx1b : 191 < x1
        · go_enter Tryd.func92, Tryd.ntmps92
          go_wp2
          all_goals go_ret2
          all_goals (first | exact ⟨_, _, rfl, by decide, bal _ _⟩ | exact ⟨_, ⟨_, rfl⟩, by decide, bal _ _⟩ | (refine ⟨_, ⟨_, rfl⟩, ?_, bal _ _⟩; omega) | exact ⟨_, _, rfl, R, bal _ _⟩ | (refine ⟨_, _, rfl, ?_, bal _ _⟩; omega) | (refine ⟨?_, bal _ _⟩; omega))
        · have R0 := or_nat2 (z % 16 * 4096) (x1 % 64 * 64) (by omega) (by omega)
          have R1 := or_ne (a := z % 16 * 4096) (b := x1 % 64 * 64) (by omega)
          have R2 : z % 16 * 4096 ||| x1 % 64 * 64 < 2147483648 := Nat.or_lt_two_pow (n := 31) (by omega) (by omega)
          obtain ⟨y, hy⟩ : ∃ y, z % 16 * 4096 ||| x1 % 64 * 64 = y := ⟨_, rfl⟩
          rw [hy] at R0 R1 R2
          have R := or_ne2 y (x2 % 64) (by omega) (by omega) (by omega)
          clear hy
          simp only [Int.natCast_mul, Int.natCast_emod, Int.cast_ofNat_Int] at R R0
          go_enter Tryd.func92, Tryd.ntmps92
          go_wp2
          all_goals go_ret2
          all_goals (first | exact ⟨_, _, rfl, by decide, bal _ _⟩ | exact ⟨_, ⟨_, rfl⟩, by decide, bal _ _⟩ | (refine ⟨_, ⟨_, rfl⟩, ?_, bal _ _⟩; omega) | exact ⟨_, _, rfl, R, bal _ _⟩ | (refine ⟨_, _, rfl, ?_, bal _ _⟩; omega) | (refine ⟨?_, bal _ _⟩; omega))
  · replace H : 237 ≤ z ∧ z < 238 := by omega
    clear n31 n7
    have a0 : w.cell? ⟨2, 4, none⟩ = some (.int .u8 128) := G.out.acc 4 (by omega)
    have a1 : w.cell? ⟨2, 5, none⟩ = some (.int .u8 159) := G.out.acc 5 (by omega)
    by_cases hn3 : n < 3
    · clear second
      go_enter Tryd.func92, Tryd.ntmps92
      go_wp2
      all_goals go_ret2
      all_goals (first | exact ⟨_, _, rfl, by decide, bal _ _⟩ | exact ⟨_, ⟨_, rfl⟩, by decide, bal _ _⟩ | (refine ⟨_, ⟨_, rfl⟩, ?_, bal _ _⟩; omega) | exact ⟨_, _, rfl, R, bal _ _⟩ | (refine ⟨_, _, rfl, ?_, bal _ _⟩; omega) | (refine ⟨?_, bal _ _⟩; omega))
    · obtain ⟨x1, l1, c1, m1⟩ := second (k := 1) (by omega)
      obtain ⟨x2, l2, c2, m2⟩ := second (k := 2) (by omega)
      clear second
      by_cases hx1 : x1 < 128
      · go_enter Tryd.func92, Tryd.ntmps92
        go_wp2
        all_goals go_ret2
        all_goals (first | exact ⟨_, _, rfl, by decide, bal _ _⟩ | exact ⟨_, ⟨_, rfl⟩, by decide, bal _ _⟩ | (refine ⟨_, ⟨_, rfl⟩, ?_, bal _ _⟩; omega) | exact ⟨_, _, rfl, R, bal _ _⟩ | (refine ⟨_, _, rfl, ?_, bal _ _⟩; omega) | (refine ⟨?_, bal _ _⟩; omega))
      · by_cases hx1b : 159 < x1
        · go_enter Tryd.func92, Tryd.ntmps92
          go_wp2
          all_goals go_ret2
          all_goals (first | exact ⟨_, _, rfl, by decide, bal _ _⟩ | exact ⟨_, ⟨_, rfl⟩, by decide, bal _ _⟩ | (refine ⟨_, ⟨_, rfl⟩, ?_, bal _ _⟩; omega) | exact ⟨_, _, rfl, R, bal _ _⟩ | (refine ⟨_, _, rfl, ?_, bal _ _⟩; omega) | (refine ⟨?_, bal _ _⟩; omega))
        · have R0 := or_nat2 (z % 16 * 4096) (x1 % 64 * 64) (by omega) (by omega)
          have R1 := or_ne (a := z % 16 * 4096) (b := x1 % 64 * 64) (by omega)
          have R2 : z % 16 * 4096 ||| x1 % 64 * 64 < 2147483648 := Nat.or_lt_two_pow (n := 31) (by omega) (by omega)
          obtain ⟨y, hy⟩ : ∃ y, z % 16 * 4096 ||| x1 % 64 * 64 = y := ⟨_, rfl⟩
          rw [hy] at R0 R1 R2
          have R := or_ne2 y (x2 % 64) (by omega) (by omega) (by omega)
          clear hy
          simp only [Int.natCast_mul, Int.natCast_emod, Int.cast_ofNat_Int] at R R0
          go_enter Tryd.func92, Tryd.ntmps92
          go_wp2
          all_goals go_ret2
          all_goals (first | exact ⟨_, _, rfl, by decide, bal _ _⟩ | exact ⟨_, ⟨_, rfl⟩, by decide, bal _ _⟩ | (refine ⟨_, ⟨_, rfl⟩, ?_, bal _ _⟩; omega) | exact ⟨_, _, rfl, R, bal _ _⟩ | (refine ⟨_, _, rfl, ?_, bal _ _⟩; omega) | (refine ⟨?_, bal _ _⟩; omega))
  · replace H : 240 ≤ z ∧ z < 241 := by omega
    clear n31 n15
    have a0 : w.cell? ⟨2, 6, none⟩ = some (.int .u8 144) := G.out.acc 6 (by omega)
    have a1 : w.cell? ⟨2, 7, none⟩ = some (.int .u8 191) := G.out.acc 7 (by omega)
    by_cases hn4 : n < 4
    · clear second
      go_enter Tryd.func92, Tryd.ntmps92
      go_wp2
      all_goals go_ret2
      all_goals (first | exact ⟨_, _, rfl, by decide, bal _ _⟩ | exact ⟨_, ⟨_, rfl⟩, by decide, bal _ _⟩ | (refine ⟨_, ⟨_, rfl⟩, ?_, bal _ _⟩; omega) | exact ⟨_, _, rfl, R, bal _ _⟩ | (refine ⟨_, _, rfl, ?_, bal _ _⟩; omega) | (refine ⟨?_, bal _ _⟩; omega))
    · obtain ⟨x1, l1, c1, m1⟩ := second (k := 1) (by omega)
      obtain ⟨x2, l2, c2, m2⟩ := second (k := 2) (by omega)
      obtain ⟨x3, l3, c3, m3⟩ := second (k := 3) (by omega)
      clear second
      by_cases hx1 : x1 < 144
      · go_enter Tryd.func92, Tryd.ntmps92
        go_wp2
        all_goals go_ret2
        all_goals (first | exact ⟨_, _, rfl, by decide, bal _ _⟩ | exact ⟨_, ⟨_, rfl⟩, by decide, bal _ _⟩ | (refine ⟨_, ⟨_, rfl⟩, ?_, bal _ _⟩; omega) | exact ⟨_, _, rfl, R, bal _ _⟩ | (refine ⟨_, _, rfl, ?_, bal _ _⟩; omega) | (refine ⟨?_, bal _ _⟩; omega))
      · by_cases hx1b : 191 < x1
        · go_enter Tryd.func92, Tryd.ntmps92
          go_wp2
          all_goals go_ret2
          all_goals (first | exact ⟨_, _, rfl, by decide, bal _ _⟩ | exact ⟨_, ⟨_, rfl⟩, by decide, bal _ _⟩ | (refine ⟨_, ⟨_, rfl⟩, ?_, bal _ _⟩; omega) | exact ⟨_, _, rfl, R, bal _ _⟩ | (refine ⟨_, _, rfl, ?_, bal _ _⟩; omega) | (refine ⟨?_, bal _ _⟩; omega))
        · have R0 := or_nat2 (z % 8 * 262144) (x1 % 64 * 4096) (by omega) (by omega)
          have R1 := or_ne (a := z % 8 * 262144) (b := x1 % 64 * 4096) (by omega)
          have R2 : z % 8 * 262144 ||| x1 % 64 * 4096 < 2147483648 := Nat.or_lt_two_pow (n := 31) (by omega) (by omega)
          obtain ⟨y, hy⟩ : ∃ y, z % 8 * 262144 ||| x1 % 64 * 4096 = y := ⟨_, rfl⟩
          rw [hy] at R0 R1 R2
          have S0 := or_nat2 y (x2 % 64 * 64) (by omega) (by omega)
          have S1 := or_ne (a := y) (b := x2 % 64 * 64) (by omega)
          have S2 : y ||| x2 % 64 * 64 < 2147483648 := Nat.or_lt_two_pow (n := 31) (by omega) (by omega)
          obtain ⟨q, hq⟩ : ∃ q, y ||| x2 % 64 * 64 = q := ⟨_, rfl⟩
          rw [hq] at S0 S1 S2
          have R := or_ne2 q (x3 % 64) (by omega) (by omega) (by omega)
          clear hy hq
          simp only [Int.natCast_mul, Int.natCast_emod, Int.cast_ofNat_Int] at R R0 S0
          go_enter Tryd.func92, Tryd.ntmps92
          go_wp2
          all_goals go_ret2
          all_goals (first | exact ⟨_, _, rfl, by decide, bal _ _⟩ | exact ⟨_, ⟨_, rfl⟩, by decide, bal _ _⟩ | (refine ⟨_, ⟨_, rfl⟩, ?_, bal _ _⟩; omega) | exact ⟨_, _, rfl, R, bal _ _⟩ | (refine ⟨_, _, rfl, ?_, bal _ _⟩; omega) | (refine ⟨?_, bal _ _⟩; omega))
  · clear n31 n15
    have a0 : w.cell? ⟨2, 0, none⟩ = some (.int .u8 128) := G.out.acc 0 (by omega)
    have a1 : w.cell? ⟨2, 1, none⟩ = some (.int .u8 191) := G.out.acc 1 (by omega)
    by_cases hn4 : n < 4
    · clear second
      go_enter Tryd.func92, Tryd.ntmps92
      go_wp2
      all_goals go_ret2
      all_goals (first | exact ⟨_, _, rfl, by decide, bal _ _⟩ | exact ⟨_, ⟨_, rfl⟩, by decide, bal _ _⟩ | (refine ⟨_, ⟨_, rfl⟩, ?_, bal _ _⟩; omega) | exact ⟨_, _, rfl, R, bal _ _⟩ | (refine ⟨_, _, rfl, ?_, bal _ _⟩; omega) | (refine ⟨?_, bal _ _⟩; omega))
    · obtain ⟨x1, l1, c1, m1⟩ := second (k := 1) (by omega)
      obtain ⟨x2, l2, c2, m2⟩ := second (k := 2) (by omega)
      obtain ⟨x3, l3, c3, m3⟩ := second (k := 3) (by omega)
      clear second
      by_cases hx1 : x1 < 128
      · go_enter Tryd.func92, Tryd.ntmps92
        go_wp2
        all_goals go_ret2
        all_goals (first | exact ⟨_, _, rfl, by decide, bal _ _⟩ | exact ⟨_, ⟨_, rfl⟩, by decide, bal _ _⟩ | (refine ⟨_, ⟨_, rfl⟩, ?_, bal _ _⟩; omega) | exact ⟨_, _, rfl, R, bal _ _⟩ | (refine ⟨_, _, rfl, ?_, bal _ _⟩; omega) | (refine ⟨?_, bal _ _⟩; omega))
      · by_cases hx1b : 191 < x1
        · go_enter Tryd.func92, Tryd.ntmps92
          go_wp2
          all_goals go_ret2
          all_goals (first | exact ⟨_, _, rfl, by decide, bal _ _⟩ | exact ⟨_, ⟨_, rfl⟩, by decide, bal _ _⟩ | (refine ⟨_, ⟨_, rfl⟩, ?_, bal _ _⟩; omega) | exact ⟨_, _, rfl, R, bal _ _⟩ | (refine ⟨_, _, rfl, ?_, bal _ _⟩; omega) | (refine ⟨?_, bal _ _⟩; omega))
        · have R0 := or_nat2 (z % 8 * 262144) (x1 % 64 * 4096) (by omega) (by omega)
          have R1 := or_ne (a := z % 8 * 262144) (b := x1 % 64 * 4096) (by omega)
          have R2 : z % 8 * 262144 ||| x1 % 64 * 4096 < 2147483648 := Nat.or_lt_two_pow (n := 31) (by omega) (by omega)
          obtain ⟨y, hy⟩ : ∃ y, z % 8 * 262144 ||| x1 % 64 * 4096 = y := ⟨_, rfl⟩
          rw [hy] at R0 R1 R2
          have S0 := or_nat2 y (x2 % 64 * 64) (by omega) (by omega)
          have S1 := or_ne (a := y) (b := x2 % 64 * 64) (by omega)
          have S2 : y ||| x2 % 64 * 64 < 2147483648 := Nat.or_lt_two_pow (n := 31) (by omega) (by omega)
          obtain ⟨q, hq⟩ : ∃ q, y ||| x2 % 64 * 64 = q := ⟨_, rfl⟩
          rw [hq] at S0 S1 S2
          have R := or_ne2 q (x3 % 64) (by omega) (by omega) (by omega)
          clear hy hq
          simp only [Int.natCast_mul, Int.natCast_emod, Int.cast_ofNat_Int] at R R0 S0
          go_enter Tryd.func92, Tryd.ntmps92
          go_wp2
          all_goals go_ret2
          all_goals (first | exact ⟨_, _, rfl, by decide, bal _ _⟩ | exact ⟨_, ⟨_, rfl⟩, by decide, bal _ _⟩ | (refine ⟨_, ⟨_, rfl⟩, ?_, bal _ _⟩; omega) | exact ⟨_, _, rfl, R, bal _ _⟩ | (refine ⟨_, _, rfl, ?_, bal _ _⟩; omega) | (refine ⟨?_, bal _ _⟩; omega))
  · replace H : 244 ≤ z ∧ z < 245 := by omega
    clear n31 n15
    have a0 : w.cell? ⟨2, 8, none⟩ = some (.int .u8 128) := G.out.acc 8 (by omega)
    have a1 : w.cell? ⟨2, 9, none⟩ = some (.int .u8 143) := G.out.acc 9 (by omega)
    by_cases hn4 : n < 4
    · clear second
      go_enter Tryd.func92, Tryd.ntmps92
      go_wp2
      all_goals go_ret2
      all_goals (first | exact ⟨_, _, rfl, by decide, bal _ _⟩ | exact ⟨_, ⟨_, rfl⟩, by decide, bal _ _⟩ | (refine ⟨_, ⟨_, rfl⟩, ?_, bal _ _⟩; omega) | exact ⟨_, _, rfl, R, bal _ _⟩ | (refine ⟨_, _, rfl, ?_, bal _ _⟩; omega) | (refine ⟨?_, bal _ _⟩; omega))
    · obtain ⟨x1, l1, c1, m1⟩ := second (k := 1) (by omega)
      obtain ⟨x2, l2, c2, m2⟩ := second (k := 2) (by omega)
      obtain ⟨x3, l3, c3, m3⟩ := second (k := 3) (by omega)
      clear second
      by_cases hx1 : x1 < 128
      · go_enter Tryd.func92, Tryd.ntmps92
        go_wp2
        all_goals go_ret2
        all_goals (first | exact ⟨_, _, rfl, by decide, bal _ _⟩ | exact ⟨_, ⟨_, rfl⟩, by decide, bal _ _⟩ | (refine ⟨_, ⟨_, rfl⟩, ?_, bal _ _⟩; omega) | exact ⟨_, _, rfl, R, bal _ _⟩ | (refine ⟨_, _, rfl, ?_, bal _ _⟩; omega) | (refine ⟨?_, bal _ _⟩; omega))
      · by_cases hx1b : 143 < x1
        · go_enter Tryd.func92, Tryd.ntmps92
          go_wp2
          all_goals go_ret2
          all_goals (first | exact ⟨_, _, rfl, by decide, bal _ _⟩ | exact ⟨_, ⟨_, rfl⟩, by decide, bal _ _⟩ | (refine ⟨_, ⟨_, rfl⟩, ?_, bal _ _⟩; omega) | exact ⟨_, _, rfl, R, bal _ _⟩ | (refine ⟨_, _, rfl, ?_, bal _ _⟩; omega) | (refine ⟨?_, bal _ _⟩; omega))
        · have R0 := or_nat2 (z % 8 * 262144) (x1 % 64 * 4096) (by omega) (by omega)
          have R1 := or_ne (a := z % 8 * 262144) (b := x1 % 64 * 4096) (by omega)
          have R2 : z % 8 * 262144 ||| x1 % 64 * 4096 < 2147483648 := Nat.or_lt_two_pow (n := 31) (by omega) (by omega)
          obtain ⟨y, hy⟩ : ∃ y, z % 8 * 262144 ||| x1 % 64 * 4096 = y := ⟨_, rfl⟩
          rw [hy] at R0 R1 R2
          have S0 := or_nat2 y (x2 % 64 * 64) (by omega) (by omega)
          have S1 := or_ne (a := y) (b := x2 % 64 * 64) (by omega)
          have S2 : y ||| x2 % 64 * 64 < 2147483648 := Nat.or_lt_two_pow (n := 31) (by omega) (by omega)
          obtain ⟨q, hq⟩ : ∃ q, y ||| x2 % 64 * 64 = q := ⟨_, rfl⟩
          rw [hq] at S0 S1 S2
          have R := or_ne2 q (x3 % 64) (by omega) (by omega) (by omega)
          clear hy hq
          simp only [Int.natCast_mul, Int.natCast_emod, Int.cast_ofNat_Int] at R R0 S0
          go_enter Tryd.func92, Tryd.ntmps92
          go_wp2
          all_goals go_ret2
          all_goals (first | exact ⟨_, _, rfl, by decide, bal _ _⟩ | exact ⟨_, ⟨_, rfl⟩, by decide, bal _ _⟩ | (refine ⟨_, ⟨_, rfl⟩, ?_, bal _ _⟩; omega) | exact ⟨_, _, rfl, R, bal _ _⟩ | (refine ⟨_, _, rfl, ?_, bal _ _⟩; omega) | (refine ⟨?_, bal _ _⟩; omega))
end Go.Proofs.YtphiblmkgbkdmaaDoor.Pg
