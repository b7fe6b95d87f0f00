/- Walks of bytes.ContainsFunc: a byte that is not zero is found. -/
import Derived.Test.YtphiblmkgbkdmaaDoorPgU1
namespace Go.Proofs.YtphiblmkgbkdmaaDoor.Pg
set_option linter.unusedVariables false
set_option linter.unusedSimpArgs false
open Go.RowKit Wl

theorem Gl.below {w w1 : World} (G : Gl w) (hb : Below w.heap.size w w1) : Gl w1 :=
  ⟨Nat.le_trans G.sz hb.size, fun i hi => by rw [World.cell?_of_block (hb.block 1 (by have := G.sz; omega))]; exact G.first i hi, fun i hi => by rw [World.cell?_of_block (hb.block 2 (by have := G.sz; omega))]; exact G.acc i hi⟩
theorem Gl.low {B : Nat} {w w1 : World} (G : Gl w) (hb : Below B w w1) (hB : 3 ≤ B) : Gl w1 :=
  ⟨Nat.le_trans G.sz hb.size, fun i hi => by rw [World.cell?_of_block (hb.block 1 (by omega))]; exact G.first i hi, fun i hi => by rw [World.cell?_of_block (hb.block 2 (by omega))]; exact G.acc i hi⟩
set_option maxRecDepth 20000 in
theorem rune_any {A : Option Addr} {n c : Nat} {l : List UInt8} {b0 : UInt8} (w : World) (G : Hid (Gl w)) (h : Hid (Rd w 1 A n c (bv l))) (h0 : Hid (l[0]? = some b0)) (hn1 : 1 ≤ n) (hn : n ≤ 256) :
    Calls Tryd.prog 91 #[.slice A n c] w fun e w' => ∃ q s : Int, e = .returned (.tuple #[.int .i32 q, .int .i64 s]) ∧ (b0 = 0 → q = 0 ∧ s = 1) ∧ (b0 ≠ 0 → q ≠ 0) ∧ Below w.heap.size w w' := by
  have hc := h.out.nc
  have hc2 := h.out.c63
  obtain ⟨g, o, x, rfl, hg, hx, c0⟩ := h.out.byte (k := 0) (by omega)
  obtain rfl : b0 = x := by have := h0.out; rw [this] at hx; injection hx
  have hxl := b0.toNat_lt
  have hz : b0 = 0 ↔ b0.toNat = 0 := by rw [← UInt8.toNat_inj]; rfl
  rw [Nat.add_zero] at c0
  by_cases hb : 128 ≤ b0.toNat
  · have hne : b0 ≠ 0 := fun e => by rw [hz] at e; omega
    clear hz hx
    obtain ⟨z, hz⟩ : ∃ z, b0.toNat = z := ⟨_, rfl⟩
    rw [hz] at c0 hxl
    have hb' : 128 ≤ z := hz ▸ hb
    have HZ := Lib.hid hz
    clear hz hb
    go_enter Tryd.func91, Tryd.ntmps91
    go_wp2_with fail
    go_loop [8] (fun i => i = .int .i64 0) (fun _ => 0)
    case atStart => rfl
    case round =>
      subst hrel
      go_wp2_with fail
      go_at_call 92
      refine (slow_any _ G h h0 (by rw [HZ.out]; exact hb') hn1 hn).mono ?_
      rintro e w1 ⟨q, s, rfl, hq, b1⟩
      go_wp2_with fail
      go_ret2
      exact ⟨_, _, rfl, fun e => absurd e hne, fun _ => hq, b1⟩
  · obtain ⟨z, hz2⟩ : ∃ z, b0.toNat = z := ⟨_, rfl⟩
    rw [hz2] at c0 hxl hz hb
    have HZ := Lib.hid hz
    have hb' : z < 128 := by omega
    clear hz hb hz2
    go_enter Tryd.func91, Tryd.ntmps91
    go_wp2_with fail
    go_loop [8] (fun i => i = .int .i64 0) (fun _ => 0)
    case atStart => rfl
    case round =>
      subst hrel
      go_wp2_with fail
      go_ret2
      exact ⟨_, _, rfl, fun e => ⟨by have := HZ.out.1 e; omega, rfl⟩, fun e h => e (HZ.out.2 (by omega)), Below.refl _ _⟩
def nz (l : List UInt8) : Bool := l.any fun u => u != 0
theorem index_any {A : Option Addr} {n c : Nat} {l : List UInt8} (w : World) (G : Hid (Gl w)) (h : Hid (Rd w 1 A n c (bv l))) (hn : n ≤ 256) :
    Calls Tryd.prog 90 #[.slice A n c, .func (.func 83) #[] #[], .bool true] w fun e w' => ∃ q : Int, e = .returned (.int .i64 q) ∧ (0 ≤ q ↔ nz l = true) ∧ Below w.heap.size w w' := by
  have hc := h.out.nc
  have hc2 := h.out.c63
  go_enter Tryd.func90, Tryd.ntmps90
  go_wp2_with fail
  go_loopw [7] (fun i wr => ∃ k : Nat, k ≤ n ∧ i = .int .i64 k ∧ Below w.heap.size w wr ∧ Hid (nz (l.take k) = false)) (fun i _ => (n - intOf i).toNat)
  case atStart => exact ⟨0, by omega, rfl, Below.refl _ _, Lib.hid rfl⟩
  case round =>
    obtain ⟨k, hk, rfl, bw, hz⟩ := hrel
    have hr := Lib.hid (Rd.below h.out bw)
    by_cases hlt : k < n
    · obtain ⟨g, o, x, rfl, hg, hx, cc⟩ := hr.out.byte hlt
      have hck : ¬ c = k := by omega
      go_wp2_with fail
      go_at_call 91
      refine (rune_any (l := l.drop k) (b0 := x) _ (Lib.hid (G.out.below bw)) (Lib.hid (hr.out.tail (by omega))) (Lib.hid (by rw [List.getElem?_drop, Nat.add_zero]; exact hx)) (by omega) (by omega)).mono ?_
      rintro e w1 ⟨q, s, rfl, h0, h1, b1⟩
      have bw1 := bw.trans (b1.mono bw.size)
      by_cases hx0 : x = 0
      · obtain ⟨rfl, rfl⟩ := h0 hx0
        have hz' : Hid (nz (l.take (k + 1)) = false) := by rw [take_snoc hx]; unfold nz; rw [List.any_append]; have := hz.out; unfold nz at this; rw [this, hx0]; exact Lib.hid rfl
        clear hx h0 h1 hx0 hz cc
        go_wp2
        go_roundw
        case rel => exact ⟨k + 1, by omega, by go_num, bw1, hz'⟩
        case measure => simp [intOf]; omega
      · have hq := h1 hx0
        have hq' : decide (q ≠ 0) = true := decide_eq_true hq
        have hnz : Hid (nz l = true) := Lib.hid (List.any_eq_true.2 ⟨x, List.mem_of_getElem? hx, by simpa using hx0⟩)
        clear hx h0 h1 hx0 hz cc
        go_wp2
        go_ret
        exact ⟨_, rfl, ⟨fun _ => hnz.out, fun _ => by omega⟩, bw1⟩
    · obtain rfl : k = n := by omega
      have hnz : Hid (nz l = false) := by have := hz.out; rw [take_n (by have := h.out.len; rw [bv_len] at this; omega)] at this; exact Lib.hid this
      go_wp2
      go_ret
      exact ⟨_, rfl, ⟨fun e => absurd e (by decide), fun e => by rw [hnz.out] at e; cases e⟩, bw⟩
theorem contains_any {A : Option Addr} {n c : Nat} {l : List UInt8} (w : World) (G : Hid (Gl w)) (h : Hid (Rd w 1 A n c (bv l))) (hn : n ≤ 256) :
    Calls Tryd.prog 82 #[.slice A n c, .func (.func 83) #[] #[]] w fun e w' => e = .returned (.bool (nz l)) ∧ Below w.heap.size w w' := by
  have index2 : Calls Tryd.prog 89 #[.slice A n c, .func (.func 83) #[] #[]] w fun e w' => ∃ q : Int, e = .returned (.int .i64 q) ∧ (0 ≤ q ↔ nz l = true) ∧ Below w.heap.size w w' := by
    go_enter Tryd.func89, Tryd.ntmps89
    go_wp2_with fail
    go_at_call 90
    refine (index_any _ G h hn).mono ?_
    rintro e w1 ⟨q, rfl, hq, b1⟩
    go_wp2_with fail
    go_ret
    exact ⟨_, rfl, hq, b1⟩
  go_enter Tryd.func82, Tryd.ntmps82
  go_wp2_with fail
  go_at_call 89
  refine index2.mono ?_
  rintro e w1 ⟨q, rfl, hq, b1⟩
  have e1 : decide (q ≥ 0) = nz l := by rw [Bool.eq_iff_iff, decide_eq_true_eq]; exact hq
  clear hq
  go_wp2_with fail
  go_ret
  exact ⟨by simp [e1], b1⟩
end Go.Proofs.YtphiblmkgbkdmaaDoor.Pg
