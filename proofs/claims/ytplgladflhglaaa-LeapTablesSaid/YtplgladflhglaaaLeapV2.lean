/- Walk through the reference's validity of tables of leap seconds. -/
import Derived.Test.YtplgladflhglaaaLeapV
namespace Go.Proofs.Ytplgladflhglaaa.Lp
set_option linter.unusedVariables false
set_option linter.unusedSimpArgs false
open Go.RowKit

set_option maxHeartbeats 3000000 in
theorem rValid_any {sl : Option Addr} {n b o cap : Nat} {A T : Nat → Int} (w : World) (h : Hid (Tab w sl n b o A T)) :
    Calls Try.prog 15 #[.agg #[.slice sl n cap]] w fun e w' => e = .returned (.bool (M.okb n A T)) ∧ Below w.heap.size w w' := by
  have hn := h.out.n62
  rcases Nat.lt_or_ge 100 n with h100 | h100
  · have R := Lib.hid (M.okb_f (n := n) (A := A) (T := T) fun h => by have := h.n100; omega)
    go_enter Try.func15, Try.ntmps15
    go_wp2
    go_ret
    exact ⟨ret_bool R.out.symm, (Below.refl _ _).alloc (Nat.le_refl _) _⟩
  · go_enter Try.func15, Try.ntmps15
    go_wp2
    go_loopw [3] (fun i wr => (Below w.heap.size w wr ∧ w.heap.size < wr.heap.size ∧ wr.cell? ⟨w.heap.size, 0, none⟩ = some (.slice sl n cap)) ∧ ∃ j : Nat, j ≤ n ∧ i = .int .i64 j ∧ Hid (∀ i, i < j → M.step A T i)) (fun i _ => (n - intOf i).toNat)
    case atStart => exact ⟨⟨(Below.refl _ _).alloc (Nat.le_refl _) _, by simp, by simp [go_sem]⟩, 0, by omega, rfl, Lib.hid fun i hi => by omega⟩
    case round =>
      obtain ⟨⟨hb0, hz, hcell⟩, j, hj, rfl, hst⟩ := hrel
      by_cases hlt : j < n
      · have hs := h.out.sl (by omega)
        have ht := h.out.below hb0
        have cA := ht.cA j hlt
        have cT := ht.cT j hlt
        obtain ⟨a1, a2⟩ := h.out.bA j hlt
        obtain ⟨t1, t2⟩ := h.out.bT j hlt
        have hb' := ht.lt (by omega)
        have hf : Hid (¬ M.step A T j → M.okb n A T = false) := Lib.hid fun hh => M.okb_f fun hk => hh (hk.step hlt)
        have hx : Hid (M.step A T j → ∀ i, i < j + 1 → M.step A T i) := Lib.hid fun hh i hi => by
          by_cases e : i = j
          · subst e; exact hh
          · exact hst.out i (by omega)
        have SC := M.rstep_cases A T j hst.out
        obtain ⟨p, hp, cP, p1, p2⟩ : ∃ p : Int, (∀ i, j = i + 1 → A i = p) ∧ (0 < j → wr.cell? ⟨b, o + (j - 1) * 2, none⟩ = some (.int .i64 p)) ∧ -9223372036854775808 ≤ p ∧ p ≤ 9223372036854775807 := by
          rcases Nat.eq_zero_or_pos j with h0 | h0
          · exact ⟨0, fun i hi => by omega, fun h => by omega, by omega, by omega⟩
          · refine ⟨A (j - 1), fun i hi => by rw [show j - 1 = i by omega], fun _ => ht.cA (j - 1) (by omega), (h.out.bA (j - 1) (by omega)).1, (h.out.bA (j - 1) (by omega)).2⟩
        subst hs
        clear ht
        have jsub : 0 < j → ((j : Int) - 1) = ((j - 1 : Nat) : Int) := fun _ => by omega
        rcases SC with ⟨g1, g⟩ | ⟨g1, ⟨g2, g⟩ | ⟨g2, ⟨g3, g⟩ | ⟨g3, ⟨g4, g⟩ | ⟨g4, ⟨g5, g⟩ | ⟨g5, g6, g⟩ | ⟨g5, g6, g⟩⟩⟩⟩⟩
        · clear cP jsub hp
          have f1 : decide (A j ≤ -62135596800) = true := by simp; omega
          have R := Lib.hid (hf.out g)
          clear g
          go_wp2
          obtain ⟨w1, hw1⟩ : ∃ w1, wr.alloc (.cells #[.int .i64 (A j), .int .i64 (T j)] 43) = w1 := ⟨_, rfl⟩
          have q0 : w1.cell? ⟨wr.heap.size, 0, none⟩ = some (.int .i64 (A j)) := by rw [← hw1]; simp [go_sem]
          have q1 : w1.cell? ⟨wr.heap.size, 1, none⟩ = some (.int .i64 (T j)) := by rw [← hw1]; simp [go_sem]
          have q2 : w1.cell? ⟨w.heap.size, 0, none⟩ = some (.slice (some ⟨b, o, none⟩) n cap) := by rw [← hw1, cell_alloc_lt (by omega)]; exact hcell
          have z1 : wr.heap.size < w1.heap.size := by rw [← hw1]; simp
          have z2 : w.heap.size < w1.heap.size := by omega
          have z3 : b < w1.heap.size := by omega
          have hb1 : Below w.heap.size w w1 := by rw [← hw1]; exact hb0.alloc hb0.size _
          rw [hw1]
          clear hw1
          have hS := Abv.cells w1
          refine wp_region_abv (by kernel_rfl) (by kernel_rfl) ?_
          repeat (go_big_quiet_step (fail))
          refine wpQuiet_nil ?_
          rintro w2 hb2
          have hq : w2.cell? ⟨w.heap.size, 0, none⟩ = some (.slice (some ⟨b, o, none⟩) n cap) := (hb2.cell (p := ⟨w.heap.size, 0, none⟩) z2).trans q2
          have hb3 : Below w.heap.size w w2 := hb1.trans (hb2.mono hb1.size)
          have z4 := hb2.size
          go_wp2
          go_ret
          exact ⟨ret_bool R.out.symm, hb3⟩
        · clear cP jsub hp
          have f1 : decide (A j ≤ -62135596800) = false := by simp; omega
          have f3 : decide (253402300800 ≤ A j) = true := by simp; omega
          have R := Lib.hid (hf.out g)
          clear g
          go_wp2
          obtain ⟨w1, hw1⟩ : ∃ w1, wr.alloc (.cells #[.int .i64 (A j), .int .i64 (T j)] 43) = w1 := ⟨_, rfl⟩
          have q0 : w1.cell? ⟨wr.heap.size, 0, none⟩ = some (.int .i64 (A j)) := by rw [← hw1]; simp [go_sem]
          have q1 : w1.cell? ⟨wr.heap.size, 1, none⟩ = some (.int .i64 (T j)) := by rw [← hw1]; simp [go_sem]
          have q2 : w1.cell? ⟨w.heap.size, 0, none⟩ = some (.slice (some ⟨b, o, none⟩) n cap) := by rw [← hw1, cell_alloc_lt (by omega)]; exact hcell
          have z1 : wr.heap.size < w1.heap.size := by rw [← hw1]; simp
          have z2 : w.heap.size < w1.heap.size := by omega
          have z3 : b < w1.heap.size := by omega
          have hb1 : Below w.heap.size w w1 := by rw [← hw1]; exact hb0.alloc hb0.size _
          rw [hw1]
          clear hw1
          have hS := Abv.cells w1
          refine wp_region_abv (by kernel_rfl) (by kernel_rfl) ?_
          repeat (go_big_quiet_step (fail))
          refine wpQuiet_nil ?_
          rintro w2 hb2
          have hq : w2.cell? ⟨w.heap.size, 0, none⟩ = some (.slice (some ⟨b, o, none⟩) n cap) := (hb2.cell (p := ⟨w.heap.size, 0, none⟩) z2).trans q2
          have hb3 : Below w.heap.size w w2 := hb1.trans (hb2.mono hb1.size)
          have z4 := hb2.size
          go_wp2
          go_ret
          exact ⟨ret_bool R.out.symm, hb3⟩
        · clear cP jsub hp
          have f1 : decide (A j ≤ -62135596800) = false := by simp; omega
          have f3 : decide (253402300800 ≤ A j) = false := by simp; omega
          have gg := g3; rw [M.tm_em] at gg
          have R := Lib.hid (hf.out g)
          clear g
          go_wp2
          obtain ⟨w1, hw1⟩ : ∃ w1, wr.alloc (.cells #[.int .i64 (A j), .int .i64 (T j)] 43) = w1 := ⟨_, rfl⟩
          have q0 : w1.cell? ⟨wr.heap.size, 0, none⟩ = some (.int .i64 (A j)) := by rw [← hw1]; simp [go_sem]
          have q1 : w1.cell? ⟨wr.heap.size, 1, none⟩ = some (.int .i64 (T j)) := by rw [← hw1]; simp [go_sem]
          have q2 : w1.cell? ⟨w.heap.size, 0, none⟩ = some (.slice (some ⟨b, o, none⟩) n cap) := by rw [← hw1, cell_alloc_lt (by omega)]; exact hcell
          have z1 : wr.heap.size < w1.heap.size := by rw [← hw1]; simp
          have z2 : w.heap.size < w1.heap.size := by omega
          have z3 : b < w1.heap.size := by omega
          have hb1 : Below w.heap.size w w1 := by rw [← hw1]; exact hb0.alloc hb0.size _
          rw [hw1]
          clear hw1
          have hS := Abv.cells w1
          refine wp_region_abv (by kernel_rfl) (by kernel_rfl) ?_
          repeat (go_big_quiet_step (fail))
          refine wpQuiet_nil ?_
          rintro w2 hb2
          have hq : w2.cell? ⟨w.heap.size, 0, none⟩ = some (.slice (some ⟨b, o, none⟩) n cap) := (hb2.cell (p := ⟨w.heap.size, 0, none⟩) z2).trans q2
          have hb3 : Below w.heap.size w w2 := hb1.trans (hb2.mono hb1.size)
          have z4 := hb2.size
          go_wp2
          go_ret
          exact ⟨ret_bool R.out.symm, hb3⟩
        · clear cP jsub hp
          have f1 : decide (A j ≤ -62135596800) = false := by simp; omega
          have f3 : decide (253402300800 ≤ A j) = false := by simp; omega
          have gg := g3; rw [M.tm_em] at gg
          have R := Lib.hid (hf.out g)
          clear g
          go_wp2
          obtain ⟨w1, hw1⟩ : ∃ w1, wr.alloc (.cells #[.int .i64 (A j), .int .i64 (T j)] 43) = w1 := ⟨_, rfl⟩
          have q0 : w1.cell? ⟨wr.heap.size, 0, none⟩ = some (.int .i64 (A j)) := by rw [← hw1]; simp [go_sem]
          have q1 : w1.cell? ⟨wr.heap.size, 1, none⟩ = some (.int .i64 (T j)) := by rw [← hw1]; simp [go_sem]
          have q2 : w1.cell? ⟨w.heap.size, 0, none⟩ = some (.slice (some ⟨b, o, none⟩) n cap) := by rw [← hw1, cell_alloc_lt (by omega)]; exact hcell
          have z1 : wr.heap.size < w1.heap.size := by rw [← hw1]; simp
          have z2 : w.heap.size < w1.heap.size := by omega
          have z3 : b < w1.heap.size := by omega
          have hb1 : Below w.heap.size w w1 := by rw [← hw1]; exact hb0.alloc hb0.size _
          rw [hw1]
          clear hw1
          have hS := Abv.cells w1
          refine wp_region_abv (by kernel_rfl) (by kernel_rfl) ?_
          repeat (go_big_quiet_step (fail))
          refine wpQuiet_nil ?_
          rintro w2 hb2
          have hq : w2.cell? ⟨w.heap.size, 0, none⟩ = some (.slice (some ⟨b, o, none⟩) n cap) := (hb2.cell (p := ⟨w.heap.size, 0, none⟩) z2).trans q2
          have hb3 : Below w.heap.size w w2 := hb1.trans (hb2.mono hb1.size)
          have z4 := hb2.size
          go_wp2
          go_ret
          exact ⟨ret_bool R.out.symm, hb3⟩
        · clear cP jsub hp
          have f5 : decide (0 < j) = false := by simp; omega
          clear g5
          have f1 : decide (A j ≤ -62135596800) = false := by simp; omega
          have f3 : decide (253402300800 ≤ A j) = false := by simp; omega
          have gg := g3; rw [M.tm_em] at gg
          have nx := Lib.hid (hx.out g)
          clear g
          go_wp2
          obtain ⟨w1, hw1⟩ : ∃ w1, wr.alloc (.cells #[.int .i64 (A j), .int .i64 (T j)] 43) = w1 := ⟨_, rfl⟩
          have q0 : w1.cell? ⟨wr.heap.size, 0, none⟩ = some (.int .i64 (A j)) := by rw [← hw1]; simp [go_sem]
          have q1 : w1.cell? ⟨wr.heap.size, 1, none⟩ = some (.int .i64 (T j)) := by rw [← hw1]; simp [go_sem]
          have q2 : w1.cell? ⟨w.heap.size, 0, none⟩ = some (.slice (some ⟨b, o, none⟩) n cap) := by rw [← hw1, cell_alloc_lt (by omega)]; exact hcell
          have z1 : wr.heap.size < w1.heap.size := by rw [← hw1]; simp
          have z2 : w.heap.size < w1.heap.size := by omega
          have z3 : b < w1.heap.size := by omega
          have hb1 : Below w.heap.size w w1 := by rw [← hw1]; exact hb0.alloc hb0.size _
          rw [hw1]
          clear hw1
          have hS := Abv.cells w1
          refine wp_region_abv (by kernel_rfl) (by kernel_rfl) ?_
          repeat (go_big_quiet_step (fail))
          refine wpQuiet_nil ?_
          rintro w2 hb2
          have hq : w2.cell? ⟨w.heap.size, 0, none⟩ = some (.slice (some ⟨b, o, none⟩) n cap) := (hb2.cell (p := ⟨w.heap.size, 0, none⟩) z2).trans q2
          have hb3 : Below w.heap.size w w2 := hb1.trans (hb2.mono hb1.size)
          have z4 := hb2.size
          go_wp2
          go_roundw
          case rel => exact ⟨⟨hb3, by omega, hq⟩, j + 1, by omega, by go_num, nx⟩
          case measure => simp [intOf]; omega
        · have cP := cP g5
          have jsub := jsub g5
          obtain ⟨i, hi⟩ : ∃ i, j = i + 1 := ⟨j - 1, by omega⟩
          have hpi := hp i hi
          have g6 := g6 i hi
          rw [hpi] at g6
          clear hp hi hpi
          have f1 : decide (A j ≤ -62135596800) = false := by simp; omega
          have f3 : decide (253402300800 ≤ A j) = false := by simp; omega
          have gg := g3; rw [M.tm_em] at gg
          have f5 : decide (0 < j) = true := by simp; omega
          have f6 : decide (A j ≤ p) = true := by simp; omega
          have R := Lib.hid (hf.out g)
          clear g
          go_wp2
          obtain ⟨w1, hw1⟩ : ∃ w1, wr.alloc (.cells #[.int .i64 (A j), .int .i64 (T j)] 43) = w1 := ⟨_, rfl⟩
          have q0 : w1.cell? ⟨wr.heap.size, 0, none⟩ = some (.int .i64 (A j)) := by rw [← hw1]; simp [go_sem]
          have q1 : w1.cell? ⟨wr.heap.size, 1, none⟩ = some (.int .i64 (T j)) := by rw [← hw1]; simp [go_sem]
          have q2 : w1.cell? ⟨w.heap.size, 0, none⟩ = some (.slice (some ⟨b, o, none⟩) n cap) := by rw [← hw1, cell_alloc_lt (by omega)]; exact hcell
          have q3 : w1.cell? ⟨b, o + (j - 1) * 2, none⟩ = some (.int .i64 p) := by rw [← hw1, cell_alloc_lt (by omega)]; exact cP
          have z1 : wr.heap.size < w1.heap.size := by rw [← hw1]; simp
          have z2 : w.heap.size < w1.heap.size := by omega
          have z3 : b < w1.heap.size := by omega
          have hb1 : Below w.heap.size w w1 := by rw [← hw1]; exact hb0.alloc hb0.size _
          rw [hw1]
          clear hw1
          have hS := Abv.cells w1
          refine wp_region_abv (by kernel_rfl) (by kernel_rfl) ?_
          repeat (go_big_quiet_step (fail))
          refine wpQuiet_nil ?_
          rintro w2 hb2
          have hq : w2.cell? ⟨w.heap.size, 0, none⟩ = some (.slice (some ⟨b, o, none⟩) n cap) := (hb2.cell (p := ⟨w.heap.size, 0, none⟩) z2).trans q2
          have hb3 : Below w.heap.size w w2 := hb1.trans (hb2.mono hb1.size)
          have z4 := hb2.size
          go_wp2
          go_ret
          exact ⟨ret_bool R.out.symm, hb3⟩
        · have cP := cP g5
          have jsub := jsub g5
          obtain ⟨i, hi⟩ : ∃ i, j = i + 1 := ⟨j - 1, by omega⟩
          have hpi := hp i hi
          have g6 := g6 i hi
          rw [hpi] at g6
          clear hp hi hpi
          have f1 : decide (A j ≤ -62135596800) = false := by simp; omega
          have f3 : decide (253402300800 ≤ A j) = false := by simp; omega
          have gg := g3; rw [M.tm_em] at gg
          have f5 : decide (0 < j) = true := by simp; omega
          have f6 : decide (A j ≤ p) = false := by simp; omega
          have nx := Lib.hid (hx.out g)
          clear g
          go_wp2
          obtain ⟨w1, hw1⟩ : ∃ w1, wr.alloc (.cells #[.int .i64 (A j), .int .i64 (T j)] 43) = w1 := ⟨_, rfl⟩
          have q0 : w1.cell? ⟨wr.heap.size, 0, none⟩ = some (.int .i64 (A j)) := by rw [← hw1]; simp [go_sem]
          have q1 : w1.cell? ⟨wr.heap.size, 1, none⟩ = some (.int .i64 (T j)) := by rw [← hw1]; simp [go_sem]
          have q2 : w1.cell? ⟨w.heap.size, 0, none⟩ = some (.slice (some ⟨b, o, none⟩) n cap) := by rw [← hw1, cell_alloc_lt (by omega)]; exact hcell
          have q3 : w1.cell? ⟨b, o + (j - 1) * 2, none⟩ = some (.int .i64 p) := by rw [← hw1, cell_alloc_lt (by omega)]; exact cP
          have z1 : wr.heap.size < w1.heap.size := by rw [← hw1]; simp
          have z2 : w.heap.size < w1.heap.size := by omega
          have z3 : b < w1.heap.size := by omega
          have hb1 : Below w.heap.size w w1 := by rw [← hw1]; exact hb0.alloc hb0.size _
          rw [hw1]
          clear hw1
          have hS := Abv.cells w1
          refine wp_region_abv (by kernel_rfl) (by kernel_rfl) ?_
          repeat (go_big_quiet_step (fail))
          refine wpQuiet_nil ?_
          rintro w2 hb2
          have hq : w2.cell? ⟨w.heap.size, 0, none⟩ = some (.slice (some ⟨b, o, none⟩) n cap) := (hb2.cell (p := ⟨w.heap.size, 0, none⟩) z2).trans q2
          have hb3 : Below w.heap.size w w2 := hb1.trans (hb2.mono hb1.size)
          have z4 := hb2.size
          go_wp2
          go_roundw
          case rel => exact ⟨⟨hb3, by omega, hq⟩, j + 1, by omega, by go_num, nx⟩
          case measure => simp [intOf]; omega
      · obtain rfl : j = n := by omega
        have R := Lib.hid (M.okb_t (M.ok_of h100 hst.out))
        go_wp2
        go_ret
        exact ⟨ret_bool R.out.symm, hb0⟩

end Go.Proofs.Ytplgladflhglaaa.Lp
