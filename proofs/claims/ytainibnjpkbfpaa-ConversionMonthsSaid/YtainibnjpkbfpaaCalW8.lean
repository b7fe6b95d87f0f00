/- Walks: the reference's Near and Granule. -/
import Derived.Test.YtainibnjpkbfpaaCalW7
import Derived.Test.YtainibnjpkbfpaaCalM2
import Derived.Test.YtainibnjpkbfpaaRefI
namespace Go.Proofs.Ytainibnjpkbfpaa.Cv
set_option linter.unusedVariables false
set_option linter.unusedSimpArgs false
open Go.RowKit Wl

theorem rDivB (a b : Int) (w : World) (h1 : -9223372036854775808 ≤ a) (h2 : a ≤ 9223372036854775807) (h3 : 1 ≤ b) (h4 : b ≤ 9223372036854775807) :
    Calls Try.prog 58 #[.int .i64 a, .int .i64 b] w fun e w' => e = .returned (.tuple #[.int .i64 (a / b), .int .i64 (a % b), .int .i64 0]) ∧ Below w.heap.size w w' :=
  (rDiv_pos a b w h1 h2 h3 h4).mono fun _ _ ⟨he, hw⟩ => ⟨he, drew_bel hw⟩
theorem rFloorB (a b : Int) (w : World) (h1 : -9223372036854775808 ≤ a) (h2 : a ≤ 9223372036854775807) (h3 : 1 ≤ b) (h4 : b ≤ 9223372036854775807) :
    Calls Try.prog 56 #[.int .i64 a, .int .i64 b] w fun e w' => e = .returned (.int .i64 (a / b)) ∧ Below w.heap.size w w' :=
  (rFloor_pos a b w h1 h2 h3 h4).mono fun _ _ ⟨he, hw⟩ => ⟨he, drew_bel hw⟩
theorem rMulB (a b : Int) (w : World) (h1 : -9223372036854775808 ≤ a) (h2 : a ≤ 9223372036854775807) (h3 : -9223372036854775808 ≤ b) (h4 : b ≤ 9223372036854775807) (h5 : -9223372036854775808 ≤ a * b) (h6 : a * b ≤ 9223372036854775807) :
    Calls Try.prog 59 #[.int .i64 a, .int .i64 b] w fun e w' => e = .returned (.tuple #[.int .i64 (a * b), .int .i64 0]) ∧ Below w.heap.size w w' :=
  (rMul_any a b w h1 h2 h3 h4).mono fun _ _ ⟨he, hw⟩ => ⟨he.trans (by rw [M.ml_ok ⟨h5, h6⟩]), drew_bel hw⟩
theorem rMulX (a b : Int) (w : World) (h1 : -9223372036854775808 ≤ a) (h2 : a ≤ 9223372036854775807) (h3 : -9223372036854775808 ≤ b) (h4 : b ≤ 9223372036854775807) (h5 : ¬ (-9223372036854775808 ≤ a * b ∧ a * b ≤ 9223372036854775807)) :
    Calls Try.prog 59 #[.int .i64 a, .int .i64 b] w fun e w' => e = .returned (.tuple #[.int .i64 0, .int .i64 9]) ∧ Below w.heap.size w w' :=
  (rMul_any a b w h1 h2 h3 h4).mono fun _ _ ⟨he, hw⟩ => ⟨he.trans (by rw [M.ml_big h5]), drew_bel hw⟩
theorem idx_1 {l : List (Int × Int)} (r : Int) : idx l r 1 = 0 := by unfold idx; split <;> rfl
set_option maxHeartbeats 1600000 in
theorem rNear_any {A : Option Addr} {n cp : Nat} {o p : Int} {l : List (Int × Int)} (x : Int) (w : World) (h : Hid (Sr w A n cp l)) (hv : Hid (Vc ⟨o, p, l⟩)) (k1 : -35184372088832 ≤ x) (k2 : x ≤ 35184372088832) :
    Calls Try.prog 21 #[.agg #[.int .i64 o, .int .i64 p, .slice A n cp], .int .i64 x] w fun e w' => e = .returned (.int .i64 (nr ⟨o, p, l⟩ x)) ∧ Below w.heap.size w w' := by
  have hnc := h.out.nc
  have hc63 := h.out.c63
  have hl := Lib.hid h.out.len
  have hn1 : 1 ≤ n := by have : 1 ≤ l.length := hv.out.n1; have := hl.out; omega
  have hn2 : n ≤ 5000 := by have : l.length ≤ 5000 := hv.out.n2; have := hl.out; omega
  have o1 : -2199023255552 ≤ o := hv.out.o1
  have o2 : o ≤ 2199023255552 := hv.out.o2
  have p1 : 1 ≤ p := hv.out.p1
  have p2 : p ≤ 12622780800 := hv.out.p2
  have np : (n : Int) ≤ p := by have : (l.length : Int) ≤ p := hv.out.np; have := hl.out; omega
  obtain ⟨m1, m2, m3, m4, m5, m6⟩ := qn_bd (x := x - o) (p := p) (n := n) (by omega) (by omega) p1 p2 (by omega) np
  have r2 := Int.mul_ediv_add_emod (x - o) p
  obtain ⟨q, hq⟩ : ∃ q, (x - o) / p = q := ⟨_, rfl⟩
  obtain ⟨r, hr⟩ : ∃ r, (x - o) % p = r := ⟨_, rfl⟩
  have HN := Lib.hid (nr_eq hl.out hq hr)
  rw [hq] at m1 m2 m3 m4 m5 m6 r2
  rw [hr] at r2
  have hqp : q * p = p * q := Int.mul_comm _ _
  have m3' : -1125899906842624 ≤ q * p := by omega
  have m4' : q * p ≤ 1125899906842624 := by omega
  have HR : Hid (∀ y : Int, (y + o + q * p ≤ x) ↔ y ≤ r) := Lib.hid fun y => by omega
  have HQ := Lib.hid hq
  obtain ⟨W0, hW0⟩ : ∃ W0, w.alloc (.cells #[.int .i64 o, .int .i64 p, .slice A n cp] 24) = W0 := ⟨_, rfl⟩
  have hb0 : Below w.heap.size w W0 := hW0 ▸ bal _ _
  have bx : Bx W0 w.heap.size o p A n cp := hW0 ▸ Bx.new _ _ _ _ _ _ _
  have h0 := Lib.hid (h.out.below hb0)
  have HW0 := Lib.hid hW0
  have BX := Lib.hid bx
  clear hW0 hq hr hqp r2 m3 m4
  obtain ⟨z0, c0, c1, c2⟩ := bx
  go_enter Try.func21, Try.ntmps21
  go_wp2_with fail
  rw [HW0.out]
  go_at_call 56
  refine (rFloorB (x - o) p _ (by omega) (by omega) p1 (by omega)).mono ?_
  rintro e w1 ⟨rfl, b1⟩
  rw [HQ.out]
  have BX1 := Lib.hid (BX.out.below b1)
  obtain ⟨z1, d0, d1, d2⟩ := BX1.out
  have h1 := Lib.hid (h0.out.below b1)
  have bw1 := hb0.trans (b1.mono hb0.size)
  clear c0 c1 c2 b1
  go_wp2_with fail
  go_loopw [6, 7] (fun kv iv wr => ∃ (j : Nat), 1 ≤ j ∧ j ≤ n ∧ iv = .int .i64 j ∧ kv = .int .i64 (q * (n : Int) + (idx l r j : Nat)) ∧ Below w1.heap.size w1 wr) (fun _ i _ => (n - intOf i).toNat)
  case atStart => exact ⟨1, by omega, by omega, rfl, by rw [idx_1]; simp, Below.refl _ _⟩
  case round =>
    obtain ⟨j, hj1, hj, rfl, rfl, bw⟩ := hrel
    have hz := bw.size
    obtain ⟨zz, d0, d1, d2⟩ := BX1.out.below bw
    by_cases hlt : j < n
    · obtain ⟨g, of_, rfl, hg, a0, a1⟩ := (h1.out.below bw).at_ hlt
      have hlo := hv.out.lo (i := j) (by have := hl.out; show j < l.length; omega)
      have hup := hv.out.up (i := j) (by have := hl.out; show j < l.length; omega)
      have hll := hv.out.lt j (by have := hl.out; show j < l.length; omega)
      have hlo' : (j : Int) ≤ (gt l j).1 := hlo
      have hup' : (gt l j).2 ≤ p := hup
      have hll' : (gt l j).1 < (gt l j).2 := hll
      obtain ⟨y, hy⟩ : ∃ y, (gt l j).1 = y := ⟨_, rfl⟩
      rw [hy] at a0 hlo' hll'
      have hyp : y ≤ p := by omega
      have HY := Lib.hid hy
      obtain ⟨ix, hix⟩ : ∃ ix, idx l r j = ix := ⟨_, rfl⟩
      have HIX := Lib.hid hix
      rw [hix]
      clear hy hix a1 hlo hup hll hup' hll'
      by_cases hs : y + o + q * p ≤ x
      · have R := Lib.hid (idx_y (l := l) (r := r) (j := j) (by rw [HY.out]; exact (HR.out y).1 hs))
        have hs' : decide (y + o + q * p ≤ x) = true := by simpa using hs
        go_wp2_with fail
        have hS := Abv.cells wr
        refine wp_region_abv (by kernel_rfl) (by kernel_rfl) ?_
        repeat (go_big_quiet_step ((fail)))
        refine wpQuiet_nil ?_
        rintro w2 hw2
        clear hS
        obtain ⟨zz, d0, d1, d2⟩ := (BX1.out.below bw).below hw2
        go_wp2_with fail
        go_roundw
        case rel => exact ⟨j + 1, by omega, by omega, by go_num, by rw [R.out], bw.trans (hw2.mono hz)⟩
        case measure => simp [intOf]; omega
      · have R := Lib.hid (idx_n (l := l) (r := r) (j := j) (by rw [HY.out]; exact fun h => hs ((HR.out y).2 h)))
        have hs' : decide (y + o + q * p ≤ x) = false := by simpa using hs
        go_wp2_with fail
        have hS := Abv.cells wr
        refine wp_region_abv (by kernel_rfl) (by kernel_rfl) ?_
        repeat (go_big_quiet_step ((fail)))
        refine wpQuiet_nil ?_
        rintro w2 hw2
        clear hS
        go_wp2_with fail
        go_roundw
        case rel => exact ⟨j + 1, by omega, by omega, by go_num, by rw [R.out, HIX.out], bw.trans (hw2.mono hz)⟩
        case measure => simp [intOf]; omega
    · obtain rfl : j = n := by omega
      obtain ⟨ix, hix⟩ : ∃ ix, idx l r j = ix := ⟨_, rfl⟩
      rw [hix] at HN ⊢
      clear hix
      go_wp2_with fail
      go_ret
      exact ⟨ret_int (by rw [HN.out]), bw1.trans (bw.mono bw1.size)⟩
end Go.Proofs.Ytainibnjpkbfpaa.Cv
