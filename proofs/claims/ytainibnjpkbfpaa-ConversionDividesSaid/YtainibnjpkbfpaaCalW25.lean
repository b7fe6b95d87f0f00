/- Walks: conversion.Finer, and the reference's. -/
import Derived.Test.YtainibnjpkbfpaaCalW24
namespace Go.Proofs.Ytainibnjpkbfpaa.Cv
set_option linter.unusedVariables false
set_option linter.unusedSimpArgs false
open Go.RowKit Wl

theorem ret_bi {a a' : Bool} {b : Int} (h : a = a') : Ending.returned (.tuple #[.bool a, .int .i64 b]) = .returned (.tuple #[.bool a', .int .i64 b]) := by rw [h]
/-- The number of granules of a in a common period. -/
theorem cp_count {a b : Cal} {z qa qb : Int} (ha : Vc a) (hb : Vc b) (cp : Cp a b z qa qb) (h1 : qa * a.l.length ≤ 5000) (h2 : qb * b.l.length ≤ 5000) :
    ∃ K K2 : Nat, qa * (a.l.length : Int) = (K : Int) ∧ qb * (b.l.length : Int) = (K2 : Int) ∧ K ≤ 5000 ∧ K2 ≤ 5000 := by
  have e1 : 0 ≤ qa * (a.l.length : Int) := Int.mul_nonneg (by have := cp.a1; omega) (by omega)
  have e2 : 0 ≤ qb * (b.l.length : Int) := Int.mul_nonneg (by have := cp.b1; omega) (by omega)
  exact ⟨(qa * (a.l.length : Int)).toNat, (qb * (b.l.length : Int)).toNat, by omega, by omega, by omega, by omega⟩
/-- A granule in the first common period. -/
structure Rg (a b : Cal) (k u v : Int) : Prop where
  p : pl a k = (u, v)
  lt : u < v
  bk : Bk a k
  r : rch a k = true
  u1 : -2199023255552 ≤ u
  v1 : v ≤ 2211646036352
theorem rg_of {a b : Cal} {z qa qb : Int} (ha : Vc a) (cp : Cp a b z qa qb) {k : Int} (h0 : 0 ≤ k) (h1 : k < qa * a.l.length) : ∃ u v, Rg a b k u v := by
  obtain ⟨r1, r2⟩ := ha.range h0 h1
  have lt := ha.pl_lt k
  have o1 := ha.o1
  have o2 := ha.o2
  have e := cp.ea
  have m2 := cp.m2
  exact ⟨(pl a k).1, (pl a k).2, rfl, lt, ha.bk (by omega) (by omega), by unfold rch; exact decide_eq_true (by omega), by omega, by omega⟩
theorem rg_of2 {a b : Cal} {z qa qb : Int} (hb : Vc b) (cp : Cp a b z qa qb) {k : Int} (h0 : 0 ≤ k) (h1 : k < qb * b.l.length) : ∃ u v, Rg b a k u v := by
  obtain ⟨r1, r2⟩ := hb.range h0 h1
  have lt := hb.pl_lt k
  have o1 := hb.o1
  have o2 := hb.o2
  have e := cp.eb
  have m2 := cp.m2
  exact ⟨(pl b k).1, (pl b k).2, rfl, lt, hb.bk (by omega) (by omega), by unfold rch; exact decide_eq_true (by omega), by omega, by omega⟩
theorem finB_up {a b : Cal} {j K : Nat} (h : ∀ k : Nat, k < j → lies a b k = true) (hj : lies a b j = true) : ∀ k : Nat, k < j + 1 → lies a b k = true := fun k hk => by
  rcases Nat.lt_or_ge k j with h1 | h1
  · exact h k h1
  · rw [show k = j by omega]; exact hj
set_option maxRecDepth 20000 in
set_option maxHeartbeats 6400000 in
theorem Finer_bad {A B : Option Addr} {n cp m cq : Nat} {o p r s : Int} {l g : List (Int × Int)}  (w : World) (h : Hid (Sr w A n cp l)) (k : Hid (Sr w B m cq g)) (hb : Hid ((vld ⟨o, p, l⟩ && vld ⟨r, s, g⟩) = false)) :
    Calls Try.prog 39 #[.agg #[.int .i64 o, .int .i64 p, .slice A n cp], .agg #[.int .i64 r, .int .i64 s, .slice B m cq]] w fun x w' => x = .returned (.tuple #[.bool false, .int .i64 1]) ∧ Below w.heap.size w w' := by
  obtain ⟨W0, hW0⟩ : ∃ W0, (w.alloc (.cells #[.int .i64 o, .int .i64 p, .slice A n cp] 24)).alloc (.cells #[.int .i64 r, .int .i64 s, .slice B m cq] 24) = W0 := ⟨_, rfl⟩
  have F0 : Hid (Fx w W0 w.heap.size o p A n cp l) := Lib.hid (by rw [← hW0]; exact (Fx.new _ _ h.out).alloc _)
  have G0 : Hid (Fx w W0 (w.heap.size + 1) r s B m cq g) := Lib.hid (by rw [← hW0]; exact Fx.new2 _ _ _ k.out)
  have HW0 := Lib.hid hW0
  clear hW0
  obtain ⟨z0, c0, c1, c2⟩ := F0.out.bx
  obtain ⟨y0, d0, d1, d2⟩ := G0.out.bx
  go_enter Try.func39, Try.ntmps39
  go_wp2_with fail
  rw [HW0.out]
  go_at_call 71
  refine (pair_bad _ (Fx.hsr F0) (Fx.hsr G0) hb).mono ?_
  rintro e w1 ⟨rfl, b1⟩
  have F1 := Lib.hid (F0.out.step b1)
  have G1 := Lib.hid (G0.out.step b1)
  clear c0 c1 c2 z0 d0 d1 d2 y0
  obtain ⟨z0, c0, c1, c2⟩ := F1.out.bx
  obtain ⟨y0, d0, d1, d2⟩ := G1.out.bx
  go_wp2_with fail
  go_ret2
  exact ⟨rfl, F1.out.bel⟩
set_option maxRecDepth 20000 in
set_option maxHeartbeats 6400000 in
theorem Finer_err {A B : Option Addr} {n cp m cq : Nat} {o p r s : Int} {l g : List (Int × Int)} {z e : Int} (w : World) (h : Hid (Sr w A n cp l)) (k : Hid (Sr w B m cq g)) (hv : Hid (vld ⟨o, p, l⟩ = true)) (kv : Hid (vld ⟨r, s, g⟩ = true)) (hp : Hid (prr ⟨o, p, l⟩ ⟨r, s, g⟩ = (z, e))) (he : Hid (e ≠ 0)) :
    Calls Try.prog 39 #[.agg #[.int .i64 o, .int .i64 p, .slice A n cp], .agg #[.int .i64 r, .int .i64 s, .slice B m cq]] w fun x w' => x = .returned (.tuple #[.bool false, .int .i64 e]) ∧ Below w.heap.size w w' := by
  obtain ⟨W0, hW0⟩ : ∃ W0, (w.alloc (.cells #[.int .i64 o, .int .i64 p, .slice A n cp] 24)).alloc (.cells #[.int .i64 r, .int .i64 s, .slice B m cq] 24) = W0 := ⟨_, rfl⟩
  have F0 : Hid (Fx w W0 w.heap.size o p A n cp l) := Lib.hid (by rw [← hW0]; exact (Fx.new _ _ h.out).alloc _)
  have G0 : Hid (Fx w W0 (w.heap.size + 1) r s B m cq g) := Lib.hid (by rw [← hW0]; exact Fx.new2 _ _ _ k.out)
  have HW0 := Lib.hid hW0
  clear hW0
  obtain ⟨z0, c0, c1, c2⟩ := F0.out.bx
  obtain ⟨y0, d0, d1, d2⟩ := G0.out.bx
  have he' : (e != 0) = true := by simpa using he.out
  go_enter Try.func39, Try.ntmps39
  go_wp2_with fail
  rw [HW0.out]
  go_at_call 71
  refine (pair_at _ (Fx.hsr F0) (Fx.hsr G0) hv kv hp).mono ?_
  rintro e w1 ⟨rfl, b1⟩
  have F1 := Lib.hid (F0.out.step b1)
  have G1 := Lib.hid (G0.out.step b1)
  clear c0 c1 c2 z0 d0 d1 d2 y0
  obtain ⟨z0, c0, c1, c2⟩ := F1.out.bx
  obtain ⟨y0, d0, d1, d2⟩ := G1.out.bx
  go_wp2_with fail
  go_ret2
  exact ⟨rfl, F1.out.bel⟩
set_option maxRecDepth 20000 in
set_option maxHeartbeats 6400000 in
theorem Finer_ok {A B : Option Addr} {n cp m cq : Nat} {o p r s : Int} {l g : List (Int × Int)} {z qa qb : Int} (w : World) (h : Hid (Sr w A n cp l)) (k : Hid (Sr w B m cq g)) (hv : Hid (vld ⟨o, p, l⟩ = true)) (kv : Hid (vld ⟨r, s, g⟩ = true)) (cp0 : Hid (Cp ⟨o, p, l⟩ ⟨r, s, g⟩ z qa qb)) (hp : Hid (prr ⟨o, p, l⟩ ⟨r, s, g⟩ = (z, 0))) (K K2 : Nat) (hK : qa * (l.length : Int) = (K : Int)) (hK2 : qb * (g.length : Int) = (K2 : Int)) (K5 : K ≤ 5000) (K25 : K2 ≤ 5000) :
    Calls Try.prog 39 #[.agg #[.int .i64 o, .int .i64 p, .slice A n cp], .agg #[.int .i64 r, .int .i64 s, .slice B m cq]] w fun x w' => x = .returned (.tuple #[.bool (finB ⟨o, p, l⟩ ⟨r, s, g⟩ K), .int .i64 0]) ∧ Below w.heap.size w w' := by
  have V := hVc hv
  have V2 := hVc kv
  have hl := Lib.hid h.out.len
  have kl := Lib.hid k.out.len
  have hnc := h.out.nc
  have knc := k.out.nc
  have hc63 := h.out.c63
  have kc63 := k.out.c63
  have n1 : 1 ≤ n := by have : 1 ≤ l.length := V.out.n1; have := hl.out; omega
  have n2 : n ≤ 5000 := by have : l.length ≤ 5000 := V.out.n2; have := hl.out; omega
  have m1 : 1 ≤ m := by have : 1 ≤ g.length := V2.out.n1; have := kl.out; omega
  have m2 : m ≤ 5000 := by have : g.length ≤ 5000 := V2.out.n2; have := kl.out; omega
  have p1 : 1 ≤ p := V.out.p1
  have p2 : p ≤ 12622780800 := V.out.p2
  have s1 : 1 ≤ s := V2.out.p1
  have s2 : s ≤ 12622780800 := V2.out.p2
  obtain ⟨W0, hW0⟩ : ∃ W0, (w.alloc (.cells #[.int .i64 o, .int .i64 p, .slice A n cp] 24)).alloc (.cells #[.int .i64 r, .int .i64 s, .slice B m cq] 24) = W0 := ⟨_, rfl⟩
  have F0 : Hid (Fx w W0 w.heap.size o p A n cp l) := Lib.hid (by rw [← hW0]; exact (Fx.new _ _ h.out).alloc _)
  have G0 : Hid (Fx w W0 (w.heap.size + 1) r s B m cq g) := Lib.hid (by rw [← hW0]; exact Fx.new2 _ _ _ k.out)
  have HW0 := Lib.hid hW0
  clear hW0
  obtain ⟨z0, c0, c1, c2⟩ := F0.out.bx
  obtain ⟨y0, d0, d1, d2⟩ := G0.out.bx
  have p0 : p ≠ 0 := by omega
  have p0' : (p == 0) = false := by simp; omega
  have pm : (p == -1) = false := by simp; omega
  have s0 : s ≠ 0 := by omega
  have s0' : (s == 0) = false := by simp; omega
  have sm : (s == -1) = false := by simp; omega
  have z1 := cp0.out.m1
  have z2 := cp0.out.m2
  have a1' := cp0.out.a1
  have b1' := cp0.out.b1
  have a2' := cp0.out.a2
  have b2' := cp0.out.b2
  have da : z / p = qa := cp0.out.da
  have db : z / s = qb := cp0.out.db
  have ta : z.tdiv p = qa := by rw [Int.tdiv_eq_ediv_of_nonneg (by omega)]; exact da
  have tb : z.tdiv s = qb := by rw [Int.tdiv_eq_ediv_of_nonneg (by omega)]; exact db
  rw [← hl.out] at hK
  rw [← kl.out] at hK2
  go_enter Try.func39, Try.ntmps39
  go_wp2_with fail
  rw [HW0.out]
  go_at_call 71
  refine (pair_at _ (Fx.hsr F0) (Fx.hsr G0) hv kv hp).mono ?_
  rintro e w1 ⟨rfl, b1⟩
  have F1 := Lib.hid (F0.out.step b1)
  have G1 := Lib.hid (G0.out.step b1)
  clear c0 c1 c2 z0 d0 d1 d2 y0
  obtain ⟨z0, c0, c1, c2⟩ := F1.out.bx
  obtain ⟨y0, d0, d1, d2⟩ := G1.out.bx
  go_wp2_with fail
  have hS := Abv.cells w1
  refine wp_region_abv (by kernel_rfl) (by kernel_rfl) ?_
  repeat (go_big_quiet_step ((fail)))
  refine wpQuiet_nil ?_
  rintro w2 hw2
  clear hS
  have b2 := hw2
  have F2 := Lib.hid (F1.out.step b2)
  have G2 := Lib.hid (G1.out.step b2)
  clear c0 c1 c2 z0 d0 d1 d2 y0
  obtain ⟨z0, c0, c1, c2⟩ := F2.out.bx
  obtain ⟨y0, d0, d1, d2⟩ := G2.out.bx
  go_wp2_with fail
  go_loopw [27] (fun iv wr => ∃ j : Nat, j ≤ K ∧ iv = .int .i64 j ∧ Hid (Below w2.heap.size w2 wr) ∧ Hid (∀ k : Nat, k < j → lies ⟨o, p, l⟩ ⟨r, s, g⟩ k = true)) (fun i _ => (K - intOf i).toNat)
  case atStart => exact ⟨0, by omega, rfl, Lib.hid (Below.refl _ _), Lib.hid fun k hk => by omega⟩
  case round =>
    obtain ⟨j, hj, rfl, bw, hpre⟩ := hrel
    have F4 := Lib.hid (F2.out.step bw.out)
    have G4 := Lib.hid (G2.out.step bw.out)
    clear c0 c1 c2 z0 d0 d1 d2 y0
    obtain ⟨z0, c0, c1, c2⟩ := F4.out.bx
    obtain ⟨y0, d0, d1, d2⟩ := G4.out.bx
    by_cases hlt : j < K
    · obtain ⟨u, v, rg⟩ := rg_of (k := (j : Int)) V.out cp0.out (by omega) (by show (j : Int) < qa * (l.length : Int); rw [← hl.out, hK]; omega)
      have RG := Lib.hid rg
      have u1 := rg.u1
      have v1 := rg.v1
      have uv := rg.lt
      have nb := V2.out.nr_bd (x := u) (by omega) (by omega)
      have NB := Lib.hid (V2.out.bk_nr (x := u) (by omega) (by omega))
      obtain ⟨i, hi⟩ : ∃ i, nr ⟨r, s, g⟩ u = i := ⟨_, rfl⟩
      rw [hi] at nb NB
      have HI := Lib.hid hi
      obtain ⟨⟨u', v'⟩, huv⟩ : ∃ q, pl ⟨r, s, g⟩ i = q := ⟨_, rfl⟩
      have HP := Lib.hid huv
      have HL : Hid (lies ⟨o, p, l⟩ ⟨r, s, g⟩ (j : Int) = decide (v ≤ v')) := Lib.hid (by unfold lies; rw [RG.out.p]; dsimp only; rw [HI.out, HP.out])
      have fl := fld1
      clear rg hi huv
      rcases hd : decide (v' < v) with _ | _
      · have HB := Lib.hid (finB_up (K := K) hpre.out (by rw [HL.out]; exact decide_eq_true (by simp at hd; omega)))
        go_wp2_with fail
        go_at_call 45
        refine (place_at _ (Fx.hsr F4) V (Lib.hid RG.out.bk) (Lib.hid RG.out.p)).mono ?_
        rintro e w5 ⟨rfl, b5⟩
        have F5 := Lib.hid (F4.out.step b5)
        have G5 := Lib.hid (G4.out.step b5)
        clear c0 c1 c2 z0 d0 d1 d2 y0
        obtain ⟨z0, c0, c1, c2⟩ := F5.out.bx
        obtain ⟨y0, d0, d1, d2⟩ := G5.out.bx
        go_wp2_with fail
        obtain ⟨w6, hW⟩ : ∃ W, w5.alloc (.cells #[.int .i64 u, .int .i64 v] 35) = W := ⟨_, rfl⟩
        have b6 : Below w5.heap.size w5 w6 := hW ▸ bal _ _
        have U6 := Lib.hid (Sb.new w5 u v 35)
        rw [hW] at U6 ⊢
        clear hW
        have F6 := Lib.hid (F5.out.step b6)
        have G6 := Lib.hid (G5.out.step b6)
        clear c0 c1 c2 z0 d0 d1 d2 y0
        obtain ⟨z0, c0, c1, c2⟩ := F6.out.bx
        obtain ⟨y0, d0, d1, d2⟩ := G6.out.bx
        obtain ⟨t0, e0, e1, _, _⟩ := U6.out
        have hS := Abv.cells w6
        refine wp_region_abv (by kernel_rfl) (by kernel_rfl) ?_
        repeat (go_big_quiet_step ((first | (go_at_call 55; exact abv_call (near_at _ (Lib.hid (G6.out.sr.below (Abv.bel _))) V2 (by omega) (by omega) HI)) | (go_at_call 45; exact abv_call (place_at _ (Lib.hid (G6.out.sr.below (Abv.bel _))) V2 NB HP)))))
        refine wpQuiet_nil ?_
        rintro w7 hw7
        clear hS
        have bw7 := Lib.hid (bel_step (bel_step (bel_step bw.out b5 (Nat.le_refl _)) b6 (Nat.le_refl _)) hw7 (Nat.le_refl _))
        have F7 := Lib.hid (F6.out.step hw7)
        go_wp2_with fail
        go_roundw
        case rel => exact ⟨j + 1, by omega, by go_num, bw7, HB⟩
        case measure => simp [intOf]; omega
      · have R : Hid (finB ⟨o, p, l⟩ ⟨r, s, g⟩ K = false) := Lib.hid (finB_f hlt (by rw [HL.out]; exact decide_eq_false (by simp at hd; omega)))
        go_wp2_with fail
        go_at_call 45
        refine (place_at _ (Fx.hsr F4) V (Lib.hid RG.out.bk) (Lib.hid RG.out.p)).mono ?_
        rintro e w5 ⟨rfl, b5⟩
        have F5 := Lib.hid (F4.out.step b5)
        have G5 := Lib.hid (G4.out.step b5)
        clear c0 c1 c2 z0 d0 d1 d2 y0
        obtain ⟨z0, c0, c1, c2⟩ := F5.out.bx
        obtain ⟨y0, d0, d1, d2⟩ := G5.out.bx
        go_wp2_with fail
        obtain ⟨w6, hW⟩ : ∃ W, w5.alloc (.cells #[.int .i64 u, .int .i64 v] 35) = W := ⟨_, rfl⟩
        have b6 : Below w5.heap.size w5 w6 := hW ▸ bal _ _
        have U6 := Lib.hid (Sb.new w5 u v 35)
        rw [hW] at U6 ⊢
        clear hW
        have F6 := Lib.hid (F5.out.step b6)
        have G6 := Lib.hid (G5.out.step b6)
        clear c0 c1 c2 z0 d0 d1 d2 y0
        obtain ⟨z0, c0, c1, c2⟩ := F6.out.bx
        obtain ⟨y0, d0, d1, d2⟩ := G6.out.bx
        obtain ⟨t0, e0, e1, _, _⟩ := U6.out
        have hS := Abv.cells w6
        refine wp_region_abv (by kernel_rfl) (by kernel_rfl) ?_
        repeat (go_big_quiet_step ((first | (go_at_call 55; exact abv_call (near_at _ (Lib.hid (G6.out.sr.below (Abv.bel _))) V2 (by omega) (by omega) HI)) | (go_at_call 45; exact abv_call (place_at _ (Lib.hid (G6.out.sr.below (Abv.bel _))) V2 NB HP)))))
        refine wpQuiet_nil ?_
        rintro w7 hw7
        clear hS
        have bw7 := Lib.hid (bel_step (bel_step (bel_step bw.out b5 (Nat.le_refl _)) b6 (Nat.le_refl _)) hw7 (Nat.le_refl _))
        have F7 := Lib.hid (F6.out.step hw7)
        go_wp2_with fail
        go_ret2
        exact ⟨ret_bi R.out.symm, F7.out.bel⟩
    · obtain rfl : j = K := by omega
      have R : Hid (finB ⟨o, p, l⟩ ⟨r, s, g⟩ j = true) := Lib.hid (finB_t hpre.out)
      go_wp2_with fail
      go_ret2
      exact ⟨ret_bi R.out.symm, F4.out.bel⟩
set_option maxRecDepth 20000 in
set_option maxHeartbeats 6400000 in
theorem rFiner_bad {A B : Option Addr} {n cp m cq : Nat} {o p r s : Int} {l g : List (Int × Int)}  (w : World) (h : Hid (Sr w A n cp l)) (k : Hid (Sr w B m cq g)) (hb : Hid ((vld ⟨o, p, l⟩ && vld ⟨r, s, g⟩) = false)) :
    Calls Try.prog 41 #[.agg #[.int .i64 o, .int .i64 p, .slice A n cp], .agg #[.int .i64 r, .int .i64 s, .slice B m cq]] w fun x w' => x = .returned (.tuple #[.bool false, .int .i64 1]) ∧ Below w.heap.size w w' := by
  obtain ⟨W0, hW0⟩ : ∃ W0, (w.alloc (.cells #[.int .i64 o, .int .i64 p, .slice A n cp] 24)).alloc (.cells #[.int .i64 r, .int .i64 s, .slice B m cq] 24) = W0 := ⟨_, rfl⟩
  have F0 : Hid (Fx w W0 w.heap.size o p A n cp l) := Lib.hid (by rw [← hW0]; exact (Fx.new _ _ h.out).alloc _)
  have G0 : Hid (Fx w W0 (w.heap.size + 1) r s B m cq g) := Lib.hid (by rw [← hW0]; exact Fx.new2 _ _ _ k.out)
  have HW0 := Lib.hid hW0
  clear hW0
  obtain ⟨z0, c0, c1, c2⟩ := F0.out.bx
  obtain ⟨y0, d0, d1, d2⟩ := G0.out.bx
  rcases ha : vld ⟨o, p, l⟩ with _ | _
  all_goals replace ha := Lib.hid ha
  · go_enter Try.func41, Try.ntmps41
    go_wp2_with fail
    rw [HW0.out]
    go_at_call 13
    refine (rValid_at _ (Fx.hsr F0) ha).mono ?_
    rintro e w1 ⟨rfl, b1⟩
    have F1 := Lib.hid (F0.out.step b1)
    have G1 := Lib.hid (G0.out.step b1)
    clear c0 c1 c2 z0 d0 d1 d2 y0
    obtain ⟨z0, c0, c1, c2⟩ := F1.out.bx
    obtain ⟨y0, d0, d1, d2⟩ := G1.out.bx
    go_wp2_with fail
    go_ret2
    exact ⟨rfl, F1.out.bel⟩
  · have hb' : Hid (vld ⟨r, s, g⟩ = false) := Lib.hid (by have := hb.out; rw [ha.out] at this; simpa using this)
    go_enter Try.func41, Try.ntmps41
    go_wp2_with fail
    rw [HW0.out]
    go_at_call 13
    refine (rValid_at _ (Fx.hsr F0) ha).mono ?_
    rintro e w1 ⟨rfl, b1⟩
    have F1 := Lib.hid (F0.out.step b1)
    have G1 := Lib.hid (G0.out.step b1)
    clear c0 c1 c2 z0 d0 d1 d2 y0
    obtain ⟨z0, c0, c1, c2⟩ := F1.out.bx
    obtain ⟨y0, d0, d1, d2⟩ := G1.out.bx
    go_wp2_with fail
    go_at_call 13
    refine (rValid_at _ (Fx.hsr G1) hb').mono ?_
    rintro e w2 ⟨rfl, b2⟩
    have F2 := Lib.hid (F1.out.step b2)
    have G2 := Lib.hid (G1.out.step b2)
    clear c0 c1 c2 z0 d0 d1 d2 y0
    obtain ⟨z0, c0, c1, c2⟩ := F2.out.bx
    obtain ⟨y0, d0, d1, d2⟩ := G2.out.bx
    go_wp2_with fail
    go_ret2
    exact ⟨rfl, F2.out.bel⟩
theorem rPair_at {A B : Option Addr} {n cp m cq : Nat} {o p r s : Int} {l g : List (Int × Int)} {z e : Int} (w : World) (h : Hid (Sr w A n cp l)) (k : Hid (Sr w B m cq g)) (hv : Hid (vld ⟨o, p, l⟩ = true)) (kv : Hid (vld ⟨r, s, g⟩ = true)) (hp : Hid (prr2 ⟨o, p, l⟩ ⟨r, s, g⟩ = (z, e))) :
    Calls Try.prog 72 #[.agg #[.int .i64 o, .int .i64 p, .slice A n cp], .agg #[.int .i64 r, .int .i64 s, .slice B m cq]] w fun x w' => x = .returned (.tuple #[.int .i64 z, .int .i64 e]) ∧ Below w.heap.size w w' := by
  have := rPair_any w h k hv kv
  rw [hp.out] at this; exact this
set_option maxRecDepth 20000 in
set_option maxHeartbeats 6400000 in
theorem rFiner_err {A B : Option Addr} {n cp m cq : Nat} {o p r s : Int} {l g : List (Int × Int)} {z e : Int} (w : World) (h : Hid (Sr w A n cp l)) (k : Hid (Sr w B m cq g)) (hv : Hid (vld ⟨o, p, l⟩ = true)) (kv : Hid (vld ⟨r, s, g⟩ = true)) (hp : Hid (prr ⟨o, p, l⟩ ⟨r, s, g⟩ = (z, e))) (he : Hid (e ≠ 0)) :
    Calls Try.prog 41 #[.agg #[.int .i64 o, .int .i64 p, .slice A n cp], .agg #[.int .i64 r, .int .i64 s, .slice B m cq]] w fun x w' => x = .returned (.tuple #[.bool false, .int .i64 e]) ∧ Below w.heap.size w w' := by
  obtain ⟨W0, hW0⟩ : ∃ W0, (w.alloc (.cells #[.int .i64 o, .int .i64 p, .slice A n cp] 24)).alloc (.cells #[.int .i64 r, .int .i64 s, .slice B m cq] 24) = W0 := ⟨_, rfl⟩
  have F0 : Hid (Fx w W0 w.heap.size o p A n cp l) := Lib.hid (by rw [← hW0]; exact (Fx.new _ _ h.out).alloc _)
  have G0 : Hid (Fx w W0 (w.heap.size + 1) r s B m cq g) := Lib.hid (by rw [← hW0]; exact Fx.new2 _ _ _ k.out)
  have HW0 := Lib.hid hW0
  clear hW0
  obtain ⟨z0, c0, c1, c2⟩ := F0.out.bx
  obtain ⟨y0, d0, d1, d2⟩ := G0.out.bx
  have hp2 : Hid (prr2 ⟨o, p, l⟩ ⟨r, s, g⟩ = (0, e)) := Lib.hid (by rw [prr2_of hp.out, if_neg he.out])
  have he' : (e != 0) = true := by simpa using he.out
  go_enter Try.func41, Try.ntmps41
  go_wp2_with fail
  rw [HW0.out]
  go_at_call 13
  refine (rValid_at _ (Fx.hsr F0) hv).mono ?_
  rintro e w1 ⟨rfl, b1⟩
  have F1 := Lib.hid (F0.out.step b1)
  have G1 := Lib.hid (G0.out.step b1)
  clear c0 c1 c2 z0 d0 d1 d2 y0
  obtain ⟨z0, c0, c1, c2⟩ := F1.out.bx
  obtain ⟨y0, d0, d1, d2⟩ := G1.out.bx
  go_wp2_with fail
  go_at_call 13
  refine (rValid_at _ (Fx.hsr G1) kv).mono ?_
  rintro e w2 ⟨rfl, b2⟩
  have F2 := Lib.hid (F1.out.step b2)
  have G2 := Lib.hid (G1.out.step b2)
  clear c0 c1 c2 z0 d0 d1 d2 y0
  obtain ⟨z0, c0, c1, c2⟩ := F2.out.bx
  obtain ⟨y0, d0, d1, d2⟩ := G2.out.bx
  go_wp2_with fail
  go_at_call 72
  refine (rPair_at _ (Fx.hsr F2) (Fx.hsr G2) hv kv hp2).mono ?_
  rintro e w3 ⟨rfl, b3⟩
  have F3 := Lib.hid (F2.out.step b3)
  have G3 := Lib.hid (G2.out.step b3)
  clear c0 c1 c2 z0 d0 d1 d2 y0
  obtain ⟨z0, c0, c1, c2⟩ := F3.out.bx
  obtain ⟨y0, d0, d1, d2⟩ := G3.out.bx
  go_wp2_with fail
  go_ret2
  exact ⟨rfl, F3.out.bel⟩
set_option maxRecDepth 20000 in
set_option maxHeartbeats 6400000 in
theorem rFiner_ok {A B : Option Addr} {n cp m cq : Nat} {o p r s : Int} {l g : List (Int × Int)} {z qa qb : Int} (w : World) (h : Hid (Sr w A n cp l)) (k : Hid (Sr w B m cq g)) (hv : Hid (vld ⟨o, p, l⟩ = true)) (kv : Hid (vld ⟨r, s, g⟩ = true)) (cp0 : Hid (Cp ⟨o, p, l⟩ ⟨r, s, g⟩ z qa qb)) (hp : Hid (prr ⟨o, p, l⟩ ⟨r, s, g⟩ = (z, 0))) (K K2 : Nat) (hK : qa * (l.length : Int) = (K : Int)) (hK2 : qb * (g.length : Int) = (K2 : Int)) (K5 : K ≤ 5000) (K25 : K2 ≤ 5000) :
    Calls Try.prog 41 #[.agg #[.int .i64 o, .int .i64 p, .slice A n cp], .agg #[.int .i64 r, .int .i64 s, .slice B m cq]] w fun x w' => x = .returned (.tuple #[.bool (finB ⟨o, p, l⟩ ⟨r, s, g⟩ K), .int .i64 0]) ∧ Below w.heap.size w w' := by
  have V := hVc hv
  have V2 := hVc kv
  have hl := Lib.hid h.out.len
  have kl := Lib.hid k.out.len
  have hnc := h.out.nc
  have knc := k.out.nc
  have hc63 := h.out.c63
  have kc63 := k.out.c63
  have n1 : 1 ≤ n := by have : 1 ≤ l.length := V.out.n1; have := hl.out; omega
  have n2 : n ≤ 5000 := by have : l.length ≤ 5000 := V.out.n2; have := hl.out; omega
  have m1 : 1 ≤ m := by have : 1 ≤ g.length := V2.out.n1; have := kl.out; omega
  have m2 : m ≤ 5000 := by have : g.length ≤ 5000 := V2.out.n2; have := kl.out; omega
  have p1 : 1 ≤ p := V.out.p1
  have p2 : p ≤ 12622780800 := V.out.p2
  have s1 : 1 ≤ s := V2.out.p1
  have s2 : s ≤ 12622780800 := V2.out.p2
  obtain ⟨W0, hW0⟩ : ∃ W0, (w.alloc (.cells #[.int .i64 o, .int .i64 p, .slice A n cp] 24)).alloc (.cells #[.int .i64 r, .int .i64 s, .slice B m cq] 24) = W0 := ⟨_, rfl⟩
  have F0 : Hid (Fx w W0 w.heap.size o p A n cp l) := Lib.hid (by rw [← hW0]; exact (Fx.new _ _ h.out).alloc _)
  have G0 : Hid (Fx w W0 (w.heap.size + 1) r s B m cq g) := Lib.hid (by rw [← hW0]; exact Fx.new2 _ _ _ k.out)
  have HW0 := Lib.hid hW0
  clear hW0
  obtain ⟨z0, c0, c1, c2⟩ := F0.out.bx
  obtain ⟨y0, d0, d1, d2⟩ := G0.out.bx
  have p0 : p ≠ 0 := by omega
  have p0' : (p == 0) = false := by simp; omega
  have pm : (p == -1) = false := by simp; omega
  have s0 : s ≠ 0 := by omega
  have s0' : (s == 0) = false := by simp; omega
  have sm : (s == -1) = false := by simp; omega
  have z1 := cp0.out.m1
  have z2 := cp0.out.m2
  have a1' := cp0.out.a1
  have b1' := cp0.out.b1
  have a2' := cp0.out.a2
  have b2' := cp0.out.b2
  have da : z / p = qa := cp0.out.da
  have db : z / s = qb := cp0.out.db
  have ta : z.tdiv p = qa := by rw [Int.tdiv_eq_ediv_of_nonneg (by omega)]; exact da
  have tb : z.tdiv s = qb := by rw [Int.tdiv_eq_ediv_of_nonneg (by omega)]; exact db
  rw [← hl.out] at hK
  rw [← kl.out] at hK2
  have hp2 : Hid (prr2 ⟨o, p, l⟩ ⟨r, s, g⟩ = (z, 0)) := Lib.hid (by rw [prr2_of hp.out, if_pos rfl])
  go_enter Try.func41, Try.ntmps41
  go_wp2_with fail
  rw [HW0.out]
  go_at_call 13
  refine (rValid_at _ (Fx.hsr F0) hv).mono ?_
  rintro e w1 ⟨rfl, b1⟩
  have F1 := Lib.hid (F0.out.step b1)
  have G1 := Lib.hid (G0.out.step b1)
  clear c0 c1 c2 z0 d0 d1 d2 y0
  obtain ⟨z0, c0, c1, c2⟩ := F1.out.bx
  obtain ⟨y0, d0, d1, d2⟩ := G1.out.bx
  go_wp2_with fail
  go_at_call 13
  refine (rValid_at _ (Fx.hsr G1) kv).mono ?_
  rintro e w2 ⟨rfl, b2⟩
  have F2 := Lib.hid (F1.out.step b2)
  have G2 := Lib.hid (G1.out.step b2)
  clear c0 c1 c2 z0 d0 d1 d2 y0
  obtain ⟨z0, c0, c1, c2⟩ := F2.out.bx
  obtain ⟨y0, d0, d1, d2⟩ := G2.out.bx
  go_wp2_with fail
  go_at_call 72
  refine (rPair_at _ (Fx.hsr F2) (Fx.hsr G2) hv kv hp2).mono ?_
  rintro e w3 ⟨rfl, b3⟩
  have F3 := Lib.hid (F2.out.step b3)
  have G3 := Lib.hid (G2.out.step b3)
  clear c0 c1 c2 z0 d0 d1 d2 y0
  obtain ⟨z0, c0, c1, c2⟩ := F3.out.bx
  obtain ⟨y0, d0, d1, d2⟩ := G3.out.bx
  go_wp2_with fail
  go_loopw [8] (fun iv wr => ∃ j : Nat, j ≤ K ∧ iv = .int .i64 j ∧ Hid (Below w3.heap.size w3 wr) ∧ Hid (∀ k : Nat, k < j → lies ⟨o, p, l⟩ ⟨r, s, g⟩ k = true)) (fun i _ => (K - intOf i).toNat)
  case atStart => exact ⟨0, by omega, rfl, Lib.hid (Below.refl _ _), Lib.hid fun k hk => by omega⟩
  case round =>
    obtain ⟨j, hj, rfl, bw, hpre⟩ := hrel
    have F4 := Lib.hid (F3.out.step bw.out)
    have G4 := Lib.hid (G3.out.step bw.out)
    clear c0 c1 c2 z0 d0 d1 d2 y0
    obtain ⟨z0, c0, c1, c2⟩ := F4.out.bx
    obtain ⟨y0, d0, d1, d2⟩ := G4.out.bx
    by_cases hlt : j < K
    · obtain ⟨u, v, rg⟩ := rg_of (k := (j : Int)) V.out cp0.out (by omega) (by show (j : Int) < qa * (l.length : Int); rw [← hl.out, hK]; omega)
      have RG := Lib.hid rg
      have jlt : decide ((j : Int) < (K : Int)) = true := by simp; omega
      obtain ⟨⟨i, b⟩, hu⟩ : ∃ q, upv ⟨o, p, l⟩ ⟨r, s, g⟩ (j : Int) = q := ⟨_, rfl⟩
      have HU := Lib.hid hu
      have HL : Hid (lies ⟨o, p, l⟩ ⟨r, s, g⟩ (j : Int) = b) := Lib.hid (by
        unfold upv at hu
        rw [RG.out.r] at hu
        unfold lies
        by_cases hc : (pl ⟨o, p, l⟩ (j : Int)).2 ≤ (pl ⟨r, s, g⟩ (nr ⟨r, s, g⟩ (pl ⟨o, p, l⟩ (j : Int)).1)).2
        · rw [if_pos ⟨rfl, hc⟩] at hu; injection hu with _ e; rw [← e]; exact decide_eq_true hc
        · rw [if_neg (fun h => hc h.2)] at hu; injection hu with _ e; rw [← e]; exact decide_eq_false hc)
      clear rg hu
      go_wp2_with fail
      have hS := Abv.cells wr
      refine wp_region_abv (by kernel_rfl) (by kernel_rfl) ?_
      repeat (go_big_quiet_step ((fail)))
      refine wpQuiet_nil ?_
      rintro w5 hw5
      clear hS
      have b5 := hw5
      have F5 := Lib.hid (F4.out.step b5)
      have G5 := Lib.hid (G4.out.step b5)
      clear c0 c1 c2 z0 d0 d1 d2 y0
      obtain ⟨z0, c0, c1, c2⟩ := F5.out.bx
      obtain ⟨y0, d0, d1, d2⟩ := G5.out.bx
      go_wp2_with fail
      go_at_call 27
      refine (rUp_at _ (Fx.hsr F5) (Fx.hsr G5) hv kv (by omega) (by omega) HU).mono ?_
      rintro e w6 ⟨rfl, b6⟩
      have bw6 := Lib.hid (bel_step (bel_step bw.out b5 (Nat.le_refl _)) b6 (Nat.le_refl _))
      have F6 := Lib.hid (F5.out.step b6)
      rcases b with _ | _
      · have R : Hid (finB ⟨o, p, l⟩ ⟨r, s, g⟩ K = false) := Lib.hid (finB_f hlt HL.out)
        go_wp2_with fail
        go_ret2
        exact ⟨ret_bi R.out.symm, F6.out.bel⟩
      · have HB := Lib.hid (finB_up (K := K) hpre.out HL.out)
        go_wp2_with fail
        go_roundw
        case rel => exact ⟨j + 1, by omega, by go_num, bw6, HB⟩
        case measure => simp [intOf]; omega
    · obtain rfl : j = K := by omega
      have R : Hid (finB ⟨o, p, l⟩ ⟨r, s, g⟩ j = true) := Lib.hid (finB_t hpre.out)
      go_wp2_with fail
      have hS := Abv.cells wr
      refine wp_region_abv (by kernel_rfl) (by kernel_rfl) ?_
      repeat (go_big_quiet_step ((fail)))
      refine wpQuiet_nil ?_
      rintro w5 hw5
      clear hS
      have b5 := hw5
      have F5 := Lib.hid (F4.out.step b5)
      have G5 := Lib.hid (G4.out.step b5)
      clear c0 c1 c2 z0 d0 d1 d2 y0
      obtain ⟨z0, c0, c1, c2⟩ := F5.out.bx
      obtain ⟨y0, d0, d1, d2⟩ := G5.out.bx
      go_wp2_with fail
      go_ret2
      exact ⟨ret_bi R.out.symm, F5.out.bel⟩
end Go.Proofs.Ytainibnjpkbfpaa.Cv
