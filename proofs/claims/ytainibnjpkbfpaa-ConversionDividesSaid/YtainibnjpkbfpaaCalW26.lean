/- Walks: conversion.Divides, and the reference's. -/
import Derived.Test.YtainibnjpkbfpaaCalW25
namespace Go.Proofs.Ytainibnjpkbfpaa.Cv
set_option linter.unusedVariables false
set_option linter.unusedSimpArgs false
open Go.RowKit Wl

theorem fok_bd {a : Cal} (hv : Vc a) {u v : Int} {j : Nat} (h : Fok a u (nr a u) v j) (u1 : -4410669291904 ≤ u) (uv : u < v) (v1 : v ≤ 4410669291904) : -8796093022208 ≤ (pl a (nr a u + j)).1 ∧ (pl a (nr a u + j)).1 ≤ 8796093022208 := by
  have p2 := hv.p2
  rcases j with _ | j
  · have := (hv.near u).1
    have := hv.nr_lo u
    simp only [Int.natCast_zero, Int.add_zero]
    omega
  · have h1 := h j (by omega)
    have h2 := Fok.grow hv (j := j) fun i hi => h i (by omega)
    have h3 := hv.step_le (nr a u + j)
    have h4 := hv.pl_lt1 (show nr a u + j < nr a u + j + 1 by omega)
    rw [show nr a u + ((j + 1 : Nat) : Int) = nr a u + j + 1 by push_cast; omega]
    omega
theorem divB_up {a b : Cal} {j : Nat} (h : ∀ k : Nat, k < j → fil a (pl b k).1 (pl b k).2 = true) (hj : fil a (pl b (j : Nat)).1 (pl b (j : Nat)).2 = true) : ∀ k : Nat, k < j + 1 → fil a (pl b k).1 (pl b k).2 = true := fun k hk => by
  rcases Nat.lt_or_ge k j with h1 | h1
  · exact h k h1
  · rw [show k = j by omega]; exact hj
/-- The state of the inner loop. -/
structure Fs (a : Cal) (u n0 v : Int) (j : Nat) (q i : Int) : Prop where
  ok : Fok a u n0 v j
  n : nr a u = n0
  q : atj a u n0 j = q
  i : n0 + j = i
theorem Fs.next {a : Cal} {u n0 v q i x y : Int} {j : Nat} (h : Fs a u n0 v j q i) (hp : pl a i = (x, y)) (h1 : q < v) (h2 : x = q) : Fs a u n0 v (j + 1) y (i + 1) := by
  have e : pl a (n0 + j) = (x, y) := by rw [h.i, hp]
  refine ⟨h.ok.succ (by rw [h.q]; exact h1) (by rw [e, h.q]; exact h2), h.n, ?_, by have := h.i; push_cast; omega⟩
  show (pl a (n0 + j)).2 = y
  rw [e]
theorem Fs.bad {a : Cal} {u n0 v q i x y : Int} {j : Nat} (h : Fs a u n0 v j q i) (hp : pl a i = (x, y)) (h1 : q < v) (h2 : x ≠ q) : fil a u v = false := by
  obtain ⟨ok, rfl, hq, hi⟩ := h
  exact fil_f1 ok (by rw [hq]; exact h1) (by rw [hi, hp, hq]; exact h2)
theorem Fs.done {a : Cal} (hv : Vc a) {u n0 v i : Int} {j : Nat} (h : Fs a u n0 v j v i) (uv : u ≤ v) : fil a u v = true := by
  obtain ⟨ok, rfl, hq, hi⟩ := h
  exact fil_t hv uv ok hq
theorem Fs.past {a : Cal} {u n0 v q i : Int} {j : Nat} (h : Fs a u n0 v j q i) (h1 : v < q) : fil a u v = false := by
  obtain ⟨ok, rfl, hq, hi⟩ := h
  exact fil_f2 ok (by rw [hq]; exact h1)
theorem Fs.bk {a : Cal} (hv : Vc a) {u n0 v q i : Int} {j : Nat} (h : Fs a u n0 v j q i) (u1 : -4410669291904 ≤ u) (uv : u < v) (v1 : v ≤ 4410669291904) : Bk a i ∧ grk a i = true := by
  obtain ⟨ok, rfl, hq, hi⟩ := h
  obtain ⟨b1, b2⟩ := fok_bd hv ok u1 uv v1
  rw [hi] at b1 b2
  exact ⟨hv.bk (by omega) (by omega), hv.grk_of b1 b2⟩
set_option maxRecDepth 20000 in
set_option maxHeartbeats 6400000 in
theorem Divides_bad {A B : Option Addr} {n cp m cq : Nat} {o p r s : Int} {l g : List (Int × Int)}  (w : World) (h : Hid (Sr w A n cp l)) (k : Hid (Sr w B m cq g)) (hb : Hid ((vld ⟨o, p, l⟩ && vld ⟨r, s, g⟩) = false)) :
    Calls Try.prog 38 #[.agg #[.int .i64 o, .int .i64 p, .slice A n cp], .agg #[.int .i64 r, .int .i64 s, .slice B m cq]] w fun x w' => x = .returned (.tuple #[.bool false, .int .i64 1]) ∧ Below w.heap.size w w' := by
  obtain ⟨W0, hW0⟩ : ∃ W0, (w.alloc (.cells #[.int .i64 o, .int .i64 p, .slice A n cp] 24)).alloc (.cells #[.int .i64 r, .int .i64 s, .slice B m cq] 24) = W0 := ⟨_, rfl⟩
  have F0 : Hid (Fx w W0 w.heap.size o p A n cp l) := Lib.hid (by rw [← hW0]; exact (Fx.new _ _ h.out).alloc _)
  have G0 : Hid (Fx w W0 (w.heap.size + 1) r s B m cq g) := Lib.hid (by rw [← hW0]; exact Fx.new2 _ _ _ k.out)
  have HW0 := Lib.hid hW0
  clear hW0
  obtain ⟨z0, c0, c1, c2⟩ := F0.out.bx
  obtain ⟨y0, d0, d1, d2⟩ := G0.out.bx
  go_enter Try.func38, Try.ntmps38
  go_wp2_with fail
  rw [HW0.out]
  go_at_call 71
  refine (pair_bad _ (Fx.hsr F0) (Fx.hsr G0) hb).mono ?_
  rintro e w1 ⟨rfl, b1⟩
  have F1 := Lib.hid (F0.out.step b1)
  have G1 := Lib.hid (G0.out.step b1)
  clear c0 c1 c2 z0 d0 d1 d2 y0
  obtain ⟨z0, c0, c1, c2⟩ := F1.out.bx
  obtain ⟨y0, d0, d1, d2⟩ := G1.out.bx
  go_wp2_with fail
  go_ret2
  exact ⟨rfl, F1.out.bel⟩
set_option maxRecDepth 20000 in
set_option maxHeartbeats 6400000 in
theorem Divides_err {A B : Option Addr} {n cp m cq : Nat} {o p r s : Int} {l g : List (Int × Int)} {z e : Int} (w : World) (h : Hid (Sr w A n cp l)) (k : Hid (Sr w B m cq g)) (hv : Hid (vld ⟨o, p, l⟩ = true)) (kv : Hid (vld ⟨r, s, g⟩ = true)) (hp : Hid (prr ⟨o, p, l⟩ ⟨r, s, g⟩ = (z, e))) (he : Hid (e ≠ 0)) :
    Calls Try.prog 38 #[.agg #[.int .i64 o, .int .i64 p, .slice A n cp], .agg #[.int .i64 r, .int .i64 s, .slice B m cq]] w fun x w' => x = .returned (.tuple #[.bool false, .int .i64 e]) ∧ Below w.heap.size w w' := by
  obtain ⟨W0, hW0⟩ : ∃ W0, (w.alloc (.cells #[.int .i64 o, .int .i64 p, .slice A n cp] 24)).alloc (.cells #[.int .i64 r, .int .i64 s, .slice B m cq] 24) = W0 := ⟨_, rfl⟩
  have F0 : Hid (Fx w W0 w.heap.size o p A n cp l) := Lib.hid (by rw [← hW0]; exact (Fx.new _ _ h.out).alloc _)
  have G0 : Hid (Fx w W0 (w.heap.size + 1) r s B m cq g) := Lib.hid (by rw [← hW0]; exact Fx.new2 _ _ _ k.out)
  have HW0 := Lib.hid hW0
  clear hW0
  obtain ⟨z0, c0, c1, c2⟩ := F0.out.bx
  obtain ⟨y0, d0, d1, d2⟩ := G0.out.bx
  have he' : (e != 0) = true := by simpa using he.out
  go_enter Try.func38, Try.ntmps38
  go_wp2_with fail
  rw [HW0.out]
  go_at_call 71
  refine (pair_at _ (Fx.hsr F0) (Fx.hsr G0) hv kv hp).mono ?_
  rintro e w1 ⟨rfl, b1⟩
  have F1 := Lib.hid (F0.out.step b1)
  have G1 := Lib.hid (G0.out.step b1)
  clear c0 c1 c2 z0 d0 d1 d2 y0
  obtain ⟨z0, c0, c1, c2⟩ := F1.out.bx
  obtain ⟨y0, d0, d1, d2⟩ := G1.out.bx
  go_wp2_with fail
  go_ret2
  exact ⟨rfl, F1.out.bel⟩
set_option maxRecDepth 20000 in
set_option maxHeartbeats 6400000 in
theorem Divides_ok {A B : Option Addr} {n cp m cq : Nat} {o p r s : Int} {l g : List (Int × Int)} {z qa qb : Int} (w : World) (h : Hid (Sr w A n cp l)) (k : Hid (Sr w B m cq g)) (hv : Hid (vld ⟨o, p, l⟩ = true)) (kv : Hid (vld ⟨r, s, g⟩ = true)) (cp0 : Hid (Cp ⟨o, p, l⟩ ⟨r, s, g⟩ z qa qb)) (hp : Hid (prr ⟨o, p, l⟩ ⟨r, s, g⟩ = (z, 0))) (K K2 : Nat) (hK : qa * (l.length : Int) = (K : Int)) (hK2 : qb * (g.length : Int) = (K2 : Int)) (K5 : K ≤ 5000) (K25 : K2 ≤ 5000) :
    Calls Try.prog 38 #[.agg #[.int .i64 o, .int .i64 p, .slice A n cp], .agg #[.int .i64 r, .int .i64 s, .slice B m cq]] w fun x w' => x = .returned (.tuple #[.bool (divB ⟨o, p, l⟩ ⟨r, s, g⟩ K2), .int .i64 0]) ∧ Below w.heap.size w w' := by
  have V := hVc hv
  have V2 := hVc kv
  have hl := Lib.hid h.out.len
  have kl := Lib.hid k.out.len
  have hnc := h.out.nc
  have knc := k.out.nc
  have hc63 := h.out.c63
  have kc63 := k.out.c63
  have n1 : 1 ≤ n := by have : 1 ≤ l.length := V.out.n1; have := hl.out; omega
  have n2 : n ≤ 5000 := by have : l.length ≤ 5000 := V.out.n2; have := hl.out; omega
  have m1 : 1 ≤ m := by have : 1 ≤ g.length := V2.out.n1; have := kl.out; omega
  have m2 : m ≤ 5000 := by have : g.length ≤ 5000 := V2.out.n2; have := kl.out; omega
  have p1 : 1 ≤ p := V.out.p1
  have p2 : p ≤ 12622780800 := V.out.p2
  have s1 : 1 ≤ s := V2.out.p1
  have s2 : s ≤ 12622780800 := V2.out.p2
  obtain ⟨W0, hW0⟩ : ∃ W0, (w.alloc (.cells #[.int .i64 o, .int .i64 p, .slice A n cp] 24)).alloc (.cells #[.int .i64 r, .int .i64 s, .slice B m cq] 24) = W0 := ⟨_, rfl⟩
  have F0 : Hid (Fx w W0 w.heap.size o p A n cp l) := Lib.hid (by rw [← hW0]; exact (Fx.new _ _ h.out).alloc _)
  have G0 : Hid (Fx w W0 (w.heap.size + 1) r s B m cq g) := Lib.hid (by rw [← hW0]; exact Fx.new2 _ _ _ k.out)
  have HW0 := Lib.hid hW0
  clear hW0
  obtain ⟨z0, c0, c1, c2⟩ := F0.out.bx
  obtain ⟨y0, d0, d1, d2⟩ := G0.out.bx
  have p0 : p ≠ 0 := by omega
  have p0' : (p == 0) = false := by simp; omega
  have pm : (p == -1) = false := by simp; omega
  have s0 : s ≠ 0 := by omega
  have s0' : (s == 0) = false := by simp; omega
  have sm : (s == -1) = false := by simp; omega
  have z1 := cp0.out.m1
  have z2 := cp0.out.m2
  have a1' := cp0.out.a1
  have b1' := cp0.out.b1
  have a2' := cp0.out.a2
  have b2' := cp0.out.b2
  have da : z / p = qa := cp0.out.da
  have db : z / s = qb := cp0.out.db
  have ta : z.tdiv p = qa := by rw [Int.tdiv_eq_ediv_of_nonneg (by omega)]; exact da
  have tb : z.tdiv s = qb := by rw [Int.tdiv_eq_ediv_of_nonneg (by omega)]; exact db
  rw [← hl.out] at hK
  rw [← kl.out] at hK2
  go_enter Try.func38, Try.ntmps38
  go_wp2_with fail
  rw [HW0.out]
  go_at_call 71
  refine (pair_at _ (Fx.hsr F0) (Fx.hsr G0) hv kv hp).mono ?_
  rintro e w1 ⟨rfl, b1⟩
  have F1 := Lib.hid (F0.out.step b1)
  have G1 := Lib.hid (G0.out.step b1)
  clear c0 c1 c2 z0 d0 d1 d2 y0
  obtain ⟨z0, c0, c1, c2⟩ := F1.out.bx
  obtain ⟨y0, d0, d1, d2⟩ := G1.out.bx
  go_wp2_with fail
  have hS := Abv.cells w1
  refine wp_region_abv (by kernel_rfl) (by kernel_rfl) ?_
  repeat (go_big_quiet_step ((fail)))
  refine wpQuiet_nil ?_
  rintro w2 hw2
  clear hS
  have b2 := hw2
  have F2 := Lib.hid (F1.out.step b2)
  have G2 := Lib.hid (G1.out.step b2)
  clear c0 c1 c2 z0 d0 d1 d2 y0
  obtain ⟨z0, c0, c1, c2⟩ := F2.out.bx
  obtain ⟨y0, d0, d1, d2⟩ := G2.out.bx
  go_wp2_with fail
  go_loopw [30] (fun iv wr => ∃ j : Nat, j ≤ K2 ∧ iv = .int .i64 j ∧ Hid (Below w2.heap.size w2 wr) ∧ Hid (∀ k : Nat, k < j → fil ⟨o, p, l⟩ (pl ⟨r, s, g⟩ k).1 (pl ⟨r, s, g⟩ k).2 = true)) (fun i _ => (K2 - intOf i).toNat)
  case atStart => exact ⟨0, by omega, rfl, Lib.hid (Below.refl _ _), Lib.hid fun k hk => by omega⟩
  case round =>
    obtain ⟨j, hj, rfl, bw, hpre⟩ := hrel
    have F4 := Lib.hid (F2.out.step bw.out)
    have G4 := Lib.hid (G2.out.step bw.out)
    clear c0 c1 c2 z0 d0 d1 d2 y0
    obtain ⟨z0, c0, c1, c2⟩ := F4.out.bx
    obtain ⟨y0, d0, d1, d2⟩ := G4.out.bx
    by_cases hlt : j < K2
    · obtain ⟨u, v, rg⟩ := rg_of2 (k := (j : Int)) V2.out cp0.out (by omega) (by show (j : Int) < qb * (g.length : Int); rw [← kl.out, hK2]; omega)
      have RG := Lib.hid rg
      have u1 := rg.u1
      have v1 := rg.v1
      have uv := rg.lt
      have nb := V.out.nr_bd (x := u) (by omega) (by omega)
      obtain ⟨n0, hi⟩ : ∃ i, nr ⟨o, p, l⟩ u = i := ⟨_, rfl⟩
      rw [hi] at nb
      have HI := Lib.hid hi
      have HU : Hid (∀ b, fil ⟨o, p, l⟩ u v = b → fil ⟨o, p, l⟩ (pl ⟨r, s, g⟩ (j : Int)).1 (pl ⟨r, s, g⟩ (j : Int)).2 = b) := Lib.hid fun b hb => by rw [RG.out.p]; exact hb
      clear rg hi
      go_wp2_with fail
      go_at_call 45
      refine (place_at _ (Fx.hsr G4) V2 (Lib.hid RG.out.bk) (Lib.hid RG.out.p)).mono ?_
      rintro e w5 ⟨rfl, b5⟩
      have F5 := Lib.hid (F4.out.step b5)
      have G5 := Lib.hid (G4.out.step b5)
      clear c0 c1 c2 z0 d0 d1 d2 y0
      obtain ⟨z0, c0, c1, c2⟩ := F5.out.bx
      obtain ⟨y0, d0, d1, d2⟩ := G5.out.bx
      go_wp2_with fail
      obtain ⟨w6, hW⟩ : ∃ W, w5.alloc (.cells #[.int .i64 u, .int .i64 v] 35) = W := ⟨_, rfl⟩
      have b6 : Below w5.heap.size w5 w6 := hW ▸ bal _ _
      have U6 := Lib.hid (Sb.new w5 u v 35)
      rw [hW] at U6 ⊢
      clear hW
      have F6 := Lib.hid (F5.out.step b6)
      have G6 := Lib.hid (G5.out.step b6)
      clear c0 c1 c2 z0 d0 d1 d2 y0
      obtain ⟨z0, c0, c1, c2⟩ := F6.out.bx
      obtain ⟨y0, d0, d1, d2⟩ := G6.out.bx
      obtain ⟨t0, e0, e1, _, _⟩ := U6.out
      go_at_call 55
      refine (near_at _ (Fx.hsr F6) V (by omega) (by omega) HI).mono ?_
      rintro e w7 ⟨rfl, b7⟩
      have F7 := Lib.hid (F6.out.step b7)
      have G7 := Lib.hid (G6.out.step b7)
      have U7 := Lib.hid (U6.out.below b7)
      clear c0 c1 c2 z0 d0 d1 d2 y0
      clear t0 e0 e1
      obtain ⟨z0, c0, c1, c2⟩ := F7.out.bx
      obtain ⟨y0, d0, d1, d2⟩ := G7.out.bx
      obtain ⟨t0, e0, e1, _, _⟩ := U7.out
      have bw7 := Lib.hid (bel_step (bel_step (bel_step bw.out b5 (Nat.le_refl _)) b6 (Nat.le_refl _)) b7 (Nat.le_refl _))
      go_wp2_with fail
      go_loopw [10, 11] (fun nv av wq => ∃ (i : Nat) (q x : Int), nv = .int .i64 x ∧ av = .int .i64 q ∧ Hid (Below w7.heap.size w7 wq) ∧ Hid (Fs ⟨o, p, l⟩ u n0 v i q x)) (fun _ a _ => (v - intOf a).toNat)
      case atStart => exact ⟨0, u, n0, rfl, rfl, Lib.hid (Below.refl _ _), Lib.hid ⟨Fok.zero _ _ _ _, HI.out, rfl, by simp⟩⟩
      case round =>
        obtain ⟨i, q, x, rfl, rfl, bq, FS⟩ := hrel
        have F8 := Lib.hid (F7.out.step bq.out)
        have G8 := Lib.hid (G7.out.step bq.out)
        have U8 := Lib.hid (U7.out.below bq.out)
        clear c0 c1 c2 z0 d0 d1 d2 y0
        clear t0 e0 e1
        obtain ⟨z0, c0, c1, c2⟩ := F8.out.bx
        obtain ⟨y0, d0, d1, d2⟩ := G8.out.bx
        obtain ⟨t0, e0, e1, _, _⟩ := U8.out
        have bw8 := Lib.hid (bel_step bw7.out bq.out (Nat.le_refl _))
        by_cases hq : q < v
        · have ⟨BK, _⟩ := FS.out.bk V.out (by omega) (by omega) (by omega)
          have k1 := BK.k1
          have k2 := BK.k2
          have BK' := Lib.hid BK
          obtain ⟨⟨a', b'⟩, hab⟩ : ∃ s, pl ⟨o, p, l⟩ x = s := ⟨_, rfl⟩
          have HP := Lib.hid hab
          have lt' : a' < b' := by have := V.out.pl_lt x; rw [hab] at this; exact this
          clear hab BK
          by_cases he : a' = q
          · subst he
            have N := Lib.hid (FS.out.next HP.out hq rfl)
            go_wp2_with fail
            go_at_call 45
            refine (place_at _ (Fx.hsr F8) V BK' HP).mono ?_
            rintro e w9 ⟨rfl, b9⟩
            have F9 := Lib.hid (F8.out.step b9)
            have G9 := Lib.hid (G8.out.step b9)
            have U9 := Lib.hid (U8.out.below b9)
            clear c0 c1 c2 z0 d0 d1 d2 y0
            clear t0 e0 e1
            obtain ⟨z0, c0, c1, c2⟩ := F9.out.bx
            obtain ⟨y0, d0, d1, d2⟩ := G9.out.bx
            obtain ⟨t0, e0, e1, _, _⟩ := U9.out
            have b10 : Below w9.heap.size w9 (w9.alloc (.cells #[.int .i64 a', .int .i64 b'] 35)) := bal _ _
            have bq9 := Lib.hid (bel_step (bel_step bq.out b9 (Nat.le_refl _)) b10 (Nat.le_refl _))
            have F10 := Lib.hid (F9.out.step b10)
            go_wp2_with fail
            go_roundw
            case rel => exact ⟨i + 1, b', x + 1, rfl, rfl, bq9, N⟩
            case measure => simp [intOf]; omega
          · have R : Hid (divB ⟨o, p, l⟩ ⟨r, s, g⟩ K2 = false) := Lib.hid (divB_f hlt (HU.out _ (FS.out.bad HP.out hq he)))
            have he' : (a' != q) = true := by simpa using he
            go_wp2_with fail
            go_at_call 45
            refine (place_at _ (Fx.hsr F8) V BK' HP).mono ?_
            rintro e w9 ⟨rfl, b9⟩
            have F9 := Lib.hid (F8.out.step b9)
            have G9 := Lib.hid (G8.out.step b9)
            have U9 := Lib.hid (U8.out.below b9)
            clear c0 c1 c2 z0 d0 d1 d2 y0
            clear t0 e0 e1
            obtain ⟨z0, c0, c1, c2⟩ := F9.out.bx
            obtain ⟨y0, d0, d1, d2⟩ := G9.out.bx
            obtain ⟨t0, e0, e1, _, _⟩ := U9.out
            have b10 : Below w9.heap.size w9 (w9.alloc (.cells #[.int .i64 a', .int .i64 b'] 35)) := bal _ _
            have bq9 := Lib.hid (bel_step (bel_step bq.out b9 (Nat.le_refl _)) b10 (Nat.le_refl _))
            have F10 := Lib.hid (F9.out.step b10)
            go_wp2_with fail
            go_ret2
            exact ⟨ret_bi R.out.symm, F10.out.bel⟩
        · by_cases he : q = v
          · subst he
            have HB := Lib.hid (divB_up hpre.out (HU.out _ (FS.out.done V.out (by omega))))
            go_wp2_with fail
            go_roundw
            case rel => exact ⟨j + 1, by omega, by go_num, bw8, HB⟩
            case measure => simp [intOf]; omega
          · have R : Hid (divB ⟨o, p, l⟩ ⟨r, s, g⟩ K2 = false) := Lib.hid (divB_f hlt (HU.out _ (FS.out.past (by omega))))
            have he' : (q != v) = true := by simpa using he
            go_wp2_with fail
            go_ret2
            exact ⟨ret_bi R.out.symm, F8.out.bel⟩
    · obtain rfl : j = K2 := by omega
      have R : Hid (divB ⟨o, p, l⟩ ⟨r, s, g⟩ j = true) := Lib.hid (divB_t hpre.out)
      go_wp2_with fail
      go_ret2
      exact ⟨ret_bi R.out.symm, F4.out.bel⟩
set_option maxRecDepth 20000 in
set_option maxHeartbeats 6400000 in
theorem rdivided_any {A : Option Addr} {n cp : Nat} {o p : Int} {l : List (Int × Int)} {u v : Int} (w : World) (h : Hid (Sr w A n cp l)) (V : Hid (Vc ⟨o, p, l⟩)) (u1 : -4410669291904 ≤ u) (uv : u < v) (v1 : v ≤ 4410669291904) :
    Calls Try.prog 73 #[.agg #[.int .i64 o, .int .i64 p, .slice A n cp], .agg #[.int .i64 u, .int .i64 v]] w fun x w' => x = .returned (.bool (fil ⟨o, p, l⟩ u v)) ∧ Below w.heap.size w w' := by
  obtain ⟨W0, hW0⟩ : ∃ W0, (w.alloc (.cells #[.int .i64 o, .int .i64 p, .slice A n cp] 24)).alloc (.cells #[.int .i64 u, .int .i64 v] 35) = W0 := ⟨_, rfl⟩
  have F0 : Hid (Fx w W0 w.heap.size o p A n cp l) := Lib.hid (by rw [← hW0]; exact (Fx.new _ _ h.out).alloc _)
  have U0 : Hid (Sb W0 (w.heap.size + 1) u v) := Lib.hid (by rw [← hW0]; have := Sb.new (w.alloc (.cells #[.int .i64 o, .int .i64 p, .slice A n cp] 24)) u v 35; simpa using this)
  have HW0 := Lib.hid hW0
  clear hW0
  obtain ⟨z0, c0, c1, c2⟩ := F0.out.bx
  obtain ⟨t0, e0, e1, _, _⟩ := U0.out
  have nb := V.out.nr_bd (x := u) (by omega) (by omega)
  obtain ⟨n0, hi⟩ : ∃ i, nr ⟨o, p, l⟩ u = i := ⟨_, rfl⟩
  rw [hi] at nb
  have HI := Lib.hid hi
  clear hi
  go_enter Try.func73, Try.ntmps73
  go_wp2_with fail
  rw [HW0.out]
  go_at_call 21
  refine (rNear_at _ (Fx.hsr F0) V (by omega) (by omega) HI).mono ?_
  rintro e w1 ⟨rfl, b1⟩
  have F1 := Lib.hid (F0.out.step b1)
  have U1 := Lib.hid (U0.out.below b1)
  clear c0 c1 c2 z0 t0 e0 e1
  obtain ⟨z0, c0, c1, c2⟩ := F1.out.bx
  obtain ⟨t0, e0, e1, _, _⟩ := U1.out
  go_wp2_with fail
  go_loopw [5, 6] (fun nv av wq => ∃ (i : Nat) (q x : Int), nv = .int .i64 x ∧ av = .int .i64 q ∧ Hid (Below w1.heap.size w1 wq) ∧ Hid (Fs ⟨o, p, l⟩ u n0 v i q x)) (fun _ a _ => (v - intOf a).toNat)
  case atStart => exact ⟨0, u, n0, rfl, rfl, Lib.hid (Below.refl _ _), Lib.hid ⟨Fok.zero _ _ _ _, HI.out, rfl, by simp⟩⟩
  case round =>
    obtain ⟨i, q, x, rfl, rfl, bq, FS⟩ := hrel
    have F2 := Lib.hid (F1.out.step bq.out)
    have U2 := Lib.hid (U1.out.below bq.out)
    clear c0 c1 c2 z0 t0 e0 e1
    obtain ⟨z0, c0, c1, c2⟩ := F2.out.bx
    obtain ⟨t0, e0, e1, _, _⟩ := U2.out
    by_cases hq : q < v
    · have ⟨BK, GK⟩ := FS.out.bk V.out (by omega) (by omega) (by omega)
      have k1 := BK.k1
      have k2 := BK.k2
      have GK' := Lib.hid GK
      obtain ⟨⟨a', b'⟩, hab⟩ : ∃ s, pl ⟨o, p, l⟩ x = s := ⟨_, rfl⟩
      have HP := Lib.hid hab
      have lt' : a' < b' := by have := V.out.pl_lt x; rw [hab] at this; exact this
      clear hab BK GK
      by_cases he : a' = q
      · subst he
        have N := Lib.hid (FS.out.next HP.out hq rfl)
        go_wp2_with fail
        go_at_call 28
        refine (rGran_at _ (Fx.hsr F2) V (by omega) (by omega) GK' HP).mono ?_
        rintro e w3 ⟨rfl, b3⟩
        have F3 := Lib.hid (F2.out.step b3)
        have U3 := Lib.hid (U2.out.below b3)
        clear c0 c1 c2 z0 t0 e0 e1
        obtain ⟨z0, c0, c1, c2⟩ := F3.out.bx
        obtain ⟨t0, e0, e1, _, _⟩ := U3.out
        have b4 : Below w3.heap.size w3 (w3.alloc (.cells #[.int .i64 a', .int .i64 b'] 35)) := bal _ _
        have bq4 := Lib.hid (bel_step (bel_step bq.out b3 (Nat.le_refl _)) b4 (Nat.le_refl _))
        have F4 := Lib.hid (F3.out.step b4)
        go_wp2_with fail
        go_roundw
        case rel => exact ⟨i + 1, b', x + 1, rfl, rfl, bq4, N⟩
        case measure => simp [intOf]; omega
      · have R : Hid (fil ⟨o, p, l⟩ u v = false) := Lib.hid (FS.out.bad HP.out hq he)
        have he' : (a' != q) = true := by simpa using he
        go_wp2_with fail
        go_at_call 28
        refine (rGran_at _ (Fx.hsr F2) V (by omega) (by omega) GK' HP).mono ?_
        rintro e w3 ⟨rfl, b3⟩
        have F3 := Lib.hid (F2.out.step b3)
        have U3 := Lib.hid (U2.out.below b3)
        clear c0 c1 c2 z0 t0 e0 e1
        obtain ⟨z0, c0, c1, c2⟩ := F3.out.bx
        obtain ⟨t0, e0, e1, _, _⟩ := U3.out
        have b4 : Below w3.heap.size w3 (w3.alloc (.cells #[.int .i64 a', .int .i64 b'] 35)) := bal _ _
        have bq4 := Lib.hid (bel_step (bel_step bq.out b3 (Nat.le_refl _)) b4 (Nat.le_refl _))
        have F4 := Lib.hid (F3.out.step b4)
        go_wp2_with fail
        go_ret
        exact ⟨ret_bool R.out.symm, F4.out.bel⟩
    · by_cases he : q = v
      · subst he
        have R : Hid (fil ⟨o, p, l⟩ u q = true) := Lib.hid (FS.out.done V.out (by omega))
        go_wp2_with fail
        go_ret
        exact ⟨ret_bool (by rw [R.out]), F2.out.bel⟩
      · have R : Hid (fil ⟨o, p, l⟩ u v = false) := Lib.hid (FS.out.past (by omega))
        have he' : (q == v) = false := by simpa using he
        go_wp2_with fail
        go_ret
        exact ⟨ret_bool (by rw [R.out]), F2.out.bel⟩
theorem rdivided_at {A : Option Addr} {n cp : Nat} {o p : Int} {l : List (Int × Int)} {u v : Int} {b : Bool} (w : World) (h : Hid (Sr w A n cp l)) (V : Hid (Vc ⟨o, p, l⟩)) (u1 : -4410669291904 ≤ u) (uv : u < v) (v1 : v ≤ 4410669291904) (hb : Hid (fil ⟨o, p, l⟩ u v = b)) :
    Calls Try.prog 73 #[.agg #[.int .i64 o, .int .i64 p, .slice A n cp], .agg #[.int .i64 u, .int .i64 v]] w fun x w' => x = .returned (.bool b) ∧ Below w.heap.size w w' := by
  have := rdivided_any w h V u1 uv v1
  rw [hb.out] at this; exact this
set_option maxRecDepth 20000 in
set_option maxHeartbeats 6400000 in
theorem rDivides_bad {A B : Option Addr} {n cp m cq : Nat} {o p r s : Int} {l g : List (Int × Int)}  (w : World) (h : Hid (Sr w A n cp l)) (k : Hid (Sr w B m cq g)) (hb : Hid ((vld ⟨o, p, l⟩ && vld ⟨r, s, g⟩) = false)) :
    Calls Try.prog 42 #[.agg #[.int .i64 o, .int .i64 p, .slice A n cp], .agg #[.int .i64 r, .int .i64 s, .slice B m cq]] w fun x w' => x = .returned (.tuple #[.bool false, .int .i64 1]) ∧ Below w.heap.size w w' := by
  obtain ⟨W0, hW0⟩ : ∃ W0, (w.alloc (.cells #[.int .i64 o, .int .i64 p, .slice A n cp] 24)).alloc (.cells #[.int .i64 r, .int .i64 s, .slice B m cq] 24) = W0 := ⟨_, rfl⟩
  have F0 : Hid (Fx w W0 w.heap.size o p A n cp l) := Lib.hid (by rw [← hW0]; exact (Fx.new _ _ h.out).alloc _)
  have G0 : Hid (Fx w W0 (w.heap.size + 1) r s B m cq g) := Lib.hid (by rw [← hW0]; exact Fx.new2 _ _ _ k.out)
  have HW0 := Lib.hid hW0
  clear hW0
  obtain ⟨z0, c0, c1, c2⟩ := F0.out.bx
  obtain ⟨y0, d0, d1, d2⟩ := G0.out.bx
  rcases ha : vld ⟨o, p, l⟩ with _ | _
  all_goals replace ha := Lib.hid ha
  · go_enter Try.func42, Try.ntmps42
    go_wp2_with fail
    rw [HW0.out]
    go_at_call 13
    refine (rValid_at _ (Fx.hsr F0) ha).mono ?_
    rintro e w1 ⟨rfl, b1⟩
    have F1 := Lib.hid (F0.out.step b1)
    have G1 := Lib.hid (G0.out.step b1)
    clear c0 c1 c2 z0 d0 d1 d2 y0
    obtain ⟨z0, c0, c1, c2⟩ := F1.out.bx
    obtain ⟨y0, d0, d1, d2⟩ := G1.out.bx
    go_wp2_with fail
    go_ret2
    exact ⟨rfl, F1.out.bel⟩
  · have hb' : Hid (vld ⟨r, s, g⟩ = false) := Lib.hid (by have := hb.out; rw [ha.out] at this; simpa using this)
    go_enter Try.func42, Try.ntmps42
    go_wp2_with fail
    rw [HW0.out]
    go_at_call 13
    refine (rValid_at _ (Fx.hsr F0) ha).mono ?_
    rintro e w1 ⟨rfl, b1⟩
    have F1 := Lib.hid (F0.out.step b1)
    have G1 := Lib.hid (G0.out.step b1)
    clear c0 c1 c2 z0 d0 d1 d2 y0
    obtain ⟨z0, c0, c1, c2⟩ := F1.out.bx
    obtain ⟨y0, d0, d1, d2⟩ := G1.out.bx
    go_wp2_with fail
    go_at_call 13
    refine (rValid_at _ (Fx.hsr G1) hb').mono ?_
    rintro e w2 ⟨rfl, b2⟩
    have F2 := Lib.hid (F1.out.step b2)
    have G2 := Lib.hid (G1.out.step b2)
    clear c0 c1 c2 z0 d0 d1 d2 y0
    obtain ⟨z0, c0, c1, c2⟩ := F2.out.bx
    obtain ⟨y0, d0, d1, d2⟩ := G2.out.bx
    go_wp2_with fail
    go_ret2
    exact ⟨rfl, F2.out.bel⟩
set_option maxRecDepth 20000 in
set_option maxHeartbeats 6400000 in
theorem rDivides_err {A B : Option Addr} {n cp m cq : Nat} {o p r s : Int} {l g : List (Int × Int)} {z e : Int} (w : World) (h : Hid (Sr w A n cp l)) (k : Hid (Sr w B m cq g)) (hv : Hid (vld ⟨o, p, l⟩ = true)) (kv : Hid (vld ⟨r, s, g⟩ = true)) (hp : Hid (prr ⟨o, p, l⟩ ⟨r, s, g⟩ = (z, e))) (he : Hid (e ≠ 0)) :
    Calls Try.prog 42 #[.agg #[.int .i64 o, .int .i64 p, .slice A n cp], .agg #[.int .i64 r, .int .i64 s, .slice B m cq]] w fun x w' => x = .returned (.tuple #[.bool false, .int .i64 e]) ∧ Below w.heap.size w w' := by
  obtain ⟨W0, hW0⟩ : ∃ W0, (w.alloc (.cells #[.int .i64 o, .int .i64 p, .slice A n cp] 24)).alloc (.cells #[.int .i64 r, .int .i64 s, .slice B m cq] 24) = W0 := ⟨_, rfl⟩
  have F0 : Hid (Fx w W0 w.heap.size o p A n cp l) := Lib.hid (by rw [← hW0]; exact (Fx.new _ _ h.out).alloc _)
  have G0 : Hid (Fx w W0 (w.heap.size + 1) r s B m cq g) := Lib.hid (by rw [← hW0]; exact Fx.new2 _ _ _ k.out)
  have HW0 := Lib.hid hW0
  clear hW0
  obtain ⟨z0, c0, c1, c2⟩ := F0.out.bx
  obtain ⟨y0, d0, d1, d2⟩ := G0.out.bx
  have hp2 : Hid (prr2 ⟨o, p, l⟩ ⟨r, s, g⟩ = (0, e)) := Lib.hid (by rw [prr2_of hp.out, if_neg he.out])
  have he' : (e != 0) = true := by simpa using he.out
  go_enter Try.func42, Try.ntmps42
  go_wp2_with fail
  rw [HW0.out]
  go_at_call 13
  refine (rValid_at _ (Fx.hsr F0) hv).mono ?_
  rintro e w1 ⟨rfl, b1⟩
  have F1 := Lib.hid (F0.out.step b1)
  have G1 := Lib.hid (G0.out.step b1)
  clear c0 c1 c2 z0 d0 d1 d2 y0
  obtain ⟨z0, c0, c1, c2⟩ := F1.out.bx
  obtain ⟨y0, d0, d1, d2⟩ := G1.out.bx
  go_wp2_with fail
  go_at_call 13
  refine (rValid_at _ (Fx.hsr G1) kv).mono ?_
  rintro e w2 ⟨rfl, b2⟩
  have F2 := Lib.hid (F1.out.step b2)
  have G2 := Lib.hid (G1.out.step b2)
  clear c0 c1 c2 z0 d0 d1 d2 y0
  obtain ⟨z0, c0, c1, c2⟩ := F2.out.bx
  obtain ⟨y0, d0, d1, d2⟩ := G2.out.bx
  go_wp2_with fail
  go_at_call 72
  refine (rPair_at _ (Fx.hsr F2) (Fx.hsr G2) hv kv hp2).mono ?_
  rintro e w3 ⟨rfl, b3⟩
  have F3 := Lib.hid (F2.out.step b3)
  have G3 := Lib.hid (G2.out.step b3)
  clear c0 c1 c2 z0 d0 d1 d2 y0
  obtain ⟨z0, c0, c1, c2⟩ := F3.out.bx
  obtain ⟨y0, d0, d1, d2⟩ := G3.out.bx
  go_wp2_with fail
  go_ret2
  exact ⟨rfl, F3.out.bel⟩
set_option maxRecDepth 20000 in
set_option maxHeartbeats 6400000 in
theorem rDivides_ok {A B : Option Addr} {n cp m cq : Nat} {o p r s : Int} {l g : List (Int × Int)} {z qa qb : Int} (w : World) (h : Hid (Sr w A n cp l)) (k : Hid (Sr w B m cq g)) (hv : Hid (vld ⟨o, p, l⟩ = true)) (kv : Hid (vld ⟨r, s, g⟩ = true)) (cp0 : Hid (Cp ⟨o, p, l⟩ ⟨r, s, g⟩ z qa qb)) (hp : Hid (prr ⟨o, p, l⟩ ⟨r, s, g⟩ = (z, 0))) (K K2 : Nat) (hK : qa * (l.length : Int) = (K : Int)) (hK2 : qb * (g.length : Int) = (K2 : Int)) (K5 : K ≤ 5000) (K25 : K2 ≤ 5000) :
    Calls Try.prog 42 #[.agg #[.int .i64 o, .int .i64 p, .slice A n cp], .agg #[.int .i64 r, .int .i64 s, .slice B m cq]] w fun x w' => x = .returned (.tuple #[.bool (divB ⟨o, p, l⟩ ⟨r, s, g⟩ K2), .int .i64 0]) ∧ Below w.heap.size w w' := by
  have V := hVc hv
  have V2 := hVc kv
  have hl := Lib.hid h.out.len
  have kl := Lib.hid k.out.len
  have hnc := h.out.nc
  have knc := k.out.nc
  have hc63 := h.out.c63
  have kc63 := k.out.c63
  have n1 : 1 ≤ n := by have : 1 ≤ l.length := V.out.n1; have := hl.out; omega
  have n2 : n ≤ 5000 := by have : l.length ≤ 5000 := V.out.n2; have := hl.out; omega
  have m1 : 1 ≤ m := by have : 1 ≤ g.length := V2.out.n1; have := kl.out; omega
  have m2 : m ≤ 5000 := by have : g.length ≤ 5000 := V2.out.n2; have := kl.out; omega
  have p1 : 1 ≤ p := V.out.p1
  have p2 : p ≤ 12622780800 := V.out.p2
  have s1 : 1 ≤ s := V2.out.p1
  have s2 : s ≤ 12622780800 := V2.out.p2
  obtain ⟨W0, hW0⟩ : ∃ W0, (w.alloc (.cells #[.int .i64 o, .int .i64 p, .slice A n cp] 24)).alloc (.cells #[.int .i64 r, .int .i64 s, .slice B m cq] 24) = W0 := ⟨_, rfl⟩
  have F0 : Hid (Fx w W0 w.heap.size o p A n cp l) := Lib.hid (by rw [← hW0]; exact (Fx.new _ _ h.out).alloc _)
  have G0 : Hid (Fx w W0 (w.heap.size + 1) r s B m cq g) := Lib.hid (by rw [← hW0]; exact Fx.new2 _ _ _ k.out)
  have HW0 := Lib.hid hW0
  clear hW0
  obtain ⟨z0, c0, c1, c2⟩ := F0.out.bx
  obtain ⟨y0, d0, d1, d2⟩ := G0.out.bx
  have p0 : p ≠ 0 := by omega
  have p0' : (p == 0) = false := by simp; omega
  have pm : (p == -1) = false := by simp; omega
  have s0 : s ≠ 0 := by omega
  have s0' : (s == 0) = false := by simp; omega
  have sm : (s == -1) = false := by simp; omega
  have z1 := cp0.out.m1
  have z2 := cp0.out.m2
  have a1' := cp0.out.a1
  have b1' := cp0.out.b1
  have a2' := cp0.out.a2
  have b2' := cp0.out.b2
  have da : z / p = qa := cp0.out.da
  have db : z / s = qb := cp0.out.db
  have ta : z.tdiv p = qa := by rw [Int.tdiv_eq_ediv_of_nonneg (by omega)]; exact da
  have tb : z.tdiv s = qb := by rw [Int.tdiv_eq_ediv_of_nonneg (by omega)]; exact db
  rw [← hl.out] at hK
  rw [← kl.out] at hK2
  have hp2 : Hid (prr2 ⟨o, p, l⟩ ⟨r, s, g⟩ = (z, 0)) := Lib.hid (by rw [prr2_of hp.out, if_pos rfl])
  go_enter Try.func42, Try.ntmps42
  go_wp2_with fail
  rw [HW0.out]
  go_at_call 13
  refine (rValid_at _ (Fx.hsr F0) hv).mono ?_
  rintro e w1 ⟨rfl, b1⟩
  have F1 := Lib.hid (F0.out.step b1)
  have G1 := Lib.hid (G0.out.step b1)
  clear c0 c1 c2 z0 d0 d1 d2 y0
  obtain ⟨z0, c0, c1, c2⟩ := F1.out.bx
  obtain ⟨y0, d0, d1, d2⟩ := G1.out.bx
  go_wp2_with fail
  go_at_call 13
  refine (rValid_at _ (Fx.hsr G1) kv).mono ?_
  rintro e w2 ⟨rfl, b2⟩
  have F2 := Lib.hid (F1.out.step b2)
  have G2 := Lib.hid (G1.out.step b2)
  clear c0 c1 c2 z0 d0 d1 d2 y0
  obtain ⟨z0, c0, c1, c2⟩ := F2.out.bx
  obtain ⟨y0, d0, d1, d2⟩ := G2.out.bx
  go_wp2_with fail
  go_at_call 72
  refine (rPair_at _ (Fx.hsr F2) (Fx.hsr G2) hv kv hp2).mono ?_
  rintro e w3 ⟨rfl, b3⟩
  have F3 := Lib.hid (F2.out.step b3)
  have G3 := Lib.hid (G2.out.step b3)
  clear c0 c1 c2 z0 d0 d1 d2 y0
  obtain ⟨z0, c0, c1, c2⟩ := F3.out.bx
  obtain ⟨y0, d0, d1, d2⟩ := G3.out.bx
  go_wp2_with fail
  go_loopw [8] (fun iv wr => ∃ j : Nat, j ≤ K2 ∧ iv = .int .i64 j ∧ Hid (Below w3.heap.size w3 wr) ∧ Hid (∀ k : Nat, k < j → fil ⟨o, p, l⟩ (pl ⟨r, s, g⟩ k).1 (pl ⟨r, s, g⟩ k).2 = true)) (fun i _ => (K2 - intOf i).toNat)
  case atStart => exact ⟨0, by omega, rfl, Lib.hid (Below.refl _ _), Lib.hid fun k hk => by omega⟩
  case round =>
    obtain ⟨j, hj, rfl, bw, hpre⟩ := hrel
    have F4 := Lib.hid (F3.out.step bw.out)
    have G4 := Lib.hid (G3.out.step bw.out)
    clear c0 c1 c2 z0 d0 d1 d2 y0
    obtain ⟨z0, c0, c1, c2⟩ := F4.out.bx
    obtain ⟨y0, d0, d1, d2⟩ := G4.out.bx
    by_cases hlt : j < K2
    · obtain ⟨u, v, rg⟩ := rg_of2 (k := (j : Int)) V2.out cp0.out (by omega) (by show (j : Int) < qb * (g.length : Int); rw [← kl.out, hK2]; omega)
      have RG := Lib.hid rg
      have u1 := rg.u1
      have v1 := rg.v1
      have uv := rg.lt
      have jlt : decide ((j : Int) < (K2 : Int)) = true := by simp; omega
      have GK : Hid (grk ⟨r, s, g⟩ (j : Int) = true) := Lib.hid (V2.out.grk_rch RG.out.r)
      obtain ⟨b, hf⟩ : ∃ b, fil ⟨o, p, l⟩ u v = b := ⟨_, rfl⟩
      have HF := Lib.hid hf
      have HU : Hid (fil ⟨o, p, l⟩ (pl ⟨r, s, g⟩ (j : Int)).1 (pl ⟨r, s, g⟩ (j : Int)).2 = b) := Lib.hid (by rw [RG.out.p]; exact hf)
      clear rg hf
      go_wp2_with fail
      have hS := Abv.cells wr
      refine wp_region_abv (by kernel_rfl) (by kernel_rfl) ?_
      repeat (go_big_quiet_step ((fail)))
      refine wpQuiet_nil ?_
      rintro w5 hw5
      clear hS
      have b5 := hw5
      have F5 := Lib.hid (F4.out.step b5)
      have G5 := Lib.hid (G4.out.step b5)
      clear c0 c1 c2 z0 d0 d1 d2 y0
      obtain ⟨z0, c0, c1, c2⟩ := F5.out.bx
      obtain ⟨y0, d0, d1, d2⟩ := G5.out.bx
      go_wp2_with fail
      go_at_call 28
      refine (rGran_at _ (Fx.hsr G5) V2 (by omega) (by omega) GK (Lib.hid RG.out.p)).mono ?_
      rintro e w6 ⟨rfl, b6⟩
      have F6 := Lib.hid (F5.out.step b6)
      have G6 := Lib.hid (G5.out.step b6)
      clear c0 c1 c2 z0 d0 d1 d2 y0
      obtain ⟨z0, c0, c1, c2⟩ := F6.out.bx
      obtain ⟨y0, d0, d1, d2⟩ := G6.out.bx
      go_wp2_with fail
      obtain ⟨w7, hW⟩ : ∃ W, w6.alloc (.cells #[.int .i64 u, .int .i64 v] 35) = W := ⟨_, rfl⟩
      have b7 : Below w6.heap.size w6 w7 := hW ▸ bal _ _
      rw [hW]
      clear hW
      have F7 := Lib.hid (F6.out.step b7)
      have G7 := Lib.hid (G6.out.step b7)
      clear c0 c1 c2 z0 d0 d1 d2 y0
      obtain ⟨z0, c0, c1, c2⟩ := F7.out.bx
      obtain ⟨y0, d0, d1, d2⟩ := G7.out.bx
      go_at_call 73
      refine (rdivided_at _ (Fx.hsr F7) V (by omega) (by omega) (by omega) HF).mono ?_
      rintro e w8 ⟨rfl, b8⟩
      have bw8 := Lib.hid (bel_step (bel_step (bel_step (bel_step bw.out b5 (Nat.le_refl _)) b6 (Nat.le_refl _)) b7 (Nat.le_refl _)) b8 (Nat.le_refl _))
      have F8 := Lib.hid (F7.out.step b8)
      rcases b with _ | _
      · have R : Hid (divB ⟨o, p, l⟩ ⟨r, s, g⟩ K2 = false) := Lib.hid (divB_f hlt HU.out)
        go_wp2_with fail
        go_ret2
        exact ⟨ret_bi R.out.symm, F8.out.bel⟩
      · have HB := Lib.hid (divB_up hpre.out HU.out)
        go_wp2_with fail
        go_roundw
        case rel => exact ⟨j + 1, by omega, by go_num, bw8, HB⟩
        case measure => simp [intOf]; omega
    · obtain rfl : j = K2 := by omega
      have R : Hid (divB ⟨o, p, l⟩ ⟨r, s, g⟩ j = true) := Lib.hid (divB_t hpre.out)
      go_wp2_with fail
      have hS := Abv.cells wr
      refine wp_region_abv (by kernel_rfl) (by kernel_rfl) ?_
      repeat (go_big_quiet_step ((fail)))
      refine wpQuiet_nil ?_
      rintro w5 hw5
      clear hS
      have b5 := hw5
      have F5 := Lib.hid (F4.out.step b5)
      have G5 := Lib.hid (G4.out.step b5)
      clear c0 c1 c2 z0 d0 d1 d2 y0
      obtain ⟨z0, c0, c1, c2⟩ := F5.out.bx
      obtain ⟨y0, d0, d1, d2⟩ := G5.out.bx
      go_wp2_with fail
      go_ret2
      exact ⟨ret_bi R.out.symm, F5.out.bel⟩
end Go.Proofs.Ytainibnjpkbfpaa.Cv
