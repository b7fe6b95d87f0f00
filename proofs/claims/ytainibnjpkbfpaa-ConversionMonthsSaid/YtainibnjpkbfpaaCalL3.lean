/- The law: ConversionFinds. -/
import Derived.Test.YtainibnjpkbfpaaCalL2
namespace Go.Proofs.Ytainibnjpkbfpaa.Cv
set_option linter.unusedVariables false
set_option linter.unusedSimpArgs false
open Go.RowKit Wl

theorem lvalid_at {A B : Option Addr} {n cp m cq : Nat} {o p r s : Int} {l g : List (Int × Int)} {b : Bool} (w : World) (h : Hid (Sr w A n cp l)) (k : Hid (Sr w B m cq g)) (hb : Hid ((vld ⟨o, p, l⟩ && vld ⟨r, s, g⟩) = b)) :
    Calls Try.prog 26 #[.agg #[.int .i64 o, .int .i64 p, .slice A n cp], .agg #[.int .i64 r, .int .i64 s, .slice B m cq]] w fun e w' => e = .returned (.bool b) ∧ Below w.heap.size w w' := by
  obtain ⟨W0, hW0⟩ : ∃ W0, (w.alloc (.cells #[.int .i64 o, .int .i64 p, .slice A n cp] 24)).alloc (.cells #[.int .i64 r, .int .i64 s, .slice B m cq] 24) = W0 := ⟨_, rfl⟩
  have F0 : Hid (Fx w W0 w.heap.size o p A n cp l) := Lib.hid (by rw [← hW0]; exact (Fx.new _ _ h.out).alloc _)
  have G0 : Hid (Fx w W0 (w.heap.size + 1) r s B m cq g) := Lib.hid (by rw [← hW0]; exact Fx.new2 _ _ _ k.out)
  have HW0 := Lib.hid hW0
  clear hW0
  obtain ⟨z0, c0, c1, c2⟩ := F0.out.bx
  obtain ⟨y0, d0, d1, d2⟩ := G0.out.bx
  rcases ha : vld ⟨o, p, l⟩ with _ | _
  all_goals replace ha := Lib.hid ha
  · go_enter Try.func26, Try.ntmps26
    go_wp2_with fail
    rw [HW0.out]
    go_at_call 13
    refine (rValid_at _ (Fx.hsr F0) ha).mono ?_
    rintro e w1 ⟨rfl, b1⟩
    have F1 := Lib.hid (F0.out.step b1)
    have G1 := Lib.hid (G0.out.step b1)
    clear c0 c1 c2 z0 d0 d1 d2 y0
    obtain ⟨z0, c0, c1, c2⟩ := F1.out.bx
    obtain ⟨y0, d0, d1, d2⟩ := G1.out.bx
    go_wp2_with fail
    go_ret
    exact ⟨ret_bool (by rw [← hb.out, ha.out]; simp), F1.out.bel⟩
  · obtain ⟨vv, hvv⟩ : ∃ vv, vld ⟨r, s, g⟩ = vv := ⟨_, rfl⟩
    go_enter Try.func26, Try.ntmps26
    go_wp2_with fail
    rw [HW0.out]
    go_at_call 13
    refine (rValid_at _ (Fx.hsr F0) ha).mono ?_
    rintro e w1 ⟨rfl, b1⟩
    have F1 := Lib.hid (F0.out.step b1)
    have G1 := Lib.hid (G0.out.step b1)
    clear c0 c1 c2 z0 d0 d1 d2 y0
    obtain ⟨z0, c0, c1, c2⟩ := F1.out.bx
    obtain ⟨y0, d0, d1, d2⟩ := G1.out.bx
    go_wp2_with fail
    go_at_call 13
    refine (rValid_at _ (Fx.hsr G1) (Lib.hid hvv)).mono ?_
    rintro e w2 ⟨rfl, b2⟩
    have F2 := Lib.hid (F1.out.step b2)
    have G2 := Lib.hid (G1.out.step b2)
    clear c0 c1 c2 z0 d0 d1 d2 y0
    obtain ⟨z0, c0, c1, c2⟩ := F2.out.bx
    obtain ⟨y0, d0, d1, d2⟩ := G2.out.bx
    go_wp2_with fail
    go_ret
    exact ⟨ret_bool (by rw [← hb.out, ha.out, hvv]; simp), F2.out.bel⟩
theorem Place_at {A B : Option Addr} {n cp m cq : Nat} {o p r s : Int} {l g : List (Int × Int)} {x : Int} {i j : Int} {b : Bool} (w : World) (h : Hid (Sr w A n cp l)) (k : Hid (Sr w B m cq g)) (hv : Hid (vld ⟨o, p, l⟩ = true)) (kv : Hid (vld ⟨r, s, g⟩ = true)) (x1 : -9223372036854775808 ≤ x) (x2 : x ≤ 9223372036854775807) (hp : Hid (plc ⟨o, p, l⟩ ⟨r, s, g⟩ x = (i, j, b))) :
    Calls Try.prog 25 #[.agg #[.int .i64 o, .int .i64 p, .slice A n cp], .agg #[.int .i64 r, .int .i64 s, .slice B m cq], .int .i64 x] w fun q w' => q = .returned (.tuple #[.int .i64 i, .int .i64 j, .bool b]) ∧ Below w.heap.size w w' := by
  have := Place_any x w h k hv kv x1 x2
  rw [hp.out] at this; exact this
theorem Down_at {A B : Option Addr} {n cp m cq : Nat} {o p r s : Int} {l g : List (Int × Int)} {x : Int} {i j : Int} (w : World) (h : Hid (Sr w A n cp l)) (k : Hid (Sr w B m cq g)) (hv : Hid (vld ⟨o, p, l⟩ = true)) (kv : Hid (vld ⟨r, s, g⟩ = true)) (x1 : -9223372036854775808 ≤ x) (x2 : x ≤ 9223372036854775807) (hr : Hid (rch ⟨r, s, g⟩ x = true)) (hp : Hid (ins ⟨o, p, l⟩ (pl ⟨r, s, g⟩ x) = (i, j))) :
    Calls Try.prog 23 #[.agg #[.int .i64 o, .int .i64 p, .slice A n cp], .agg #[.int .i64 r, .int .i64 s, .slice B m cq], .int .i64 x] w fun q w' => q = .returned (.tuple #[.int .i64 i, .int .i64 j, .int .i64 0]) ∧ Below w.heap.size w w' := by
  have := Down_any x w h k hv kv x1 x2 hr
  rw [hp.out] at this; exact this
theorem Covering_at {A B : Option Addr} {n cp m cq : Nat} {o p r s : Int} {l g : List (Int × Int)} {x : Int} {i j : Int} (w : World) (h : Hid (Sr w A n cp l)) (k : Hid (Sr w B m cq g)) (hv : Hid (vld ⟨o, p, l⟩ = true)) (kv : Hid (vld ⟨r, s, g⟩ = true)) (x1 : -9223372036854775808 ≤ x) (x2 : x ≤ 9223372036854775807) (hr : Hid (rch ⟨r, s, g⟩ x = true)) (hp : Hid (cvr ⟨o, p, l⟩ (pl ⟨r, s, g⟩ x) = (i, j))) :
    Calls Try.prog 24 #[.agg #[.int .i64 o, .int .i64 p, .slice A n cp], .agg #[.int .i64 r, .int .i64 s, .slice B m cq], .int .i64 x] w fun q w' => q = .returned (.tuple #[.int .i64 i, .int .i64 j, .int .i64 0]) ∧ Below w.heap.size w w' := by
  have := Covering_any x w h k hv kv x1 x2 hr
  rw [hp.out] at this; exact this
theorem rUp_at {A B : Option Addr} {n cp m cq : Nat} {o p r s : Int} {l g : List (Int × Int)} {x : Int} {i : Int} {b : Bool} (w : World) (h : Hid (Sr w A n cp l)) (k : Hid (Sr w B m cq g)) (hv : Hid (vld ⟨o, p, l⟩ = true)) (kv : Hid (vld ⟨r, s, g⟩ = true)) (x1 : -9223372036854775808 ≤ x) (x2 : x ≤ 9223372036854775807) (hp : Hid (upv ⟨o, p, l⟩ ⟨r, s, g⟩ x = (i, b))) :
    Calls Try.prog 27 #[.agg #[.int .i64 o, .int .i64 p, .slice A n cp], .agg #[.int .i64 r, .int .i64 s, .slice B m cq], .int .i64 x] w fun q w' => q = .returned (.tuple #[.int .i64 i, .bool b]) ∧ Below w.heap.size w w' := by
  have := rUp_any x w h k (hVc hv) (hVc kv) x1 x2
  rw [hp.out] at this; exact this
theorem rCovering_at {A : Option Addr} {n cp : Nat} {o p : Int} {l : List (Int × Int)} {x y f z : Int} (w : World) (h : Hid (Sr w A n cp l)) (hv : Hid (vld ⟨o, p, l⟩ = true)) (hxy : x < y) (x1 : -4410669291904 ≤ x) (y2 : y ≤ 4410669291904) (hi : Hid (cvr ⟨o, p, l⟩ (x, y) = (f, z))) :
    Calls Try.prog 30 #[.agg #[.int .i64 o, .int .i64 p, .slice A n cp], .agg #[.int .i64 x, .int .i64 y]] w fun e w' => e = .returned (.tuple #[.int .i64 f, .int .i64 z]) ∧ Below w.heap.size w w' := by
  have := rCovering_any x y w h (hVc hv) hxy x1 y2
  rw [hi.out] at this; exact this
/-- Where a granule of a lies in one of b: its place there. -/
theorem place_facts {a b : Cal} (ha : Vc a) (hb : Vc b) {k i : Int} (hu : upv a b k = (i, true)) : ∃ u v f n, pl b i = (u, v) ∧ u < v ∧ grk b i = true ∧ -4410669291904 ≤ u ∧ v ≤ 4410669291904 ∧ ins a (u, v) = (f, n) ∧ plc a b k = (i, k - f + 1, true) ∧ 1 ≤ k - f + 1 ∧ k - f + 1 ≤ n ∧
    -1125899906842624 ≤ f ∧ f ≤ 1125899906842625 ∧ -1125899906842624 ≤ k ∧ k ≤ 1125899906842624 ∧ -1125899906842624 ≤ i ∧ i ≤ 1125899906842624 := by
  obtain ⟨h1, h2, h3⟩ := upv_t hu
  have hr := rch_p h1
  have kb := ha.bk_rch h1
  have gk := hb.grk_nr (x := (pl a k).1) (by have := ha.pl_lt k; omega) (by have := ha.pl_lt k; omega)
  have ib := hb.bk_nr (x := (pl a k).1) (by have := ha.pl_lt k; omega) (by have := ha.pl_lt k; omega)
  have nl := hb.nr_lo (pl a k).1
  have nh := (hb.near (pl a k).1).1
  have ll := hb.len_le i
  have lt := hb.pl_lt i
  rw [h3] at gk ib nl nh
  have p2 := hb.p2
  have al := ha.pl_lt k
  obtain ⟨a1, a2⟩ := ha.near ((pl b i).1 - 1)
  obtain ⟨e1, e2⟩ := ha.ends (pl b i).2
  have f1 : nr a ((pl b i).1 - 1) + 1 ≤ k := by
    rcases Int.lt_or_le k (nr a ((pl b i).1 - 1) + 1) with h | h
    · rcases Int.lt_or_le k (nr a ((pl b i).1 - 1)) with h' | h'
      · have := ha.pl_lt1 h'; omega
      · rw [show k = nr a ((pl b i).1 - 1) by omega] at nh; omega
    · exact h
  have f2 : k ≤ en a (pl b i).2 := by
    rcases Int.lt_or_le (en a (pl b i).2) k with h | h
    · rcases Int.lt_or_le (en a (pl b i).2 + 1) k with h' | h'
      · have := ha.pl_le h'; omega
      · rw [show k = en a (pl b i).2 + 1 by omega] at h2; omega
    · exact h
  have hi : ins a (pl b i) = (nr a ((pl b i).1 - 1) + 1, en a (pl b i).2 - (nr a ((pl b i).1 - 1) + 1) + 1) := by
    unfold ins; exact cnt2_yes (by omega)
  have fb := ha.nr_bd (x := (pl b i).1 - 1) (by omega) (by omega)
  refine ⟨(pl b i).1, (pl b i).2, nr a ((pl b i).1 - 1) + 1, en a (pl b i).2 - (nr a ((pl b i).1 - 1) + 1) + 1, rfl, lt, gk, by omega, by omega, hi, ?_, by omega, by omega, by omega, by omega, kb.k1, kb.k2, ib.k1, ib.k2⟩
  unfold plc; rw [hu]; rfl
set_option maxRecDepth 20000 in
set_option maxHeartbeats 12800000 in
theorem ConversionFinds_walk (o p : Int) (A : Option Addr) (n cp : Nat) (l : List (Int × Int)) (r s : Int) (B : Option Addr) (m cq : Nat) (g : List (Int × Int)) (x : Int) (w : World) (h : Hid (Sr w A n cp l)) (k : Hid (Sr w B m cq g)) (x1 : -9223372036854775808 ≤ x) (x2 : x ≤ 9223372036854775807) :
    Calls Try.prog 5 #[.agg #[.int .i64 o, .int .i64 p, .slice A n cp], .agg #[.int .i64 r, .int .i64 s, .slice B m cq], .int .i64 x] w fun e w' => e = .returned (.bool true) ∧ Below w.heap.size w w' := by
  obtain ⟨W0, hW0⟩ : ∃ W0, (w.alloc (.cells #[.int .i64 o, .int .i64 p, .slice A n cp] 24)).alloc (.cells #[.int .i64 r, .int .i64 s, .slice B m cq] 24) = W0 := ⟨_, rfl⟩
  have F0 : Hid (Fx w W0 w.heap.size o p A n cp l) := Lib.hid (by rw [← hW0]; exact (Fx.new _ _ h.out).alloc _)
  have G0 : Hid (Fx w W0 (w.heap.size + 1) r s B m cq g) := Lib.hid (by rw [← hW0]; exact Fx.new2 _ _ _ k.out)
  have HW0 := Lib.hid hW0
  clear hW0
  obtain ⟨z0, c0, c1, c2⟩ := F0.out.bx
  obtain ⟨y0, d0, d1, d2⟩ := G0.out.bx
  rcases hl : lng n with _ | _
  all_goals replace hl := Lib.hid hl
  · rcases hm : lng m with _ | _
    all_goals replace hm := Lib.hid hm
    · rcases hb : (vld ⟨o, p, l⟩ && vld ⟨r, s, g⟩) with _ | _
      all_goals replace hb := Lib.hid hb
      · go_enter Try.func5, Try.ntmps5
        go_wp2_with fail
        rw [HW0.out]
        go_at_call 10
        refine (awake_any _).mono ?_
        rintro e w1 ⟨rfl, b1⟩
        have F1 := Lib.hid (F0.out.step b1)
        have G1 := Lib.hid (G0.out.step b1)
        clear c0 c1 c2 z0 d0 d1 d2 y0
        obtain ⟨z0, c0, c1, c2⟩ := F1.out.bx
        obtain ⟨y0, d0, d1, d2⟩ := G1.out.bx
        go_wp2_with fail
        go_at_call 11
        refine (long_at o p _ hl).mono ?_
        rintro e w2 ⟨rfl, b2⟩
        have F2 := Lib.hid (F1.out.step b2)
        have G2 := Lib.hid (G1.out.step b2)
        clear c0 c1 c2 z0 d0 d1 d2 y0
        obtain ⟨z0, c0, c1, c2⟩ := F2.out.bx
        obtain ⟨y0, d0, d1, d2⟩ := G2.out.bx
        go_wp2_with fail
        go_at_call 11
        refine (long_at r s _ hm).mono ?_
        rintro e w3 ⟨rfl, b3⟩
        have F3 := Lib.hid (F2.out.step b3)
        have G3 := Lib.hid (G2.out.step b3)
        clear c0 c1 c2 z0 d0 d1 d2 y0
        obtain ⟨z0, c0, c1, c2⟩ := F3.out.bx
        obtain ⟨y0, d0, d1, d2⟩ := G3.out.bx
        go_wp2_with fail
        go_at_call 22
        refine (Up_bad x _ (Fx.hsr F3) (Fx.hsr G3) hb).mono ?_
        rintro e w4 ⟨rfl, b4⟩
        have F4 := Lib.hid (F3.out.step b4)
        have G4 := Lib.hid (G3.out.step b4)
        clear c0 c1 c2 z0 d0 d1 d2 y0
        obtain ⟨z0, c0, c1, c2⟩ := F4.out.bx
        obtain ⟨y0, d0, d1, d2⟩ := G4.out.bx
        go_wp2_with fail
        go_at_call 23
        refine (Down_bad x _ (Fx.hsr F4) (Fx.hsr G4) hb).mono ?_
        rintro e w5 ⟨rfl, b5⟩
        have F5 := Lib.hid (F4.out.step b5)
        have G5 := Lib.hid (G4.out.step b5)
        clear c0 c1 c2 z0 d0 d1 d2 y0
        obtain ⟨z0, c0, c1, c2⟩ := F5.out.bx
        obtain ⟨y0, d0, d1, d2⟩ := G5.out.bx
        go_wp2_with fail
        go_at_call 24
        refine (Covering_bad x _ (Fx.hsr F5) (Fx.hsr G5) hb).mono ?_
        rintro e w6 ⟨rfl, b6⟩
        have F6 := Lib.hid (F5.out.step b6)
        have G6 := Lib.hid (G5.out.step b6)
        clear c0 c1 c2 z0 d0 d1 d2 y0
        obtain ⟨z0, c0, c1, c2⟩ := F6.out.bx
        obtain ⟨y0, d0, d1, d2⟩ := G6.out.bx
        go_wp2_with fail
        go_at_call 25
        refine (Place_bad x _ (Fx.hsr F6) (Fx.hsr G6) hb).mono ?_
        rintro e w7 ⟨rfl, b7⟩
        have F7 := Lib.hid (F6.out.step b7)
        have G7 := Lib.hid (G6.out.step b7)
        clear c0 c1 c2 z0 d0 d1 d2 y0
        obtain ⟨z0, c0, c1, c2⟩ := F7.out.bx
        obtain ⟨y0, d0, d1, d2⟩ := G7.out.bx
        go_wp2_with fail
        go_at_call 26
        refine (lvalid_at _ (Fx.hsr F7) (Fx.hsr G7) hb).mono ?_
        rintro e w8 ⟨rfl, b8⟩
        have F8 := Lib.hid (F7.out.step b8)
        have G8 := Lib.hid (G7.out.step b8)
        clear c0 c1 c2 z0 d0 d1 d2 y0
        obtain ⟨z0, c0, c1, c2⟩ := F8.out.bx
        obtain ⟨y0, d0, d1, d2⟩ := G8.out.bx
        go_wp2_with fail
        go_ret
        exact ⟨rfl, F8.out.bel⟩
      · have hv : Hid (vld ⟨o, p, l⟩ = true) := Lib.hid (by have := hb.out; rw [Bool.and_eq_true] at this; exact this.1)
        have kv : Hid (vld ⟨r, s, g⟩ = true) := Lib.hid (by have := hb.out; rw [Bool.and_eq_true] at this; exact this.2)
        have V := hVc hv
        have V2 := hVc kv
        obtain ⟨⟨i, b⟩, hu⟩ : ∃ q, upv ⟨o, p, l⟩ ⟨r, s, g⟩ x = q := ⟨_, rfl⟩
        have HU := Lib.hid hu
        rcases b with _ | _
        · obtain rfl := upv_f hu
          have HPL : Hid (plc ⟨o, p, l⟩ ⟨r, s, g⟩ x = (0, 0, false)) := Lib.hid (by unfold plc; rw [hu]; rfl)
          clear hu
          rcases hr : rch ⟨r, s, g⟩ x with _ | _
          all_goals have HR := Lib.hid hr
          · have HZ : Hid (rz ⟨r, s, g⟩ x = (0, 0)) := Lib.hid (by unfold rz; rw [hr]; rfl)
            clear hr
            go_enter Try.func5, Try.ntmps5
            go_wp2_with fail
            rw [HW0.out]
            go_at_call 10
            refine (awake_any _).mono ?_
            rintro e w1 ⟨rfl, b1⟩
            have F1 := Lib.hid (F0.out.step b1)
            have G1 := Lib.hid (G0.out.step b1)
            clear c0 c1 c2 z0 d0 d1 d2 y0
            obtain ⟨z0, c0, c1, c2⟩ := F1.out.bx
            obtain ⟨y0, d0, d1, d2⟩ := G1.out.bx
            go_wp2_with fail
            go_at_call 11
            refine (long_at o p _ hl).mono ?_
            rintro e w2 ⟨rfl, b2⟩
            have F2 := Lib.hid (F1.out.step b2)
            have G2 := Lib.hid (G1.out.step b2)
            clear c0 c1 c2 z0 d0 d1 d2 y0
            obtain ⟨z0, c0, c1, c2⟩ := F2.out.bx
            obtain ⟨y0, d0, d1, d2⟩ := G2.out.bx
            go_wp2_with fail
            go_at_call 11
            refine (long_at r s _ hm).mono ?_
            rintro e w3 ⟨rfl, b3⟩
            have F3 := Lib.hid (F2.out.step b3)
            have G3 := Lib.hid (G2.out.step b3)
            clear c0 c1 c2 z0 d0 d1 d2 y0
            obtain ⟨z0, c0, c1, c2⟩ := F3.out.bx
            obtain ⟨y0, d0, d1, d2⟩ := G3.out.bx
            go_wp2_with fail
            go_at_call 22
            refine (Up_at _ (Fx.hsr F3) (Fx.hsr G3) hv kv x1 x2 HU).mono ?_
            rintro e w4 ⟨rfl, b4⟩
            have F4 := Lib.hid (F3.out.step b4)
            have G4 := Lib.hid (G3.out.step b4)
            clear c0 c1 c2 z0 d0 d1 d2 y0
            obtain ⟨z0, c0, c1, c2⟩ := F4.out.bx
            obtain ⟨y0, d0, d1, d2⟩ := G4.out.bx
            go_wp2_with fail
            go_at_call 23
            refine (Down_no x _ (Fx.hsr F4) (Fx.hsr G4) hv kv x1 x2 HR).mono ?_
            rintro e w5 ⟨rfl, b5⟩
            have F5 := Lib.hid (F4.out.step b5)
            have G5 := Lib.hid (G4.out.step b5)
            clear c0 c1 c2 z0 d0 d1 d2 y0
            obtain ⟨z0, c0, c1, c2⟩ := F5.out.bx
            obtain ⟨y0, d0, d1, d2⟩ := G5.out.bx
            go_wp2_with fail
            go_at_call 24
            refine (Covering_no x _ (Fx.hsr F5) (Fx.hsr G5) hv kv x1 x2 HR).mono ?_
            rintro e w6 ⟨rfl, b6⟩
            have F6 := Lib.hid (F5.out.step b6)
            have G6 := Lib.hid (G5.out.step b6)
            clear c0 c1 c2 z0 d0 d1 d2 y0
            obtain ⟨z0, c0, c1, c2⟩ := F6.out.bx
            obtain ⟨y0, d0, d1, d2⟩ := G6.out.bx
            go_wp2_with fail
            go_at_call 25
            refine (Place_at _ (Fx.hsr F6) (Fx.hsr G6) hv kv x1 x2 HPL).mono ?_
            rintro e w7 ⟨rfl, b7⟩
            have F7 := Lib.hid (F6.out.step b7)
            have G7 := Lib.hid (G6.out.step b7)
            clear c0 c1 c2 z0 d0 d1 d2 y0
            obtain ⟨z0, c0, c1, c2⟩ := F7.out.bx
            obtain ⟨y0, d0, d1, d2⟩ := G7.out.bx
            go_wp2_with fail
            go_at_call 26
            refine (lvalid_at _ (Fx.hsr F7) (Fx.hsr G7) hb).mono ?_
            rintro e w8 ⟨rfl, b8⟩
            have F8 := Lib.hid (F7.out.step b8)
            have G8 := Lib.hid (G7.out.step b8)
            clear c0 c1 c2 z0 d0 d1 d2 y0
            obtain ⟨z0, c0, c1, c2⟩ := F8.out.bx
            obtain ⟨y0, d0, d1, d2⟩ := G8.out.bx
            go_wp2_with fail
            go_at_call 27
            refine (rUp_at _ (Fx.hsr F8) (Fx.hsr G8) hv kv x1 x2 HU).mono ?_
            rintro e w9 ⟨rfl, b9⟩
            have F9 := Lib.hid (F8.out.step b9)
            have G9 := Lib.hid (G8.out.step b9)
            clear c0 c1 c2 z0 d0 d1 d2 y0
            obtain ⟨z0, c0, c1, c2⟩ := F9.out.bx
            obtain ⟨y0, d0, d1, d2⟩ := G9.out.bx
            go_wp2_with fail
            go_at_call 29
            refine (rReach_at _ (Fx.hsr G9) V2 x1 x2 HZ HR).mono ?_
            rintro e w10 ⟨rfl, b10⟩
            have F10 := Lib.hid (F9.out.step b10)
            have G10 := Lib.hid (G9.out.step b10)
            clear c0 c1 c2 z0 d0 d1 d2 y0
            obtain ⟨z0, c0, c1, c2⟩ := F10.out.bx
            obtain ⟨y0, d0, d1, d2⟩ := G10.out.bx
            go_wp2_with fail
            go_ret
            exact ⟨rfl, (F10.out.alloc (.cells #[.int .i64 0, .int .i64 0] 35)).bel⟩
          · have rr := rch_p hr
            have rl := V2.out.pl_lt x
            obtain ⟨⟨u2, v2⟩, hp2⟩ : ∃ q, pl ⟨r, s, g⟩ x = q := ⟨_, rfl⟩
            have HZ : Hid (rz ⟨r, s, g⟩ x = (u2, v2)) := Lib.hid (by rw [rz_t hr, hp2])
            rw [hp2] at rr rl
            have ua : -4398046511103 ≤ u2 := rr.1
            have ub : v2 ≤ 4398046511103 := rr.2
            have huv2 : u2 < v2 := rl
            obtain ⟨⟨fd, nd⟩, hd⟩ : ∃ q, ins ⟨o, p, l⟩ (u2, v2) = q := ⟨_, rfl⟩
            obtain ⟨⟨fc, nc⟩, hc⟩ : ∃ q, cvr ⟨o, p, l⟩ (u2, v2) = q := ⟨_, rfl⟩
            have HD2 := Lib.hid hd
            have HC2 := Lib.hid hc
            have HD : Hid (ins ⟨o, p, l⟩ (pl ⟨r, s, g⟩ x) = (fd, nd)) := Lib.hid (by rw [hp2, hd])
            have HC : Hid (cvr ⟨o, p, l⟩ (pl ⟨r, s, g⟩ x) = (fc, nc)) := Lib.hid (by rw [hp2, hc])
            clear hr rr rl hp2 hd hc
            go_enter Try.func5, Try.ntmps5
            go_wp2_with fail
            rw [HW0.out]
            go_at_call 10
            refine (awake_any _).mono ?_
            rintro e w1 ⟨rfl, b1⟩
            have F1 := Lib.hid (F0.out.step b1)
            have G1 := Lib.hid (G0.out.step b1)
            clear c0 c1 c2 z0 d0 d1 d2 y0
            obtain ⟨z0, c0, c1, c2⟩ := F1.out.bx
            obtain ⟨y0, d0, d1, d2⟩ := G1.out.bx
            go_wp2_with fail
            go_at_call 11
            refine (long_at o p _ hl).mono ?_
            rintro e w2 ⟨rfl, b2⟩
            have F2 := Lib.hid (F1.out.step b2)
            have G2 := Lib.hid (G1.out.step b2)
            clear c0 c1 c2 z0 d0 d1 d2 y0
            obtain ⟨z0, c0, c1, c2⟩ := F2.out.bx
            obtain ⟨y0, d0, d1, d2⟩ := G2.out.bx
            go_wp2_with fail
            go_at_call 11
            refine (long_at r s _ hm).mono ?_
            rintro e w3 ⟨rfl, b3⟩
            have F3 := Lib.hid (F2.out.step b3)
            have G3 := Lib.hid (G2.out.step b3)
            clear c0 c1 c2 z0 d0 d1 d2 y0
            obtain ⟨z0, c0, c1, c2⟩ := F3.out.bx
            obtain ⟨y0, d0, d1, d2⟩ := G3.out.bx
            go_wp2_with fail
            go_at_call 22
            refine (Up_at _ (Fx.hsr F3) (Fx.hsr G3) hv kv x1 x2 HU).mono ?_
            rintro e w4 ⟨rfl, b4⟩
            have F4 := Lib.hid (F3.out.step b4)
            have G4 := Lib.hid (G3.out.step b4)
            clear c0 c1 c2 z0 d0 d1 d2 y0
            obtain ⟨z0, c0, c1, c2⟩ := F4.out.bx
            obtain ⟨y0, d0, d1, d2⟩ := G4.out.bx
            go_wp2_with fail
            go_at_call 23
            refine (Down_at _ (Fx.hsr F4) (Fx.hsr G4) hv kv x1 x2 HR HD).mono ?_
            rintro e w5 ⟨rfl, b5⟩
            have F5 := Lib.hid (F4.out.step b5)
            have G5 := Lib.hid (G4.out.step b5)
            clear c0 c1 c2 z0 d0 d1 d2 y0
            obtain ⟨z0, c0, c1, c2⟩ := F5.out.bx
            obtain ⟨y0, d0, d1, d2⟩ := G5.out.bx
            go_wp2_with fail
            go_at_call 24
            refine (Covering_at _ (Fx.hsr F5) (Fx.hsr G5) hv kv x1 x2 HR HC).mono ?_
            rintro e w6 ⟨rfl, b6⟩
            have F6 := Lib.hid (F5.out.step b6)
            have G6 := Lib.hid (G5.out.step b6)
            clear c0 c1 c2 z0 d0 d1 d2 y0
            obtain ⟨z0, c0, c1, c2⟩ := F6.out.bx
            obtain ⟨y0, d0, d1, d2⟩ := G6.out.bx
            go_wp2_with fail
            go_at_call 25
            refine (Place_at _ (Fx.hsr F6) (Fx.hsr G6) hv kv x1 x2 HPL).mono ?_
            rintro e w7 ⟨rfl, b7⟩
            have F7 := Lib.hid (F6.out.step b7)
            have G7 := Lib.hid (G6.out.step b7)
            clear c0 c1 c2 z0 d0 d1 d2 y0
            obtain ⟨z0, c0, c1, c2⟩ := F7.out.bx
            obtain ⟨y0, d0, d1, d2⟩ := G7.out.bx
            go_wp2_with fail
            go_at_call 26
            refine (lvalid_at _ (Fx.hsr F7) (Fx.hsr G7) hb).mono ?_
            rintro e w8 ⟨rfl, b8⟩
            have F8 := Lib.hid (F7.out.step b8)
            have G8 := Lib.hid (G7.out.step b8)
            clear c0 c1 c2 z0 d0 d1 d2 y0
            obtain ⟨z0, c0, c1, c2⟩ := F8.out.bx
            obtain ⟨y0, d0, d1, d2⟩ := G8.out.bx
            go_wp2_with fail
            go_at_call 27
            refine (rUp_at _ (Fx.hsr F8) (Fx.hsr G8) hv kv x1 x2 HU).mono ?_
            rintro e w9 ⟨rfl, b9⟩
            have F9 := Lib.hid (F8.out.step b9)
            have G9 := Lib.hid (G8.out.step b9)
            clear c0 c1 c2 z0 d0 d1 d2 y0
            obtain ⟨z0, c0, c1, c2⟩ := F9.out.bx
            obtain ⟨y0, d0, d1, d2⟩ := G9.out.bx
            go_wp2_with fail
            go_at_call 29
            refine (rReach_at _ (Fx.hsr G9) V2 x1 x2 HZ HR).mono ?_
            rintro e w10 ⟨rfl, b10⟩
            have F10 := Lib.hid (F9.out.step b10)
            have G10 := Lib.hid (G9.out.step b10)
            clear c0 c1 c2 z0 d0 d1 d2 y0
            obtain ⟨z0, c0, c1, c2⟩ := F10.out.bx
            obtain ⟨y0, d0, d1, d2⟩ := G10.out.bx
            go_wp2_with fail
            obtain ⟨w11, hW⟩ : ∃ W, w10.alloc (.cells #[.int .i64 u2, .int .i64 v2] 35) = W := ⟨_, rfl⟩
            have b11 : Below w10.heap.size w10 w11 := hW ▸ bal _ _
            have Uz11 := Lib.hid (Sb.new w10 u2 v2 35)
            rw [hW] at Uz11 ⊢
            clear hW
            have F11 := Lib.hid (F10.out.step b11)
            have G11 := Lib.hid (G10.out.step b11)
            clear c0 c1 c2 z0 d0 d1 d2 y0
            obtain ⟨z0, c0, c1, c2⟩ := F11.out.bx
            obtain ⟨y0, d0, d1, d2⟩ := G11.out.bx
            obtain ⟨tz, ez0, ez1, _, _⟩ := Uz11.out
            go_at_call 20
            refine (rInside_at _ (Fx.hsr F11) hv huv2 (by omega) (by omega) HD2).mono ?_
            rintro e w12 ⟨rfl, b12⟩
            have F12 := Lib.hid (F11.out.step b12)
            have G12 := Lib.hid (G11.out.step b12)
            have Uz12 := Lib.hid (Uz11.out.below b12)
            clear c0 c1 c2 z0 d0 d1 d2 y0 tz ez0 ez1
            obtain ⟨z0, c0, c1, c2⟩ := F12.out.bx
            obtain ⟨y0, d0, d1, d2⟩ := G12.out.bx
            obtain ⟨tz, ez0, ez1, _, _⟩ := Uz12.out
            go_wp2_with fail
            go_at_call 30
            refine (rCovering_at _ (Fx.hsr F12) hv huv2 (by omega) (by omega) HC2).mono ?_
            rintro e w13 ⟨rfl, b13⟩
            have F13 := Lib.hid (F12.out.step b13)
            have G13 := Lib.hid (G12.out.step b13)
            have Uz13 := Lib.hid (Uz12.out.below b13)
            clear c0 c1 c2 z0 d0 d1 d2 y0 tz ez0 ez1
            obtain ⟨z0, c0, c1, c2⟩ := F13.out.bx
            obtain ⟨y0, d0, d1, d2⟩ := G13.out.bx
            obtain ⟨tz, ez0, ez1, _, _⟩ := Uz13.out
            go_wp2_with fail
            go_ret
            exact ⟨rfl, F13.out.bel⟩
        · obtain ⟨u, v, f, ni, hpi, huv, hgk, ua', ub', hi, hpl, k1', k2', f1', f2', xa, xb, ia, ib⟩ := place_facts V.out V2.out hu
          have HPI := Lib.hid hpi
          have HGK := Lib.hid hgk
          have HI := Lib.hid hi
          have HPL := Lib.hid hpl
          have g1 : (x - f + 1 != x - f + 1) = false := by simp
          have g2 : decide (x - f + 1 < 1) = false := by simp; omega
          have g3 : decide (x - f + 1 > ni) = false := by simp; omega
          clear hu hpi hgk hi hpl
          rcases hr : rch ⟨r, s, g⟩ x with _ | _
          all_goals have HR := Lib.hid hr
          · have HZ : Hid (rz ⟨r, s, g⟩ x = (0, 0)) := Lib.hid (by unfold rz; rw [hr]; rfl)
            clear hr
            go_enter Try.func5, Try.ntmps5
            go_wp2_with fail
            rw [HW0.out]
            go_at_call 10
            refine (awake_any _).mono ?_
            rintro e w1 ⟨rfl, b1⟩
            have F1 := Lib.hid (F0.out.step b1)
            have G1 := Lib.hid (G0.out.step b1)
            clear c0 c1 c2 z0 d0 d1 d2 y0
            obtain ⟨z0, c0, c1, c2⟩ := F1.out.bx
            obtain ⟨y0, d0, d1, d2⟩ := G1.out.bx
            go_wp2_with fail
            go_at_call 11
            refine (long_at o p _ hl).mono ?_
            rintro e w2 ⟨rfl, b2⟩
            have F2 := Lib.hid (F1.out.step b2)
            have G2 := Lib.hid (G1.out.step b2)
            clear c0 c1 c2 z0 d0 d1 d2 y0
            obtain ⟨z0, c0, c1, c2⟩ := F2.out.bx
            obtain ⟨y0, d0, d1, d2⟩ := G2.out.bx
            go_wp2_with fail
            go_at_call 11
            refine (long_at r s _ hm).mono ?_
            rintro e w3 ⟨rfl, b3⟩
            have F3 := Lib.hid (F2.out.step b3)
            have G3 := Lib.hid (G2.out.step b3)
            clear c0 c1 c2 z0 d0 d1 d2 y0
            obtain ⟨z0, c0, c1, c2⟩ := F3.out.bx
            obtain ⟨y0, d0, d1, d2⟩ := G3.out.bx
            go_wp2_with fail
            go_at_call 22
            refine (Up_at _ (Fx.hsr F3) (Fx.hsr G3) hv kv x1 x2 HU).mono ?_
            rintro e w4 ⟨rfl, b4⟩
            have F4 := Lib.hid (F3.out.step b4)
            have G4 := Lib.hid (G3.out.step b4)
            clear c0 c1 c2 z0 d0 d1 d2 y0
            obtain ⟨z0, c0, c1, c2⟩ := F4.out.bx
            obtain ⟨y0, d0, d1, d2⟩ := G4.out.bx
            go_wp2_with fail
            go_at_call 23
            refine (Down_no x _ (Fx.hsr F4) (Fx.hsr G4) hv kv x1 x2 HR).mono ?_
            rintro e w5 ⟨rfl, b5⟩
            have F5 := Lib.hid (F4.out.step b5)
            have G5 := Lib.hid (G4.out.step b5)
            clear c0 c1 c2 z0 d0 d1 d2 y0
            obtain ⟨z0, c0, c1, c2⟩ := F5.out.bx
            obtain ⟨y0, d0, d1, d2⟩ := G5.out.bx
            go_wp2_with fail
            go_at_call 24
            refine (Covering_no x _ (Fx.hsr F5) (Fx.hsr G5) hv kv x1 x2 HR).mono ?_
            rintro e w6 ⟨rfl, b6⟩
            have F6 := Lib.hid (F5.out.step b6)
            have G6 := Lib.hid (G5.out.step b6)
            clear c0 c1 c2 z0 d0 d1 d2 y0
            obtain ⟨z0, c0, c1, c2⟩ := F6.out.bx
            obtain ⟨y0, d0, d1, d2⟩ := G6.out.bx
            go_wp2_with fail
            go_at_call 25
            refine (Place_at _ (Fx.hsr F6) (Fx.hsr G6) hv kv x1 x2 HPL).mono ?_
            rintro e w7 ⟨rfl, b7⟩
            have F7 := Lib.hid (F6.out.step b7)
            have G7 := Lib.hid (G6.out.step b7)
            clear c0 c1 c2 z0 d0 d1 d2 y0
            obtain ⟨z0, c0, c1, c2⟩ := F7.out.bx
            obtain ⟨y0, d0, d1, d2⟩ := G7.out.bx
            go_wp2_with fail
            go_at_call 26
            refine (lvalid_at _ (Fx.hsr F7) (Fx.hsr G7) hb).mono ?_
            rintro e w8 ⟨rfl, b8⟩
            have F8 := Lib.hid (F7.out.step b8)
            have G8 := Lib.hid (G7.out.step b8)
            clear c0 c1 c2 z0 d0 d1 d2 y0
            obtain ⟨z0, c0, c1, c2⟩ := F8.out.bx
            obtain ⟨y0, d0, d1, d2⟩ := G8.out.bx
            go_wp2_with fail
            go_at_call 27
            refine (rUp_at _ (Fx.hsr F8) (Fx.hsr G8) hv kv x1 x2 HU).mono ?_
            rintro e w9 ⟨rfl, b9⟩
            have F9 := Lib.hid (F8.out.step b9)
            have G9 := Lib.hid (G8.out.step b9)
            clear c0 c1 c2 z0 d0 d1 d2 y0
            obtain ⟨z0, c0, c1, c2⟩ := F9.out.bx
            obtain ⟨y0, d0, d1, d2⟩ := G9.out.bx
            go_wp2_with fail
            go_at_call 28
            refine (rGran_at _ (Fx.hsr G9) V2 (by omega) (by omega) HGK HPI).mono ?_
            rintro e w10 ⟨rfl, b10⟩
            have F10 := Lib.hid (F9.out.step b10)
            have G10 := Lib.hid (G9.out.step b10)
            clear c0 c1 c2 z0 d0 d1 d2 y0
            obtain ⟨z0, c0, c1, c2⟩ := F10.out.bx
            obtain ⟨y0, d0, d1, d2⟩ := G10.out.bx
            go_wp2_with fail
            obtain ⟨w11, hW⟩ : ∃ W, w10.alloc (.cells #[.int .i64 u, .int .i64 v] 35) = W := ⟨_, rfl⟩
            have b11 : Below w10.heap.size w10 w11 := hW ▸ bal _ _
            have Uq11 := Lib.hid (Sb.new w10 u v 35)
            rw [hW] at Uq11 ⊢
            clear hW
            have F11 := Lib.hid (F10.out.step b11)
            have G11 := Lib.hid (G10.out.step b11)
            clear c0 c1 c2 z0 d0 d1 d2 y0
            obtain ⟨z0, c0, c1, c2⟩ := F11.out.bx
            obtain ⟨y0, d0, d1, d2⟩ := G11.out.bx
            obtain ⟨tq, eq0, eq1, _, _⟩ := Uq11.out
            go_at_call 20
            refine (rInside_at _ (Fx.hsr F11) hv huv (by omega) (by omega) HI).mono ?_
            rintro e w12 ⟨rfl, b12⟩
            have F12 := Lib.hid (F11.out.step b12)
            have G12 := Lib.hid (G11.out.step b12)
            have Uq12 := Lib.hid (Uq11.out.below b12)
            clear c0 c1 c2 z0 d0 d1 d2 y0 tq eq0 eq1
            obtain ⟨z0, c0, c1, c2⟩ := F12.out.bx
            obtain ⟨y0, d0, d1, d2⟩ := G12.out.bx
            obtain ⟨tq, eq0, eq1, _, _⟩ := Uq12.out
            go_wp2_with fail
            go_at_call 29
            refine (rReach_at _ (Fx.hsr G12) V2 x1 x2 HZ HR).mono ?_
            rintro e w13 ⟨rfl, b13⟩
            have F13 := Lib.hid (F12.out.step b13)
            have G13 := Lib.hid (G12.out.step b13)
            have Uq13 := Lib.hid (Uq12.out.below b13)
            clear c0 c1 c2 z0 d0 d1 d2 y0 tq eq0 eq1
            obtain ⟨z0, c0, c1, c2⟩ := F13.out.bx
            obtain ⟨y0, d0, d1, d2⟩ := G13.out.bx
            obtain ⟨tq, eq0, eq1, _, _⟩ := Uq13.out
            go_wp2_with fail
            go_ret
            exact ⟨rfl, (F13.out.alloc (.cells #[.int .i64 0, .int .i64 0] 35)).bel⟩
          · have rr := rch_p hr
            have rl := V2.out.pl_lt x
            obtain ⟨⟨u2, v2⟩, hp2⟩ : ∃ q, pl ⟨r, s, g⟩ x = q := ⟨_, rfl⟩
            have HZ : Hid (rz ⟨r, s, g⟩ x = (u2, v2)) := Lib.hid (by rw [rz_t hr, hp2])
            rw [hp2] at rr rl
            have ua : -4398046511103 ≤ u2 := rr.1
            have ub : v2 ≤ 4398046511103 := rr.2
            have huv2 : u2 < v2 := rl
            obtain ⟨⟨fd, nd⟩, hd⟩ : ∃ q, ins ⟨o, p, l⟩ (u2, v2) = q := ⟨_, rfl⟩
            obtain ⟨⟨fc, nc⟩, hc⟩ : ∃ q, cvr ⟨o, p, l⟩ (u2, v2) = q := ⟨_, rfl⟩
            have HD2 := Lib.hid hd
            have HC2 := Lib.hid hc
            have HD : Hid (ins ⟨o, p, l⟩ (pl ⟨r, s, g⟩ x) = (fd, nd)) := Lib.hid (by rw [hp2, hd])
            have HC : Hid (cvr ⟨o, p, l⟩ (pl ⟨r, s, g⟩ x) = (fc, nc)) := Lib.hid (by rw [hp2, hc])
            clear hr rr rl hp2 hd hc
            go_enter Try.func5, Try.ntmps5
            go_wp2_with fail
            rw [HW0.out]
            go_at_call 10
            refine (awake_any _).mono ?_
            rintro e w1 ⟨rfl, b1⟩
            have F1 := Lib.hid (F0.out.step b1)
            have G1 := Lib.hid (G0.out.step b1)
            clear c0 c1 c2 z0 d0 d1 d2 y0
            obtain ⟨z0, c0, c1, c2⟩ := F1.out.bx
            obtain ⟨y0, d0, d1, d2⟩ := G1.out.bx
            go_wp2_with fail
            go_at_call 11
            refine (long_at o p _ hl).mono ?_
            rintro e w2 ⟨rfl, b2⟩
            have F2 := Lib.hid (F1.out.step b2)
            have G2 := Lib.hid (G1.out.step b2)
            clear c0 c1 c2 z0 d0 d1 d2 y0
            obtain ⟨z0, c0, c1, c2⟩ := F2.out.bx
            obtain ⟨y0, d0, d1, d2⟩ := G2.out.bx
            go_wp2_with fail
            go_at_call 11
            refine (long_at r s _ hm).mono ?_
            rintro e w3 ⟨rfl, b3⟩
            have F3 := Lib.hid (F2.out.step b3)
            have G3 := Lib.hid (G2.out.step b3)
            clear c0 c1 c2 z0 d0 d1 d2 y0
            obtain ⟨z0, c0, c1, c2⟩ := F3.out.bx
            obtain ⟨y0, d0, d1, d2⟩ := G3.out.bx
            go_wp2_with fail
            go_at_call 22
            refine (Up_at _ (Fx.hsr F3) (Fx.hsr G3) hv kv x1 x2 HU).mono ?_
            rintro e w4 ⟨rfl, b4⟩
            have F4 := Lib.hid (F3.out.step b4)
            have G4 := Lib.hid (G3.out.step b4)
            clear c0 c1 c2 z0 d0 d1 d2 y0
            obtain ⟨z0, c0, c1, c2⟩ := F4.out.bx
            obtain ⟨y0, d0, d1, d2⟩ := G4.out.bx
            go_wp2_with fail
            go_at_call 23
            refine (Down_at _ (Fx.hsr F4) (Fx.hsr G4) hv kv x1 x2 HR HD).mono ?_
            rintro e w5 ⟨rfl, b5⟩
            have F5 := Lib.hid (F4.out.step b5)
            have G5 := Lib.hid (G4.out.step b5)
            clear c0 c1 c2 z0 d0 d1 d2 y0
            obtain ⟨z0, c0, c1, c2⟩ := F5.out.bx
            obtain ⟨y0, d0, d1, d2⟩ := G5.out.bx
            go_wp2_with fail
            go_at_call 24
            refine (Covering_at _ (Fx.hsr F5) (Fx.hsr G5) hv kv x1 x2 HR HC).mono ?_
            rintro e w6 ⟨rfl, b6⟩
            have F6 := Lib.hid (F5.out.step b6)
            have G6 := Lib.hid (G5.out.step b6)
            clear c0 c1 c2 z0 d0 d1 d2 y0
            obtain ⟨z0, c0, c1, c2⟩ := F6.out.bx
            obtain ⟨y0, d0, d1, d2⟩ := G6.out.bx
            go_wp2_with fail
            go_at_call 25
            refine (Place_at _ (Fx.hsr F6) (Fx.hsr G6) hv kv x1 x2 HPL).mono ?_
            rintro e w7 ⟨rfl, b7⟩
            have F7 := Lib.hid (F6.out.step b7)
            have G7 := Lib.hid (G6.out.step b7)
            clear c0 c1 c2 z0 d0 d1 d2 y0
            obtain ⟨z0, c0, c1, c2⟩ := F7.out.bx
            obtain ⟨y0, d0, d1, d2⟩ := G7.out.bx
            go_wp2_with fail
            go_at_call 26
            refine (lvalid_at _ (Fx.hsr F7) (Fx.hsr G7) hb).mono ?_
            rintro e w8 ⟨rfl, b8⟩
            have F8 := Lib.hid (F7.out.step b8)
            have G8 := Lib.hid (G7.out.step b8)
            clear c0 c1 c2 z0 d0 d1 d2 y0
            obtain ⟨z0, c0, c1, c2⟩ := F8.out.bx
            obtain ⟨y0, d0, d1, d2⟩ := G8.out.bx
            go_wp2_with fail
            go_at_call 27
            refine (rUp_at _ (Fx.hsr F8) (Fx.hsr G8) hv kv x1 x2 HU).mono ?_
            rintro e w9 ⟨rfl, b9⟩
            have F9 := Lib.hid (F8.out.step b9)
            have G9 := Lib.hid (G8.out.step b9)
            clear c0 c1 c2 z0 d0 d1 d2 y0
            obtain ⟨z0, c0, c1, c2⟩ := F9.out.bx
            obtain ⟨y0, d0, d1, d2⟩ := G9.out.bx
            go_wp2_with fail
            go_at_call 28
            refine (rGran_at _ (Fx.hsr G9) V2 (by omega) (by omega) HGK HPI).mono ?_
            rintro e w10 ⟨rfl, b10⟩
            have F10 := Lib.hid (F9.out.step b10)
            have G10 := Lib.hid (G9.out.step b10)
            clear c0 c1 c2 z0 d0 d1 d2 y0
            obtain ⟨z0, c0, c1, c2⟩ := F10.out.bx
            obtain ⟨y0, d0, d1, d2⟩ := G10.out.bx
            go_wp2_with fail
            obtain ⟨w11, hW⟩ : ∃ W, w10.alloc (.cells #[.int .i64 u, .int .i64 v] 35) = W := ⟨_, rfl⟩
            have b11 : Below w10.heap.size w10 w11 := hW ▸ bal _ _
            have Uq11 := Lib.hid (Sb.new w10 u v 35)
            rw [hW] at Uq11 ⊢
            clear hW
            have F11 := Lib.hid (F10.out.step b11)
            have G11 := Lib.hid (G10.out.step b11)
            clear c0 c1 c2 z0 d0 d1 d2 y0
            obtain ⟨z0, c0, c1, c2⟩ := F11.out.bx
            obtain ⟨y0, d0, d1, d2⟩ := G11.out.bx
            obtain ⟨tq, eq0, eq1, _, _⟩ := Uq11.out
            go_at_call 20
            refine (rInside_at _ (Fx.hsr F11) hv huv (by omega) (by omega) HI).mono ?_
            rintro e w12 ⟨rfl, b12⟩
            have F12 := Lib.hid (F11.out.step b12)
            have G12 := Lib.hid (G11.out.step b12)
            have Uq12 := Lib.hid (Uq11.out.below b12)
            clear c0 c1 c2 z0 d0 d1 d2 y0 tq eq0 eq1
            obtain ⟨z0, c0, c1, c2⟩ := F12.out.bx
            obtain ⟨y0, d0, d1, d2⟩ := G12.out.bx
            obtain ⟨tq, eq0, eq1, _, _⟩ := Uq12.out
            go_wp2_with fail
            go_at_call 29
            refine (rReach_at _ (Fx.hsr G12) V2 x1 x2 HZ HR).mono ?_
            rintro e w13 ⟨rfl, b13⟩
            have F13 := Lib.hid (F12.out.step b13)
            have G13 := Lib.hid (G12.out.step b13)
            have Uq13 := Lib.hid (Uq12.out.below b13)
            clear c0 c1 c2 z0 d0 d1 d2 y0 tq eq0 eq1
            obtain ⟨z0, c0, c1, c2⟩ := F13.out.bx
            obtain ⟨y0, d0, d1, d2⟩ := G13.out.bx
            obtain ⟨tq, eq0, eq1, _, _⟩ := Uq13.out
            go_wp2_with fail
            obtain ⟨w14, hW⟩ : ∃ W, w13.alloc (.cells #[.int .i64 u2, .int .i64 v2] 35) = W := ⟨_, rfl⟩
            have b14 : Below w13.heap.size w13 w14 := hW ▸ bal _ _
            have Uz14 := Lib.hid (Sb.new w13 u2 v2 35)
            rw [hW] at Uz14 ⊢
            clear hW
            have F14 := Lib.hid (F13.out.step b14)
            have G14 := Lib.hid (G13.out.step b14)
            have Uq14 := Lib.hid (Uq13.out.below b14)
            clear c0 c1 c2 z0 d0 d1 d2 y0 tq eq0 eq1
            obtain ⟨z0, c0, c1, c2⟩ := F14.out.bx
            obtain ⟨y0, d0, d1, d2⟩ := G14.out.bx
            obtain ⟨tq, eq0, eq1, _, _⟩ := Uq14.out
            obtain ⟨tz, ez0, ez1, _, _⟩ := Uz14.out
            go_at_call 20
            refine (rInside_at _ (Fx.hsr F14) hv huv2 (by omega) (by omega) HD2).mono ?_
            rintro e w15 ⟨rfl, b15⟩
            have F15 := Lib.hid (F14.out.step b15)
            have G15 := Lib.hid (G14.out.step b15)
            have Uq15 := Lib.hid (Uq14.out.below b15)
            have Uz15 := Lib.hid (Uz14.out.below b15)
            clear c0 c1 c2 z0 d0 d1 d2 y0 tq eq0 eq1 tz ez0 ez1
            obtain ⟨z0, c0, c1, c2⟩ := F15.out.bx
            obtain ⟨y0, d0, d1, d2⟩ := G15.out.bx
            obtain ⟨tq, eq0, eq1, _, _⟩ := Uq15.out
            obtain ⟨tz, ez0, ez1, _, _⟩ := Uz15.out
            go_wp2_with fail
            go_at_call 30
            refine (rCovering_at _ (Fx.hsr F15) hv huv2 (by omega) (by omega) HC2).mono ?_
            rintro e w16 ⟨rfl, b16⟩
            have F16 := Lib.hid (F15.out.step b16)
            have G16 := Lib.hid (G15.out.step b16)
            have Uq16 := Lib.hid (Uq15.out.below b16)
            have Uz16 := Lib.hid (Uz15.out.below b16)
            clear c0 c1 c2 z0 d0 d1 d2 y0 tq eq0 eq1 tz ez0 ez1
            obtain ⟨z0, c0, c1, c2⟩ := F16.out.bx
            obtain ⟨y0, d0, d1, d2⟩ := G16.out.bx
            obtain ⟨tq, eq0, eq1, _, _⟩ := Uq16.out
            obtain ⟨tz, ez0, ez1, _, _⟩ := Uz16.out
            go_wp2_with fail
            go_ret
            exact ⟨rfl, F16.out.bel⟩
    · go_enter Try.func5, Try.ntmps5
      go_wp2_with fail
      rw [HW0.out]
      go_at_call 10
      refine (awake_any _).mono ?_
      rintro e w1 ⟨rfl, b1⟩
      have F1 := Lib.hid (F0.out.step b1)
      have G1 := Lib.hid (G0.out.step b1)
      clear c0 c1 c2 z0 d0 d1 d2 y0
      obtain ⟨z0, c0, c1, c2⟩ := F1.out.bx
      obtain ⟨y0, d0, d1, d2⟩ := G1.out.bx
      go_wp2_with fail
      go_at_call 11
      refine (long_at o p _ hl).mono ?_
      rintro e w2 ⟨rfl, b2⟩
      have F2 := Lib.hid (F1.out.step b2)
      have G2 := Lib.hid (G1.out.step b2)
      clear c0 c1 c2 z0 d0 d1 d2 y0
      obtain ⟨z0, c0, c1, c2⟩ := F2.out.bx
      obtain ⟨y0, d0, d1, d2⟩ := G2.out.bx
      go_wp2_with fail
      go_at_call 11
      refine (long_at r s _ hm).mono ?_
      rintro e w3 ⟨rfl, b3⟩
      have F3 := Lib.hid (F2.out.step b3)
      have G3 := Lib.hid (G2.out.step b3)
      clear c0 c1 c2 z0 d0 d1 d2 y0
      obtain ⟨z0, c0, c1, c2⟩ := F3.out.bx
      obtain ⟨y0, d0, d1, d2⟩ := G3.out.bx
      go_wp2_with fail
      go_at_call 10
      refine (awake_any _).mono ?_
      rintro e w4 ⟨rfl, b4⟩
      have F4 := Lib.hid (F3.out.step b4)
      have G4 := Lib.hid (G3.out.step b4)
      clear c0 c1 c2 z0 d0 d1 d2 y0
      obtain ⟨z0, c0, c1, c2⟩ := F4.out.bx
      obtain ⟨y0, d0, d1, d2⟩ := G4.out.bx
      go_wp2_with fail
      go_ret
      exact ⟨rfl, F4.out.bel⟩
  · go_enter Try.func5, Try.ntmps5
    go_wp2_with fail
    rw [HW0.out]
    go_at_call 10
    refine (awake_any _).mono ?_
    rintro e w1 ⟨rfl, b1⟩
    have F1 := Lib.hid (F0.out.step b1)
    have G1 := Lib.hid (G0.out.step b1)
    clear c0 c1 c2 z0 d0 d1 d2 y0
    obtain ⟨z0, c0, c1, c2⟩ := F1.out.bx
    obtain ⟨y0, d0, d1, d2⟩ := G1.out.bx
    go_wp2_with fail
    go_at_call 11
    refine (long_at o p _ hl).mono ?_
    rintro e w2 ⟨rfl, b2⟩
    have F2 := Lib.hid (F1.out.step b2)
    have G2 := Lib.hid (G1.out.step b2)
    clear c0 c1 c2 z0 d0 d1 d2 y0
    obtain ⟨z0, c0, c1, c2⟩ := F2.out.bx
    obtain ⟨y0, d0, d1, d2⟩ := G2.out.bx
    go_wp2_with fail
    go_at_call 10
    refine (awake_any _).mono ?_
    rintro e w3 ⟨rfl, b3⟩
    have F3 := Lib.hid (F2.out.step b3)
    have G3 := Lib.hid (G2.out.step b3)
    clear c0 c1 c2 z0 d0 d1 d2 y0
    obtain ⟨z0, c0, c1, c2⟩ := F3.out.bx
    obtain ⟨y0, d0, d1, d2⟩ := G3.out.bx
    go_wp2_with fail
    go_ret
    exact ⟨rfl, F3.out.bel⟩
end Go.Proofs.Ytainibnjpkbfpaa.Cv
