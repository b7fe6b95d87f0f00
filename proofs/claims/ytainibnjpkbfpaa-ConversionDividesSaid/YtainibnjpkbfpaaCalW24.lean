/- Walks: pairs of calendars, their common period. -/
import Derived.Test.YtainibnjpkbfpaaCalM5
import Derived.Test.YtainibnjpkbfpaaCalL3
namespace Go.Proofs.Ytainibnjpkbfpaa.Cv
set_option linter.unusedVariables false
set_option linter.unusedSimpArgs false
open Go.RowKit Wl

def prr2 (a b : Cal) : Int × Int := if (prr a b).2 = 0 then prr a b else (0, (prr a b).2)
theorem prr2_of {a b : Cal} {z e : Int} (h : prr a b = (z, e)) : prr2 a b = (if e = 0 then z else 0, e) := by
  unfold prr2; rw [h]; dsimp only; split <;> simp_all
theorem LcmB {a b z e : Int} (w : World) (h1 : 1 ≤ a) (h2 : a ≤ 9223372036854775807) (h3 : 1 ≤ b) (h4 : b ≤ 9223372036854775807) (h : Hid (M.lc a b = (z, e))) :
    Calls Try.prog 83 #[.int .i64 a, .int .i64 b] w fun x w' => x = .returned (.tuple #[.int .i64 z, .int .i64 e]) ∧ Below w.heap.size w w' :=
  (Lcm_any a b w (by omega) h2 (by omega) h4).mono fun _ _ ⟨he, hw⟩ => ⟨he.trans (by rw [h.out]), drew_bel hw⟩
theorem rLcmB {a b z e : Int} (w : World) (h1 : 1 ≤ a) (h2 : a ≤ 9223372036854775807) (h3 : 1 ≤ b) (h4 : b ≤ 9223372036854775807) (h : Hid (M.lc a b = (z, e))) :
    Calls Try.prog 84 #[.int .i64 a, .int .i64 b] w fun x w' => x = .returned (.tuple #[.int .i64 z, .int .i64 e]) ∧ Below w.heap.size w w' :=
  (rLcm_at w (by omega) h2 (by omega) h4 h).mono fun _ _ ⟨he, hw⟩ => ⟨he, drew_bel hw⟩
set_option maxRecDepth 20000 in
set_option maxHeartbeats 6400000 in
theorem pair_bad {A B : Option Addr} {n cp m cq : Nat} {o p r s : Int} {l g : List (Int × Int)}  (w : World) (h : Hid (Sr w A n cp l)) (k : Hid (Sr w B m cq g)) (hb : Hid ((vld ⟨o, p, l⟩ && vld ⟨r, s, g⟩) = false)) :
    Calls Try.prog 71 #[.agg #[.int .i64 o, .int .i64 p, .slice A n cp], .agg #[.int .i64 r, .int .i64 s, .slice B m cq]] w fun x w' => x = .returned (.tuple #[.int .i64 0, .int .i64 1]) ∧ Below w.heap.size w w' := by
  obtain ⟨W0, hW0⟩ : ∃ W0, (w.alloc (.cells #[.int .i64 o, .int .i64 p, .slice A n cp] 24)).alloc (.cells #[.int .i64 r, .int .i64 s, .slice B m cq] 24) = W0 := ⟨_, rfl⟩
  have F0 : Hid (Fx w W0 w.heap.size o p A n cp l) := Lib.hid (by rw [← hW0]; exact (Fx.new _ _ h.out).alloc _)
  have G0 : Hid (Fx w W0 (w.heap.size + 1) r s B m cq g) := Lib.hid (by rw [← hW0]; exact Fx.new2 _ _ _ k.out)
  have HW0 := Lib.hid hW0
  clear hW0
  obtain ⟨z0, c0, c1, c2⟩ := F0.out.bx
  obtain ⟨y0, d0, d1, d2⟩ := G0.out.bx
  rcases ha : vld ⟨o, p, l⟩ with _ | _
  · go_enter Try.func71, Try.ntmps71
    go_wp2_with fail
    rw [HW0.out]
    go_at_call 43
    refine (Valid_any o p _ (Fx.hsr F0)).mono ?_
    rintro e w1 ⟨rfl, b1⟩
    rw [ha]
    have F1 := Lib.hid (F0.out.step b1)
    have G1 := Lib.hid (G0.out.step b1)
    clear c0 c1 c2 z0 d0 d1 d2 y0
    obtain ⟨z0, c0, c1, c2⟩ := F1.out.bx
    obtain ⟨y0, d0, d1, d2⟩ := G1.out.bx
    go_wp2_with fail
    go_ret2
    exact ⟨rfl, F1.out.bel⟩
  · have hb' : vld ⟨r, s, g⟩ = false := by have := hb.out; rw [ha] at this; simpa using this
    go_enter Try.func71, Try.ntmps71
    go_wp2_with fail
    rw [HW0.out]
    go_at_call 43
    refine (Valid_any o p _ (Fx.hsr F0)).mono ?_
    rintro e w1 ⟨rfl, b1⟩
    rw [ha]
    have F1 := Lib.hid (F0.out.step b1)
    have G1 := Lib.hid (G0.out.step b1)
    clear c0 c1 c2 z0 d0 d1 d2 y0
    obtain ⟨z0, c0, c1, c2⟩ := F1.out.bx
    obtain ⟨y0, d0, d1, d2⟩ := G1.out.bx
    go_wp2_with fail
    go_at_call 43
    refine (Valid_any r s _ (Fx.hsr G1)).mono ?_
    rintro e w2 ⟨rfl, b2⟩
    rw [hb']
    have F2 := Lib.hid (F1.out.step b2)
    have G2 := Lib.hid (G1.out.step b2)
    clear c0 c1 c2 z0 d0 d1 d2 y0
    obtain ⟨z0, c0, c1, c2⟩ := F2.out.bx
    obtain ⟨y0, d0, d1, d2⟩ := G2.out.bx
    go_wp2_with fail
    go_ret2
    exact ⟨rfl, F2.out.bel⟩
set_option maxRecDepth 20000 in
set_option maxHeartbeats 6400000 in
theorem pair_any {A B : Option Addr} {n cp m cq : Nat} {o p r s : Int} {l g : List (Int × Int)}  (w : World) (h : Hid (Sr w A n cp l)) (k : Hid (Sr w B m cq g)) (hv : Hid (vld ⟨o, p, l⟩ = true)) (kv : Hid (vld ⟨r, s, g⟩ = true)) :
    Calls Try.prog 71 #[.agg #[.int .i64 o, .int .i64 p, .slice A n cp], .agg #[.int .i64 r, .int .i64 s, .slice B m cq]] w fun x w' => x = .returned (.tuple #[.int .i64 (prr ⟨o, p, l⟩ ⟨r, s, g⟩).1, .int .i64 (prr ⟨o, p, l⟩ ⟨r, s, g⟩).2]) ∧ Below w.heap.size w w' := by
  have V := hVc hv
  have V2 := hVc kv
  have hl := Lib.hid h.out.len
  have kl := Lib.hid k.out.len
  have hnc := h.out.nc
  have knc := k.out.nc
  have hc63 := h.out.c63
  have kc63 := k.out.c63
  have n1 : 1 ≤ n := by have : 1 ≤ l.length := V.out.n1; have := hl.out; omega
  have n2 : n ≤ 5000 := by have : l.length ≤ 5000 := V.out.n2; have := hl.out; omega
  have m1 : 1 ≤ m := by have : 1 ≤ g.length := V2.out.n1; have := kl.out; omega
  have m2 : m ≤ 5000 := by have : g.length ≤ 5000 := V2.out.n2; have := kl.out; omega
  have p1 : 1 ≤ p := V.out.p1
  have p2 : p ≤ 12622780800 := V.out.p2
  have s1 : 1 ≤ s := V2.out.p1
  have s2 : s ≤ 12622780800 := V2.out.p2
  obtain ⟨W0, hW0⟩ : ∃ W0, (w.alloc (.cells #[.int .i64 o, .int .i64 p, .slice A n cp] 24)).alloc (.cells #[.int .i64 r, .int .i64 s, .slice B m cq] 24) = W0 := ⟨_, rfl⟩
  have F0 : Hid (Fx w W0 w.heap.size o p A n cp l) := Lib.hid (by rw [← hW0]; exact (Fx.new _ _ h.out).alloc _)
  have G0 : Hid (Fx w W0 (w.heap.size + 1) r s B m cq g) := Lib.hid (by rw [← hW0]; exact Fx.new2 _ _ _ k.out)
  have HW0 := Lib.hid hW0
  clear hW0
  obtain ⟨z0, c0, c1, c2⟩ := F0.out.bx
  obtain ⟨y0, d0, d1, d2⟩ := G0.out.bx
  rcases prr_cases V.out V2.out with ⟨z, e, hlc, ⟨hz, zb1, zb2⟩, hp⟩ | ⟨z, qa, qb, cp1, hp⟩
  · have HLC : Hid (M.lc p s = (z, e)) := Lib.hid hlc
    have R := Lib.hid hp
    clear hlc hp
    rcases hz with he | ⟨rfl, hz⟩
    · have he' : (e != 0) = true := by simpa using he
      clear he
      go_enter Try.func71, Try.ntmps71
      go_wp2_with fail
      rw [HW0.out]
      go_at_call 43
      refine (Valid_any o p _ (Fx.hsr F0)).mono ?_
      rintro e w1 ⟨rfl, b1⟩
      rw [hv.out]
      have F1 := Lib.hid (F0.out.step b1)
      have G1 := Lib.hid (G0.out.step b1)
      clear c0 c1 c2 z0 d0 d1 d2 y0
      obtain ⟨z0, c0, c1, c2⟩ := F1.out.bx
      obtain ⟨y0, d0, d1, d2⟩ := G1.out.bx
      go_wp2_with fail
      go_at_call 43
      refine (Valid_any r s _ (Fx.hsr G1)).mono ?_
      rintro e w2 ⟨rfl, b2⟩
      rw [kv.out]
      have F2 := Lib.hid (F1.out.step b2)
      have G2 := Lib.hid (G1.out.step b2)
      clear c0 c1 c2 z0 d0 d1 d2 y0
      obtain ⟨z0, c0, c1, c2⟩ := F2.out.bx
      obtain ⟨y0, d0, d1, d2⟩ := G2.out.bx
      go_wp2_with fail
      go_at_call 83
      refine (LcmB _ p1 (by omega) s1 (by omega) HLC).mono ?_
      rintro e w3 ⟨rfl, b3⟩
      have F3 := Lib.hid (F2.out.step b3)
      have G3 := Lib.hid (G2.out.step b3)
      clear c0 c1 c2 z0 d0 d1 d2 y0
      obtain ⟨z0, c0, c1, c2⟩ := F3.out.bx
      obtain ⟨y0, d0, d1, d2⟩ := G3.out.bx
      go_wp2_with fail
      go_ret2
      exact ⟨ret_int2 (congrArg Prod.fst R.out).symm (congrArg Prod.snd R.out).symm, F3.out.bel⟩
    · have hz' : decide (z > 12622780800) = true := by simpa using hz
      go_enter Try.func71, Try.ntmps71
      go_wp2_with fail
      rw [HW0.out]
      go_at_call 43
      refine (Valid_any o p _ (Fx.hsr F0)).mono ?_
      rintro e w1 ⟨rfl, b1⟩
      rw [hv.out]
      have F1 := Lib.hid (F0.out.step b1)
      have G1 := Lib.hid (G0.out.step b1)
      clear c0 c1 c2 z0 d0 d1 d2 y0
      obtain ⟨z0, c0, c1, c2⟩ := F1.out.bx
      obtain ⟨y0, d0, d1, d2⟩ := G1.out.bx
      go_wp2_with fail
      go_at_call 43
      refine (Valid_any r s _ (Fx.hsr G1)).mono ?_
      rintro e w2 ⟨rfl, b2⟩
      rw [kv.out]
      have F2 := Lib.hid (F1.out.step b2)
      have G2 := Lib.hid (G1.out.step b2)
      clear c0 c1 c2 z0 d0 d1 d2 y0
      obtain ⟨z0, c0, c1, c2⟩ := F2.out.bx
      obtain ⟨y0, d0, d1, d2⟩ := G2.out.bx
      go_wp2_with fail
      go_at_call 83
      refine (LcmB _ p1 (by omega) s1 (by omega) HLC).mono ?_
      rintro e w3 ⟨rfl, b3⟩
      have F3 := Lib.hid (F2.out.step b3)
      have G3 := Lib.hid (G2.out.step b3)
      clear c0 c1 c2 z0 d0 d1 d2 y0
      obtain ⟨z0, c0, c1, c2⟩ := F3.out.bx
      obtain ⟨y0, d0, d1, d2⟩ := G3.out.bx
      go_wp2_with fail
      go_ret2
      exact ⟨ret_int2 (congrArg Prod.fst R.out).symm (congrArg Prod.snd R.out).symm, F3.out.bel⟩
  · have HLC : Hid (M.lc p s = (z, 0)) := Lib.hid cp1.lc
    have p0 : p ≠ 0 := by omega
    have p0' : (p == 0) = false := by simp; omega
    have pm : (p == -1) = false := by simp; omega
    have s0 : s ≠ 0 := by omega
    have s0' : (s == 0) = false := by simp; omega
    have sm : (s == -1) = false := by simp; omega
    have nz0 : (n : Int) ≠ 0 := by omega
    have nz0' : ((n : Int) == 0) = false := by simp; omega
    have nzm : ((n : Int) == -1) = false := by simp
    have mz0 : (m : Int) ≠ 0 := by omega
    have mz0' : ((m : Int) == 0) = false := by simp; omega
    have mzm : ((m : Int) == -1) = false := by simp
    have z1 := cp1.m1
    have z2 := cp1.m2
    have a1' := cp1.a1
    have b1' := cp1.b1
    have a2' := cp1.a2
    have b2' := cp1.b2
    have da : z / p = qa := cp1.da
    have db : z / s = qb := cp1.db
    have ta : z.tdiv p = qa := by rw [Int.tdiv_eq_ediv_of_nonneg (by omega)]; exact da
    have tb : z.tdiv s = qb := by rw [Int.tdiv_eq_ediv_of_nonneg (by omega)]; exact db
    have hz' : decide (z > 12622780800) = false := by simp; omega
    obtain ⟨qn, hqn⟩ : ∃ q, (5000 : Int) / (n : Int) = q := ⟨_, rfl⟩
    have tqn : (5000 : Int).tdiv (n : Int) = qn := by rw [Int.tdiv_eq_ediv_of_nonneg (by omega)]; exact hqn
    have qnb1 : 0 ≤ qn := by rw [← hqn]; exact Int.ediv_nonneg (by omega) (by omega)
    have qnb2 : qn ≤ 5000 := by rw [← hqn]; exact Int.ediv_le_self _ (by omega)
    obtain ⟨qm, hqm⟩ : ∃ q, (5000 : Int) / (m : Int) = q := ⟨_, rfl⟩
    have tqm : (5000 : Int).tdiv (m : Int) = qm := by rw [Int.tdiv_eq_ediv_of_nonneg (by omega)]; exact hqm
    have qmb1 : 0 ≤ qm := by rw [← hqm]; exact Int.ediv_nonneg (by omega) (by omega)
    have qmb2 : qm ≤ 5000 := by rw [← hqm]; exact Int.ediv_le_self _ (by omega)
    have K1 : 5000 < qa * (n : Int) ↔ qn < qa := by rw [← hqn]; exact (quo_iff (by omega)).symm
    have K2 : 5000 < qb * (m : Int) ↔ qm < qb := by rw [← hqm]; exact (quo_iff (by omega)).symm
    have el : (((⟨o, p, l⟩ : Cal).l.length : Nat) : Int) = (n : Int) := by show (l.length : Int) = _; rw [← hl.out]
    have fl : (((⟨r, s, g⟩ : Cal).l.length : Nat) : Int) = (m : Int) := by show (g.length : Int) = _; rw [← kl.out]
    rw [el, fl] at hp
    clear el fl cp1
    rcases hp with ⟨hp, HH | ⟨HH, HH2⟩⟩ | ⟨hp, HH, HH2⟩
    all_goals have R := Lib.hid hp
    all_goals clear hp
    · have v1 : decide (qn < qa) = true := by simp; exact K1.1 HH
      clear K1 K2
      go_enter Try.func71, Try.ntmps71
      go_wp2_with fail
      rw [HW0.out]
      go_at_call 43
      refine (Valid_any o p _ (Fx.hsr F0)).mono ?_
      rintro e w1 ⟨rfl, b1⟩
      rw [hv.out]
      have F1 := Lib.hid (F0.out.step b1)
      have G1 := Lib.hid (G0.out.step b1)
      clear c0 c1 c2 z0 d0 d1 d2 y0
      obtain ⟨z0, c0, c1, c2⟩ := F1.out.bx
      obtain ⟨y0, d0, d1, d2⟩ := G1.out.bx
      go_wp2_with fail
      go_at_call 43
      refine (Valid_any r s _ (Fx.hsr G1)).mono ?_
      rintro e w2 ⟨rfl, b2⟩
      rw [kv.out]
      have F2 := Lib.hid (F1.out.step b2)
      have G2 := Lib.hid (G1.out.step b2)
      clear c0 c1 c2 z0 d0 d1 d2 y0
      obtain ⟨z0, c0, c1, c2⟩ := F2.out.bx
      obtain ⟨y0, d0, d1, d2⟩ := G2.out.bx
      go_wp2_with fail
      go_at_call 83
      refine (LcmB _ p1 (by omega) s1 (by omega) HLC).mono ?_
      rintro e w3 ⟨rfl, b3⟩
      have F3 := Lib.hid (F2.out.step b3)
      have G3 := Lib.hid (G2.out.step b3)
      clear c0 c1 c2 z0 d0 d1 d2 y0
      obtain ⟨z0, c0, c1, c2⟩ := F3.out.bx
      obtain ⟨y0, d0, d1, d2⟩ := G3.out.bx
      go_wp2_with fail
      have hS := Abv.cells w3
      refine wp_region_abv (by kernel_rfl) (by kernel_rfl) ?_
      repeat (go_big_quiet_step ((fail)))
      refine wpQuiet_nil ?_
      rintro w4 hw4
      clear hS
      have b4 := hw4
      have F4 := Lib.hid (F3.out.step b4)
      have G4 := Lib.hid (G3.out.step b4)
      clear c0 c1 c2 z0 d0 d1 d2 y0
      obtain ⟨z0, c0, c1, c2⟩ := F4.out.bx
      obtain ⟨y0, d0, d1, d2⟩ := G4.out.bx
      go_wp2_with fail
      go_ret2
      exact ⟨ret_int2 (congrArg Prod.fst R.out).symm (congrArg Prod.snd R.out).symm, F4.out.bel⟩
    · have v1 : decide (qn < qa) = false := by simp; have := mt K1.2 (by omega); omega
      have v2 : decide (qm < qb) = true := by simp; exact K2.1 HH2
      clear K1 K2
      go_enter Try.func71, Try.ntmps71
      go_wp2_with fail
      rw [HW0.out]
      go_at_call 43
      refine (Valid_any o p _ (Fx.hsr F0)).mono ?_
      rintro e w1 ⟨rfl, b1⟩
      rw [hv.out]
      have F1 := Lib.hid (F0.out.step b1)
      have G1 := Lib.hid (G0.out.step b1)
      clear c0 c1 c2 z0 d0 d1 d2 y0
      obtain ⟨z0, c0, c1, c2⟩ := F1.out.bx
      obtain ⟨y0, d0, d1, d2⟩ := G1.out.bx
      go_wp2_with fail
      go_at_call 43
      refine (Valid_any r s _ (Fx.hsr G1)).mono ?_
      rintro e w2 ⟨rfl, b2⟩
      rw [kv.out]
      have F2 := Lib.hid (F1.out.step b2)
      have G2 := Lib.hid (G1.out.step b2)
      clear c0 c1 c2 z0 d0 d1 d2 y0
      obtain ⟨z0, c0, c1, c2⟩ := F2.out.bx
      obtain ⟨y0, d0, d1, d2⟩ := G2.out.bx
      go_wp2_with fail
      go_at_call 83
      refine (LcmB _ p1 (by omega) s1 (by omega) HLC).mono ?_
      rintro e w3 ⟨rfl, b3⟩
      have F3 := Lib.hid (F2.out.step b3)
      have G3 := Lib.hid (G2.out.step b3)
      clear c0 c1 c2 z0 d0 d1 d2 y0
      obtain ⟨z0, c0, c1, c2⟩ := F3.out.bx
      obtain ⟨y0, d0, d1, d2⟩ := G3.out.bx
      go_wp2_with fail
      have hS := Abv.cells w3
      refine wp_region_abv (by kernel_rfl) (by kernel_rfl) ?_
      repeat (go_big_quiet_step ((fail)))
      refine wpQuiet_nil ?_
      rintro w4 hw4
      clear hS
      have b4 := hw4
      have F4 := Lib.hid (F3.out.step b4)
      have G4 := Lib.hid (G3.out.step b4)
      clear c0 c1 c2 z0 d0 d1 d2 y0
      obtain ⟨z0, c0, c1, c2⟩ := F4.out.bx
      obtain ⟨y0, d0, d1, d2⟩ := G4.out.bx
      go_wp2_with fail
      go_ret2
      exact ⟨ret_int2 (congrArg Prod.fst R.out).symm (congrArg Prod.snd R.out).symm, F4.out.bel⟩
    · have v1 : decide (qn < qa) = false := by simp; have := mt K1.2 (by omega); omega
      have v2 : decide (qm < qb) = false := by simp; have := mt K2.2 (by omega); omega
      clear K1 K2
      go_enter Try.func71, Try.ntmps71
      go_wp2_with fail
      rw [HW0.out]
      go_at_call 43
      refine (Valid_any o p _ (Fx.hsr F0)).mono ?_
      rintro e w1 ⟨rfl, b1⟩
      rw [hv.out]
      have F1 := Lib.hid (F0.out.step b1)
      have G1 := Lib.hid (G0.out.step b1)
      clear c0 c1 c2 z0 d0 d1 d2 y0
      obtain ⟨z0, c0, c1, c2⟩ := F1.out.bx
      obtain ⟨y0, d0, d1, d2⟩ := G1.out.bx
      go_wp2_with fail
      go_at_call 43
      refine (Valid_any r s _ (Fx.hsr G1)).mono ?_
      rintro e w2 ⟨rfl, b2⟩
      rw [kv.out]
      have F2 := Lib.hid (F1.out.step b2)
      have G2 := Lib.hid (G1.out.step b2)
      clear c0 c1 c2 z0 d0 d1 d2 y0
      obtain ⟨z0, c0, c1, c2⟩ := F2.out.bx
      obtain ⟨y0, d0, d1, d2⟩ := G2.out.bx
      go_wp2_with fail
      go_at_call 83
      refine (LcmB _ p1 (by omega) s1 (by omega) HLC).mono ?_
      rintro e w3 ⟨rfl, b3⟩
      have F3 := Lib.hid (F2.out.step b3)
      have G3 := Lib.hid (G2.out.step b3)
      clear c0 c1 c2 z0 d0 d1 d2 y0
      obtain ⟨z0, c0, c1, c2⟩ := F3.out.bx
      obtain ⟨y0, d0, d1, d2⟩ := G3.out.bx
      go_wp2_with fail
      have hS := Abv.cells w3
      refine wp_region_abv (by kernel_rfl) (by kernel_rfl) ?_
      repeat (go_big_quiet_step ((fail)))
      refine wpQuiet_nil ?_
      rintro w4 hw4
      clear hS
      have b4 := hw4
      have F4 := Lib.hid (F3.out.step b4)
      have G4 := Lib.hid (G3.out.step b4)
      clear c0 c1 c2 z0 d0 d1 d2 y0
      obtain ⟨z0, c0, c1, c2⟩ := F4.out.bx
      obtain ⟨y0, d0, d1, d2⟩ := G4.out.bx
      go_wp2_with fail
      go_ret2
      exact ⟨ret_int2 (congrArg Prod.fst R.out).symm (congrArg Prod.snd R.out).symm, F4.out.bel⟩
theorem pair_at {A B : Option Addr} {n cp m cq : Nat} {o p r s : Int} {l g : List (Int × Int)} {z e : Int} (w : World) (h : Hid (Sr w A n cp l)) (k : Hid (Sr w B m cq g)) (hv : Hid (vld ⟨o, p, l⟩ = true)) (kv : Hid (vld ⟨r, s, g⟩ = true)) (hp : Hid (prr ⟨o, p, l⟩ ⟨r, s, g⟩ = (z, e))) :
    Calls Try.prog 71 #[.agg #[.int .i64 o, .int .i64 p, .slice A n cp], .agg #[.int .i64 r, .int .i64 s, .slice B m cq]] w fun x w' => x = .returned (.tuple #[.int .i64 z, .int .i64 e]) ∧ Below w.heap.size w w' := by
  have := pair_any w h k hv kv
  rw [hp.out] at this; exact this
set_option maxRecDepth 20000 in
set_option maxHeartbeats 6400000 in
theorem Common_bad {A B : Option Addr} {n cp m cq : Nat} {o p r s : Int} {l g : List (Int × Int)}  (w : World) (h : Hid (Sr w A n cp l)) (k : Hid (Sr w B m cq g)) (hb : Hid ((vld ⟨o, p, l⟩ && vld ⟨r, s, g⟩) = false)) :
    Calls Try.prog 40 #[.agg #[.int .i64 o, .int .i64 p, .slice A n cp], .agg #[.int .i64 r, .int .i64 s, .slice B m cq]] w fun x w' => x = .returned (.tuple #[.int .i64 0, .int .i64 1]) ∧ Below w.heap.size w w' := by
  obtain ⟨W0, hW0⟩ : ∃ W0, (w.alloc (.cells #[.int .i64 o, .int .i64 p, .slice A n cp] 24)).alloc (.cells #[.int .i64 r, .int .i64 s, .slice B m cq] 24) = W0 := ⟨_, rfl⟩
  have F0 : Hid (Fx w W0 w.heap.size o p A n cp l) := Lib.hid (by rw [← hW0]; exact (Fx.new _ _ h.out).alloc _)
  have G0 : Hid (Fx w W0 (w.heap.size + 1) r s B m cq g) := Lib.hid (by rw [← hW0]; exact Fx.new2 _ _ _ k.out)
  have HW0 := Lib.hid hW0
  clear hW0
  obtain ⟨z0, c0, c1, c2⟩ := F0.out.bx
  obtain ⟨y0, d0, d1, d2⟩ := G0.out.bx
  go_enter Try.func40, Try.ntmps40
  go_wp2_with fail
  rw [HW0.out]
  go_at_call 71
  refine (pair_bad _ (Fx.hsr F0) (Fx.hsr G0) hb).mono ?_
  rintro e w1 ⟨rfl, b1⟩
  have F1 := Lib.hid (F0.out.step b1)
  have G1 := Lib.hid (G0.out.step b1)
  clear c0 c1 c2 z0 d0 d1 d2 y0
  obtain ⟨z0, c0, c1, c2⟩ := F1.out.bx
  obtain ⟨y0, d0, d1, d2⟩ := G1.out.bx
  go_wp2_with fail
  go_ret2
  exact ⟨rfl, F1.out.bel⟩
set_option maxRecDepth 20000 in
set_option maxHeartbeats 6400000 in
theorem Common_any {A B : Option Addr} {n cp m cq : Nat} {o p r s : Int} {l g : List (Int × Int)} {z e : Int} (w : World) (h : Hid (Sr w A n cp l)) (k : Hid (Sr w B m cq g)) (hv : Hid (vld ⟨o, p, l⟩ = true)) (kv : Hid (vld ⟨r, s, g⟩ = true)) (hp : Hid (prr ⟨o, p, l⟩ ⟨r, s, g⟩ = (z, e))) (he : e = 0 ∨ e = 5 ∨ e = 9) :
    Calls Try.prog 40 #[.agg #[.int .i64 o, .int .i64 p, .slice A n cp], .agg #[.int .i64 r, .int .i64 s, .slice B m cq]] w fun x w' => x = .returned (.tuple #[.int .i64 (if e = 9 then 0 else z), .int .i64 (if e = 9 then 9 else 0)]) ∧ Below w.heap.size w w' := by
  obtain ⟨W0, hW0⟩ : ∃ W0, (w.alloc (.cells #[.int .i64 o, .int .i64 p, .slice A n cp] 24)).alloc (.cells #[.int .i64 r, .int .i64 s, .slice B m cq] 24) = W0 := ⟨_, rfl⟩
  have F0 : Hid (Fx w W0 w.heap.size o p A n cp l) := Lib.hid (by rw [← hW0]; exact (Fx.new _ _ h.out).alloc _)
  have G0 : Hid (Fx w W0 (w.heap.size + 1) r s B m cq g) := Lib.hid (by rw [← hW0]; exact Fx.new2 _ _ _ k.out)
  have HW0 := Lib.hid hW0
  clear hW0
  obtain ⟨z0, c0, c1, c2⟩ := F0.out.bx
  obtain ⟨y0, d0, d1, d2⟩ := G0.out.bx
  rcases he with rfl | rfl | rfl
  · go_enter Try.func40, Try.ntmps40
    go_wp2_with fail
    rw [HW0.out]
    go_at_call 71
    refine (pair_at _ (Fx.hsr F0) (Fx.hsr G0) hv kv hp).mono ?_
    rintro e w1 ⟨rfl, b1⟩
    have F1 := Lib.hid (F0.out.step b1)
    have G1 := Lib.hid (G0.out.step b1)
    clear c0 c1 c2 z0 d0 d1 d2 y0
    obtain ⟨z0, c0, c1, c2⟩ := F1.out.bx
    obtain ⟨y0, d0, d1, d2⟩ := G1.out.bx
    go_wp2_with fail
    go_ret2
    exact ⟨rfl, F1.out.bel⟩
  · go_enter Try.func40, Try.ntmps40
    go_wp2_with fail
    rw [HW0.out]
    go_at_call 71
    refine (pair_at _ (Fx.hsr F0) (Fx.hsr G0) hv kv hp).mono ?_
    rintro e w1 ⟨rfl, b1⟩
    have F1 := Lib.hid (F0.out.step b1)
    have G1 := Lib.hid (G0.out.step b1)
    clear c0 c1 c2 z0 d0 d1 d2 y0
    obtain ⟨z0, c0, c1, c2⟩ := F1.out.bx
    obtain ⟨y0, d0, d1, d2⟩ := G1.out.bx
    go_wp2_with fail
    go_ret2
    exact ⟨rfl, F1.out.bel⟩
  · go_enter Try.func40, Try.ntmps40
    go_wp2_with fail
    rw [HW0.out]
    go_at_call 71
    refine (pair_at _ (Fx.hsr F0) (Fx.hsr G0) hv kv hp).mono ?_
    rintro e w1 ⟨rfl, b1⟩
    have F1 := Lib.hid (F0.out.step b1)
    have G1 := Lib.hid (G0.out.step b1)
    clear c0 c1 c2 z0 d0 d1 d2 y0
    obtain ⟨z0, c0, c1, c2⟩ := F1.out.bx
    obtain ⟨y0, d0, d1, d2⟩ := G1.out.bx
    go_wp2_with fail
    go_ret2
    exact ⟨rfl, F1.out.bel⟩
set_option maxRecDepth 20000 in
set_option maxHeartbeats 6400000 in
theorem rPair_any {A B : Option Addr} {n cp m cq : Nat} {o p r s : Int} {l g : List (Int × Int)}  (w : World) (h : Hid (Sr w A n cp l)) (k : Hid (Sr w B m cq g)) (hv : Hid (vld ⟨o, p, l⟩ = true)) (kv : Hid (vld ⟨r, s, g⟩ = true)) :
    Calls Try.prog 72 #[.agg #[.int .i64 o, .int .i64 p, .slice A n cp], .agg #[.int .i64 r, .int .i64 s, .slice B m cq]] w fun x w' => x = .returned (.tuple #[.int .i64 (prr2 ⟨o, p, l⟩ ⟨r, s, g⟩).1, .int .i64 (prr2 ⟨o, p, l⟩ ⟨r, s, g⟩).2]) ∧ Below w.heap.size w w' := by
  have V := hVc hv
  have V2 := hVc kv
  have hl := Lib.hid h.out.len
  have kl := Lib.hid k.out.len
  have hnc := h.out.nc
  have knc := k.out.nc
  have hc63 := h.out.c63
  have kc63 := k.out.c63
  have n1 : 1 ≤ n := by have : 1 ≤ l.length := V.out.n1; have := hl.out; omega
  have n2 : n ≤ 5000 := by have : l.length ≤ 5000 := V.out.n2; have := hl.out; omega
  have m1 : 1 ≤ m := by have : 1 ≤ g.length := V2.out.n1; have := kl.out; omega
  have m2 : m ≤ 5000 := by have : g.length ≤ 5000 := V2.out.n2; have := kl.out; omega
  have p1 : 1 ≤ p := V.out.p1
  have p2 : p ≤ 12622780800 := V.out.p2
  have s1 : 1 ≤ s := V2.out.p1
  have s2 : s ≤ 12622780800 := V2.out.p2
  obtain ⟨W0, hW0⟩ : ∃ W0, (w.alloc (.cells #[.int .i64 o, .int .i64 p, .slice A n cp] 24)).alloc (.cells #[.int .i64 r, .int .i64 s, .slice B m cq] 24) = W0 := ⟨_, rfl⟩
  have F0 : Hid (Fx w W0 w.heap.size o p A n cp l) := Lib.hid (by rw [← hW0]; exact (Fx.new _ _ h.out).alloc _)
  have G0 : Hid (Fx w W0 (w.heap.size + 1) r s B m cq g) := Lib.hid (by rw [← hW0]; exact Fx.new2 _ _ _ k.out)
  have HW0 := Lib.hid hW0
  clear hW0
  obtain ⟨z0, c0, c1, c2⟩ := F0.out.bx
  obtain ⟨y0, d0, d1, d2⟩ := G0.out.bx
  rcases prr_cases V.out V2.out with ⟨z, e, hlc, ⟨hz, zb1, zb2⟩, hp⟩ | ⟨z, qa, qb, cp1, hp⟩
  · have HLC : Hid (M.lc p s = (z, e)) := Lib.hid hlc
    have R := Lib.hid hp
    clear hlc hp
    rcases hz with he | ⟨rfl, hz⟩
    · have he' : (e != 0) = true := by simpa using he
      clear he
      go_enter Try.func72, Try.ntmps72
      go_wp2_with fail
      rw [HW0.out]
      go_at_call 84
      refine (rLcmB _ p1 (by omega) s1 (by omega) HLC).mono ?_
      rintro e w1 ⟨rfl, b1⟩
      have F1 := Lib.hid (F0.out.step b1)
      have G1 := Lib.hid (G0.out.step b1)
      clear c0 c1 c2 z0 d0 d1 d2 y0
      obtain ⟨z0, c0, c1, c2⟩ := F1.out.bx
      obtain ⟨y0, d0, d1, d2⟩ := G1.out.bx
      go_wp2_with fail
      have R2 := Lib.hid (prr2_of R.out)
      go_ret2
      exact ⟨ret_int2 ((congrArg Prod.fst R2.out).trans (by rfl)).symm (congrArg Prod.snd R2.out).symm, F1.out.bel⟩
    · have hz' : decide (z > 12622780800) = true := by simpa using hz
      go_enter Try.func72, Try.ntmps72
      go_wp2_with fail
      rw [HW0.out]
      go_at_call 84
      refine (rLcmB _ p1 (by omega) s1 (by omega) HLC).mono ?_
      rintro e w1 ⟨rfl, b1⟩
      have F1 := Lib.hid (F0.out.step b1)
      have G1 := Lib.hid (G0.out.step b1)
      clear c0 c1 c2 z0 d0 d1 d2 y0
      obtain ⟨z0, c0, c1, c2⟩ := F1.out.bx
      obtain ⟨y0, d0, d1, d2⟩ := G1.out.bx
      go_wp2_with fail
      have R2 := Lib.hid (prr2_of R.out)
      go_ret2
      exact ⟨ret_int2 ((congrArg Prod.fst R2.out).trans (by rfl)).symm (congrArg Prod.snd R2.out).symm, F1.out.bel⟩
  · have HLC : Hid (M.lc p s = (z, 0)) := Lib.hid cp1.lc
    have p0 : p ≠ 0 := by omega
    have p0' : (p == 0) = false := by simp; omega
    have pm : (p == -1) = false := by simp; omega
    have s0 : s ≠ 0 := by omega
    have s0' : (s == 0) = false := by simp; omega
    have sm : (s == -1) = false := by simp; omega
    have nz0 : (n : Int) ≠ 0 := by omega
    have nz0' : ((n : Int) == 0) = false := by simp; omega
    have nzm : ((n : Int) == -1) = false := by simp
    have mz0 : (m : Int) ≠ 0 := by omega
    have mz0' : ((m : Int) == 0) = false := by simp; omega
    have mzm : ((m : Int) == -1) = false := by simp
    have z1 := cp1.m1
    have z2 := cp1.m2
    have a1' := cp1.a1
    have b1' := cp1.b1
    have a2' := cp1.a2
    have b2' := cp1.b2
    have da : z / p = qa := cp1.da
    have db : z / s = qb := cp1.db
    have ta : z.tdiv p = qa := by rw [Int.tdiv_eq_ediv_of_nonneg (by omega)]; exact da
    have tb : z.tdiv s = qb := by rw [Int.tdiv_eq_ediv_of_nonneg (by omega)]; exact db
    have hz' : decide (z > 12622780800) = false := by simp; omega
    have el : (((⟨o, p, l⟩ : Cal).l.length : Nat) : Int) = (n : Int) := by show (l.length : Int) = _; rw [← hl.out]
    have fl : (((⟨r, s, g⟩ : Cal).l.length : Nat) : Int) = (m : Int) := by show (g.length : Int) = _; rw [← kl.out]
    rw [el, fl] at hp
    have qn1 : qa * (n : Int) ≤ qa * 5000 := Int.mul_le_mul_of_nonneg_left (by omega) (by omega)
    have qn0 : 0 ≤ qa * (n : Int) := Int.mul_nonneg (by omega) (by omega)
    have qm1 : qb * (m : Int) ≤ qb * 5000 := Int.mul_le_mul_of_nonneg_left (by omega) (by omega)
    have qm0 : 0 ≤ qb * (m : Int) := Int.mul_nonneg (by omega) (by omega)
    have qn2 : qa * (n : Int) ≤ 63113904000000 := by omega
    have qm2 : qb * (m : Int) ≤ 63113904000000 := by omega
    clear el fl cp1
    rcases hp with ⟨hp, HH | ⟨HH, HH2⟩⟩ | ⟨hp, HH, HH2⟩
    all_goals have R := Lib.hid hp
    all_goals clear hp
    · have v1 : decide (5000 < qa * (n : Int)) = true := by simp; omega
      go_enter Try.func72, Try.ntmps72
      go_wp2_with fail
      rw [HW0.out]
      go_at_call 84
      refine (rLcmB _ p1 (by omega) s1 (by omega) HLC).mono ?_
      rintro e w1 ⟨rfl, b1⟩
      have F1 := Lib.hid (F0.out.step b1)
      have G1 := Lib.hid (G0.out.step b1)
      clear c0 c1 c2 z0 d0 d1 d2 y0
      obtain ⟨z0, c0, c1, c2⟩ := F1.out.bx
      obtain ⟨y0, d0, d1, d2⟩ := G1.out.bx
      go_wp2_with fail
      have hS := Abv.cells w1
      refine wp_region_abv (by kernel_rfl) (by kernel_rfl) ?_
      repeat (go_big_quiet_step ((fail)))
      refine wpQuiet_nil ?_
      rintro w2 hw2
      clear hS
      have b2 := hw2
      have F2 := Lib.hid (F1.out.step b2)
      have G2 := Lib.hid (G1.out.step b2)
      clear c0 c1 c2 z0 d0 d1 d2 y0
      obtain ⟨z0, c0, c1, c2⟩ := F2.out.bx
      obtain ⟨y0, d0, d1, d2⟩ := G2.out.bx
      go_wp2_with fail
      have R2 := Lib.hid (prr2_of R.out)
      go_ret2
      exact ⟨ret_int2 ((congrArg Prod.fst R2.out).trans (by rfl)).symm (congrArg Prod.snd R2.out).symm, F2.out.bel⟩
    · have v1 : decide (5000 < qa * (n : Int)) = false := by simp; omega
      have v2 : decide (5000 < qb * (m : Int)) = true := by simp; omega
      go_enter Try.func72, Try.ntmps72
      go_wp2_with fail
      rw [HW0.out]
      go_at_call 84
      refine (rLcmB _ p1 (by omega) s1 (by omega) HLC).mono ?_
      rintro e w1 ⟨rfl, b1⟩
      have F1 := Lib.hid (F0.out.step b1)
      have G1 := Lib.hid (G0.out.step b1)
      clear c0 c1 c2 z0 d0 d1 d2 y0
      obtain ⟨z0, c0, c1, c2⟩ := F1.out.bx
      obtain ⟨y0, d0, d1, d2⟩ := G1.out.bx
      go_wp2_with fail
      have hS := Abv.cells w1
      refine wp_region_abv (by kernel_rfl) (by kernel_rfl) ?_
      repeat (go_big_quiet_step ((fail)))
      refine wpQuiet_nil ?_
      rintro w2 hw2
      clear hS
      have b2 := hw2
      have F2 := Lib.hid (F1.out.step b2)
      have G2 := Lib.hid (G1.out.step b2)
      clear c0 c1 c2 z0 d0 d1 d2 y0
      obtain ⟨z0, c0, c1, c2⟩ := F2.out.bx
      obtain ⟨y0, d0, d1, d2⟩ := G2.out.bx
      go_wp2_with fail
      have R2 := Lib.hid (prr2_of R.out)
      go_ret2
      exact ⟨ret_int2 ((congrArg Prod.fst R2.out).trans (by rfl)).symm (congrArg Prod.snd R2.out).symm, F2.out.bel⟩
    · have v1 : decide (5000 < qa * (n : Int)) = false := by simp; omega
      have v2 : decide (5000 < qb * (m : Int)) = false := by simp; omega
      go_enter Try.func72, Try.ntmps72
      go_wp2_with fail
      rw [HW0.out]
      go_at_call 84
      refine (rLcmB _ p1 (by omega) s1 (by omega) HLC).mono ?_
      rintro e w1 ⟨rfl, b1⟩
      have F1 := Lib.hid (F0.out.step b1)
      have G1 := Lib.hid (G0.out.step b1)
      clear c0 c1 c2 z0 d0 d1 d2 y0
      obtain ⟨z0, c0, c1, c2⟩ := F1.out.bx
      obtain ⟨y0, d0, d1, d2⟩ := G1.out.bx
      go_wp2_with fail
      have hS := Abv.cells w1
      refine wp_region_abv (by kernel_rfl) (by kernel_rfl) ?_
      repeat (go_big_quiet_step ((fail)))
      refine wpQuiet_nil ?_
      rintro w2 hw2
      clear hS
      have b2 := hw2
      have F2 := Lib.hid (F1.out.step b2)
      have G2 := Lib.hid (G1.out.step b2)
      clear c0 c1 c2 z0 d0 d1 d2 y0
      obtain ⟨z0, c0, c1, c2⟩ := F2.out.bx
      obtain ⟨y0, d0, d1, d2⟩ := G2.out.bx
      go_wp2_with fail
      have R2 := Lib.hid (prr2_of R.out)
      go_ret2
      exact ⟨ret_int2 ((congrArg Prod.fst R2.out).trans (by rfl)).symm (congrArg Prod.snd R2.out).symm, F2.out.bel⟩
end Go.Proofs.Ytainibnjpkbfpaa.Cv
