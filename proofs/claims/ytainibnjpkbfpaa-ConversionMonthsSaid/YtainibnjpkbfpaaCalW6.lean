/- Walks: where a granule lies, which one is near. -/
import Derived.Test.YtainibnjpkbfpaaCalW5
namespace Go.Proofs.Ytainibnjpkbfpaa.Cv
set_option linter.unusedVariables false
set_option linter.unusedSimpArgs false
open Go.RowKit Wl

theorem drew_bel {B : Nat} {w w' : World} (h : ∃ n, w' = w.drewN n) : Below B w w' := by
  obtain ⟨n, rfl⟩ := h
  exact bdrewN (Below.refl _ _)
theorem DivB (a b : Int) (w : World) (h1 : -9223372036854775808 ≤ a) (h2 : a ≤ 9223372036854775807) (h3 : 1 ≤ b) (h4 : b ≤ 9223372036854775807) :
    Calls Try.prog 77 #[.int .i64 a, .int .i64 b] w fun e w' => e = .returned (.tuple #[.int .i64 (a / b), .int .i64 (a % b), .int .i64 0]) ∧ Below w.heap.size w w' :=
  (Div_pos a b w h1 h2 h3 h4).mono fun _ _ ⟨he, hw⟩ => ⟨he, drew_bel hw⟩
theorem FloorB (a b : Int) (w : World) (h1 : -9223372036854775808 ≤ a) (h2 : a ≤ 9223372036854775807) (h3 : 1 ≤ b) (h4 : b ≤ 9223372036854775807) :
    Calls Try.prog 51 #[.int .i64 a, .int .i64 b] w fun e w' => e = .returned (.int .i64 (a / b)) ∧ Below w.heap.size w w' :=
  (Floor_pos a b w h1 h2 h3 h4).mono fun _ _ ⟨he, hw⟩ => ⟨he, drew_bel hw⟩
/-- A calendar in a box. -/
structure Bx (W : World) (p : Nat) (o q : Int) (A : Option Addr) (n c : Nat) : Prop where
  lt : p < W.heap.size
  k0 : W.cell? ⟨p, 0, none⟩ = some (.int .i64 o)
  k1 : W.cell? ⟨p, 1, none⟩ = some (.int .i64 q)
  k2 : W.cell? ⟨p, 2, none⟩ = some (.slice A n c)
theorem Bx.below {W U : World} {p : Nat} {o q : Int} {A : Option Addr} {n c : Nat} (h : Bx W p o q A n c) (hb : Below W.heap.size W U) : Bx U p o q A n c :=
  ⟨Nat.lt_of_lt_of_le h.lt hb.size, (hb.cell (p := ⟨p, 0, none⟩) h.lt).trans h.k0, (hb.cell (p := ⟨p, 1, none⟩) h.lt).trans h.k1, (hb.cell (p := ⟨p, 2, none⟩) h.lt).trans h.k2⟩
theorem Bx.new (w : World) (o q : Int) (A : Option Addr) (n c : Nat) (T : TypeId) : Bx (w.alloc (.cells #[.int .i64 o, .int .i64 q, .slice A n c] T)) w.heap.size o q A n c := by
  obtain ⟨h0, h1, h2⟩ := box3 w (.int .i64 o) (.int .i64 q) (.slice A n c) T
  exact ⟨by simp, h0, h1, h2⟩
/-- A span of the call's own. -/
structure Sb (W : World) (p : Nat) (a b : Int) : Prop where
  lt : p < W.heap.size
  k0 : W.cell? ⟨p, 0, none⟩ = some (.int .i64 a)
  k1 : W.cell? ⟨p, 1, none⟩ = some (.int .i64 b)
  f0 : W.frozen? ⟨p, 0, none⟩ = false
  f1 : W.frozen? ⟨p, 1, none⟩ = false
theorem Sb.below {W U : World} {p : Nat} {a b : Int} (h : Sb W p a b) (hb : Below W.heap.size W U) : Sb U p a b :=
  ⟨Nat.lt_of_lt_of_le h.lt hb.size, (hb.cell (p := ⟨p, 0, none⟩) h.lt).trans h.k0, (hb.cell (p := ⟨p, 1, none⟩) h.lt).trans h.k1, (hb.frozen (p := ⟨p, 0, none⟩) h.lt).trans h.f0, (hb.frozen (p := ⟨p, 1, none⟩) h.lt).trans h.f1⟩
theorem Sb.new (w : World) (a b : Int) (T : TypeId) : Sb (w.alloc (.cells #[.int .i64 a, .int .i64 b] T)) w.heap.size a b := by
  obtain ⟨h0, h1⟩ := box2 w (.int .i64 a) (.int .i64 b) T
  refine ⟨by simp, h0, h1, ?_, ?_⟩ <;> (unfold World.frozen?; rw [heap_alloc_new]; rfl)
theorem bal (w : World) (o : Obj) : Below w.heap.size w (w.alloc o) := (Below.refl _ _).alloc (Nat.le_refl _) _
set_option maxHeartbeats 1600000 in
theorem place_any {A : Option Addr} {n cp : Nat} {o p : Int} {l : List (Int × Int)} (k : Int) (w : World) (h : Hid (Sr w A n cp l)) (hv : Hid (Vc ⟨o, p, l⟩)) (k1 : -9223372036854775808 ≤ k) (k2 : k ≤ 9223372036854775807)
    (m1 : -1125899906842624 ≤ p * (k / (l.length : Int))) (m2 : p * (k / (l.length : Int)) ≤ 1125899906842624) :
    Calls Try.prog 45 #[.agg #[.int .i64 o, .int .i64 p, .slice A n cp], .int .i64 k] w fun e w' => e = .returned (.agg #[.int .i64 (pl ⟨o, p, l⟩ k).1, .int .i64 (pl ⟨o, p, l⟩ k).2]) ∧ Below w.heap.size w w' := by
  have hnc := h.out.nc
  have hc63 := h.out.c63
  have hl := Lib.hid h.out.len
  have hn1 : 1 ≤ n := by have : 1 ≤ l.length := hv.out.n1; have := hl.out; omega
  have o1 : -2199023255552 ≤ o := hv.out.o1
  have o2 : o ≤ 2199023255552 := hv.out.o2
  have p1 : 1 ≤ p := hv.out.p1
  have p2 : p ≤ 12622780800 := hv.out.p2
  rw [← hl.out] at m1 m2
  obtain ⟨q, hq⟩ : ∃ q, k / (n : Int) = q := ⟨_, rfl⟩
  have r0 := Int.emod_nonneg k (show (n : Int) ≠ 0 by omega)
  have r1 := Int.emod_lt_of_pos k (show (0 : Int) < n by omega)
  obtain ⟨i, hi⟩ := Int.eq_ofNat_of_zero_le r0
  have hin : i < n := by omega
  rw [hq] at m1 m2
  have HP : Hid (pl ⟨o, p, l⟩ k = ((gt l i).1 + (o + p * q), (gt l i).2 + (o + p * q))) := Lib.hid (by
    unfold pl
    show ((gt l (k % (l.length : Int)).toNat).1 + (o + p * (k / (l.length : Int))), (gt l (k % (l.length : Int)).toNat).2 + (o + p * (k / (l.length : Int)))) = _
    rw [← hl.out, hq, hi]; rfl)
  obtain ⟨x, hx⟩ : ∃ x, (gt l i).1 = x := ⟨_, rfl⟩
  obtain ⟨y, hy⟩ : ∃ y, (gt l i).2 = y := ⟨_, rfl⟩
  have hil : i < l.length := by have := hl.out; omega
  have x0 : (i : Int) ≤ (gt l i).1 := hv.out.lo hil
  have xy : (gt l i).1 < (gt l i).2 := hv.out.lt i hil
  have y1 : (gt l i).2 ≤ p := hv.out.up hil
  rw [hx] at HP x0 xy
  rw [hy] at HP xy y1
  have HX := Lib.hid hx
  have HY := Lib.hid hy
  have HQ := Lib.hid hq
  have HI := Lib.hid hi
  obtain ⟨W0, hW0⟩ : ∃ W0, (w.alloc (.cells #[.int .i64 o, .int .i64 p, .slice A n cp] 24)).alloc (.cells #[.int .i64 0, .int .i64 0] 35) = W0 := ⟨_, rfl⟩
  have hb0 : Below w.heap.size w W0 := hW0 ▸ (bal _ _).trans ((bal _ _).mono (by simp))
  have bx : Bx W0 w.heap.size o p A n cp := hW0 ▸ (Bx.new _ _ _ _ _ _ _).below (bal _ _)
  have sb : Sb W0 (w.heap.size + 1) 0 0 := hW0 ▸ (by have := Sb.new (w.alloc (.cells #[.int .i64 o, .int .i64 p, .slice A n cp] 24)) 0 0 35; simpa using this)
  have h0 := Lib.hid (h.out.below hb0)
  have HW0 := Lib.hid hW0
  clear hW0 hx hy hq hi r0 r1 hil
  obtain ⟨z0, c0, c1, c2⟩ := bx
  go_enter Try.func45, Try.ntmps45
  go_wp2_with fail
  rw [HW0.out]
  go_at_call 77
  refine (DivB k (n : Int) _ k1 k2 (by omega) (by omega)).mono ?_
  rintro e w1 ⟨rfl, b1⟩
  rw [HQ.out, HI.out]
  have s1 := sb.below b1
  have h1 := Lib.hid (h0.out.below b1)
  obtain ⟨g, of_, rfl, hg, a0, a1⟩ := h1.out.at_ hin
  rw [HX.out] at a0
  rw [HY.out] at a1
  have hb1 := hb0.trans (b1.mono hb0.size)
  have d0 := (b1.cell (p := ⟨w.heap.size, 0, none⟩) z0).trans c0
  have d1 := (b1.cell (p := ⟨w.heap.size, 1, none⟩) z0).trans c1
  have d2 := (b1.cell (p := ⟨w.heap.size, 2, none⟩) z0).trans c2
  have zz := b1.size
  have z1 : w.heap.size < w1.heap.size := by omega
  clear c0 c1 c2 sb b1
  go_wp2_with fail
  have hS := Abv.cells w1
  refine wp_region_abv_tail 17 (by kernel_rfl) (by kernel_rfl) ?_
  simp only [List.take_succ_cons, List.take_zero, List.drop_succ_cons, List.drop_zero]
  repeat (go_big_quiet_step ((fail)))
  refine wpQuiet_nil ?_
  rintro w2 hw2
  clear hS
  obtain ⟨t0, e0, e1, f0, f1⟩ := s1.below hw2
  have hb2 := hb1.trans (hw2.mono hb1.size)
  go_wp2_with fail
  exact bodyPost_ret (v := .agg #[.int .i64 (x + (o + p * q)), .int .i64 (y + (o + p * q))]) (by simp [results, Try.results45, go_sem, e0, e1, t0]) rfl ⟨ret_val (by rw [HP.out]), (hb2.setCell (by simp) _).setCell (by simp) _⟩
end Go.Proofs.Ytainibnjpkbfpaa.Cv
