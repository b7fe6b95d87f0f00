/- Walks: granule.Of, where it takes a calendar as it is. -/
import Derived.Test.YtainibnjpkbfpaaCalW19
import Derived.Test.YtainibnjpkbfpaaCalW6
namespace Go.Proofs.Ytainibnjpkbfpaa.Cv
set_option linter.unusedVariables false
set_option linter.unusedSimpArgs false
open Go.RowKit Wl

/-- A box of three cells that may be written. -/
structure Cb (W : World) (p : Nat) (a b c : Value) : Prop where
  lt : p < W.heap.size
  k0 : W.cell? ⟨p, 0, none⟩ = some a
  k1 : W.cell? ⟨p, 1, none⟩ = some b
  k2 : W.cell? ⟨p, 2, none⟩ = some c
  f0 : W.frozen? ⟨p, 0, none⟩ = false
  f1 : W.frozen? ⟨p, 1, none⟩ = false
  f2 : W.frozen? ⟨p, 2, none⟩ = false
section
variable {W U : World} {p B : Nat} {a b c : Value}
theorem Cb.below (h : Cb W p a b c) (hb : Below B W U) (hp : p < B) : Cb U p a b c :=
  ⟨Nat.lt_of_lt_of_le h.lt hb.size, (hb.cell (p := ⟨p, 0, none⟩) hp).trans h.k0, (hb.cell (p := ⟨p, 1, none⟩) hp).trans h.k1, (hb.cell (p := ⟨p, 2, none⟩) hp).trans h.k2,
    (hb.frozen (p := ⟨p, 0, none⟩) hp).trans h.f0, (hb.frozen (p := ⟨p, 1, none⟩) hp).trans h.f1, (hb.frozen (p := ⟨p, 2, none⟩) hp).trans h.f2⟩
theorem Cb.step (h : Cb W p a b c) (hb : Below W.heap.size W U) : Cb U p a b c := h.below hb h.lt
theorem Cb.new (w : World) (a b c : Value) (T : TypeId) : Cb (w.alloc (.cells #[a, b, c] T)) w.heap.size a b c := by
  obtain ⟨h0, h1, h2⟩ := box3 w a b c T
  refine ⟨by simp, h0, h1, h2, ?_, ?_, ?_⟩ <;> (unfold World.frozen?; rw [heap_alloc_new]; rfl)
theorem Cb.set2 (h : Cb W p a b c) (v : Value) : Cb (W.setCell ⟨p, 2, none⟩ v) p a b v := by
  obtain ⟨t0, e0, e1, e2, f0, f1, f2⟩ := h
  refine ⟨by simpa using t0, ?_, ?_, ?_, ?_, ?_, ?_⟩ <;> simp [go_sem, e0, e1, e2, f0, f1, f2, t0]
theorem Cb.all (h : Cb W p a b c) (x y z : Value) : Cb (((W.setCell ⟨p, 0, none⟩ x).setCell ⟨p, 1, none⟩ y).setCell ⟨p, 2, none⟩ z) p x y z := by
  obtain ⟨t0, e0, e1, e2, f0, f1, f2⟩ := h
  refine ⟨by simpa using t0, ?_, ?_, ?_, ?_, ?_, ?_⟩ <;> simp [go_sem, e0, e1, e2, f0, f1, f2, t0]
theorem Cb.set1 (h : Cb W p a b c) (v : Value) : Cb (W.setCell ⟨p, 1, none⟩ v) p a v c := by
  obtain ⟨t0, e0, e1, e2, f0, f1, f2⟩ := h
  refine ⟨by simpa using t0, ?_, ?_, ?_, ?_, ?_, ?_⟩ <;> simp [go_sem, e0, e1, e2, f0, f1, f2, t0]
theorem Cb.other (h : Cb W p a b c) {q : Nat} (hq : q ≠ p) (o : Nat) (v : Value) : Cb (W.setCell ⟨q, o, none⟩ v) p a b c := by
  have e : ∀ k, (W.setCell ⟨q, o, none⟩ v).cell? ⟨p, k, none⟩ = W.cell? ⟨p, k, none⟩ := fun k => World.cell?_of_block (Below.heap_setCell W ⟨q, o, none⟩ v p (fun e => hq e.symm))
  have f : ∀ k, (W.setCell ⟨q, o, none⟩ v).frozen? ⟨p, k, none⟩ = W.frozen? ⟨p, k, none⟩ := fun k => World.frozen?_of_block (Below.heap_setCell W ⟨q, o, none⟩ v p (fun e => hq e.symm))
  exact ⟨by simpa using h.lt, (e 0).trans h.k0, (e 1).trans h.k1, (e 2).trans h.k2, (f 0).trans h.f0, (f 1).trans h.f1, (f 2).trans h.f2⟩
end
theorem rd_lit {q : Nat} (w : World) (hq : w.heap.size = q) (e size : Nat) (cs : Array Value) (n : Nat) (hm : n ≤ 9223372036854775807) (hs : cs.size = n * size) : Rd (w.alloc (.cells cs e)) size (some ⟨q, 0, none⟩) n n cs.toList := by
  subst hq; exact Rd.lit w e size cs n hm hs
theorem rd_cap {w : World} {size n c g o : Nat} {xs : List Value} (h : Rd w size (some ⟨g, o, none⟩) n c xs) (h0 : 0 < n) : Rd w size (some ⟨g, o, none⟩) n n xs :=
  ⟨h.len, Nat.le_refl _, fun e => (by cases e), Nat.le_trans h.nc h.c63, h.at_⟩
theorem cb_app {wr w3 : World} {p n cc e size : Nat} {a b c : Value} {o1 o2 : Obj} {A' A1 : Option Addr} {xs : List Value} (D : Cb wr p a b c) (hown : wr.ownsRow (p + 1) e size (.slice A' n cc) n xs) (hg : Grew ((wr.alloc o1).alloc o2) A' w3 A1) :
    Cb w3 p a b c ∧ Below (p + 1) wr w3 ∧ blk A1 ≠ some p := by
  have hp := D.lt
  have hA : ∀ g, blk A' = some g → p + 1 ≤ g := fun g e => (own_blk_le hown e).1
  have h1 : Below (p + 1) wr ((wr.alloc o1).alloc o2) := (bel_alloc ((Below.refl _ _).alloc (Nat.le_refl _) _) (Nat.le_refl _) _).mono (by omega)
  have h2 := hg.low h1 (by simp; omega) hA
  refine ⟨D.below h2 (by omega), h2, ?_⟩
  rcases hg.at_ with e | ⟨g, e, hg2⟩
  · rw [e]; intro e2; have := hA p e2; omega
  · rw [e]; intro e2; injection e2 with e2; simp at hg2; omega
theorem sc_take {l : List (Int × Int)} {j : Nat} (h : j < l.length) : sc (l.take (j + 1)) = sc (l.take j) ++ [.int .i64 (gt l j).1, .int .i64 (gt l j).2] := by
  have : l.take (j + 1) = l.take j ++ [gt l j] := by rw [List.take_add_one, gt_some h]; rfl
  rw [this, sc_app]; simp [sc]
theorem ascending_t {A : Option Addr} {n c : Nat} {l : List (Int × Int)} (w : World) (h : Hid (Sr w A n c l)) (ha : Hid (ascB l = true)) : Calls Try.prog 75 #[.slice A n c] w fun e w' => e = .returned (.bool true) ∧ Below w.heap.size w w' := by
  have := ascending_any w h
  rw [ha.out] at this; exact this
theorem least_at {A : Option Addr} {n c : Nat} {l : List (Int × Int)} {p : Int} {m : Nat} (w : World) (h : Hid (Sr w A n c l)) (hb : Hid (Bd l)) (hn : n ≤ 5000) (p1 : 1 ≤ p) (p2 : p ≤ 12622780800) (hm : Hid (lst p l = m)) :
    Calls Try.prog 76 #[.int .i64 p, .slice A n c] w fun e w' => e = .returned (.int .i64 (m : Int)) ∧ Below w.heap.size w w' := by
  have := least_any p w h hb hn p1 p2
  rw [hm.out] at this; exact this
set_option maxRecDepth 20000 in
set_option maxHeartbeats 6400000 in
theorem Of_any {A : Option Addr} {n cp : Nat} {o p : Int} {l : List (Int × Int)} (w : World) (h : Hid (Sr w A n cp l)) (ha : Hid (ascB l = true)) (hz : Hid ((gt l 0).1 = 0)) (hup : Hid ((gt l (n - 1)).2 ≤ p)) (p1 : 1 ≤ p) (p2 : p ≤ 12622780800)
    (n1 : 1 ≤ n) (n2 : n ≤ 5000) (o1 : -2199023255552 ≤ o) (o2 : o ≤ 2199023255552) (hlst : Hid (lst p l = n)) :
    Calls Try.prog 63 #[.int .i64 o, .int .i64 p, .slice A n cp] w fun e w' => ∃ g : Nat, e = .returned (.tuple #[.agg #[.int .i64 o, .int .i64 p, .slice (some ⟨g, 0, none⟩) n n], .int .i64 0]) ∧ w.heap.size ≤ g ∧ Hid (Sr w' (some ⟨g, 0, none⟩) n n l) ∧ Below w.heap.size w w' := by
  obtain ⟨i0, hi, hz0, hz1, hz2⟩ := info_parts info_span
  have hnc := h.out.nc
  have hc63 := h.out.c63
  have hl := Lib.hid h.out.len
  have BD := Lib.hid (bd_asc ha.out)
  have LO : Hid (line o = true) := Lib.hid (line_i (by omega) (by omega))
  have HO : Hid (half o = true) := Lib.hid (by unfold half; exact decide_eq_true (by omega))
  obtain ⟨y, hy⟩ : ∃ y, (gt l (n - 1)).2 = y := ⟨_, rfl⟩
  have hyp : y ≤ p := by rw [← hy]; exact hup.out
  have HY := Lib.hid hy
  have by1 := (BD.out (n - 1) (by have := hl.out; omega)).2.2
  rw [hy] at by1
  obtain ⟨by1, by2⟩ := by1
  have hy' : decide (p < y) = false := by simp; omega
  have d1 : decide (p < 1) = false := by simp; omega
  have d2 : decide (12622780800 < p) = false := by simp; omega
  obtain ⟨m, hm⟩ : ∃ m, n - 1 = m := ⟨_, rfl⟩
  have hm1 : (n : Int) - 1 = (m : Int) := by omega
  have hmn : m < n := by omega
  have hmn' : (m : Int) < (n : Int) := by omega
  have hn0 : (0 : Int) < (n : Int) := by omega
  have hn5 : decide ((n : Int) > 5000) = false := by simp; omega
  rw [hm] at HY
  clear hy hm
  obtain ⟨W0, hW0⟩ : ∃ W0, w.alloc (.cells #[.int .i64 0, .int .i64 0, .slice none 0 0] 24) = W0 := ⟨_, rfl⟩
  have hb0 : Below w.heap.size w W0 := hW0 ▸ bal _ _
  have C0 : Hid (Cb W0 w.heap.size (.int .i64 0) (.int .i64 0) (.slice none 0 0)) := Lib.hid (hW0 ▸ Cb.new _ _ _ _ _)
  have h0 := Lib.hid (h.out.below hb0)
  have HW0 := Lib.hid hW0
  clear hW0
  obtain ⟨g, of_, rfl, hg, a0, _⟩ := h0.out.at_ (i := 0) n1
  obtain ⟨_, _, e1⟩ := h0.out.at2 hmn
  rw [Nat.zero_mul, Nat.add_zero, hz.out] at a0
  rw [HY.out] at e1
  go_enter Try.func63, Try.ntmps63
  go_wp2_with fail
  rw [HW0.out]
  have hS := Abv.cells W0
  refine wp_region_abv (by kernel_rfl) (by kernel_rfl) ?_
  repeat (go_big_quiet_step ((go_at_call 75; exact abv_call (ascending_t _ (Lib.hid (h0.out.below (Abv.bel _))) ha))))
  refine wpQuiet_nil ?_
  rintro w1 hw1
  clear hS
  have bw1 : Below w.heap.size w w1 := hb0.trans (hw1.mono hb0.size)
  have C1 := Lib.hid (C0.out.step hw1)
  have h1 := Lib.hid (h0.out.below hw1)
  obtain ⟨_, f0, _⟩ := h1.out.at2 (i := 0) n1
  rw [Nat.zero_mul, Nat.add_zero, hz.out] at f0
  clear a0 e1
  go_wp2_with (first | (go_at_call 48; refine (gline_any o _).mono ?_; rintro e w2 ⟨rfl, rfl⟩; rw [LO.out]) | (go_at_call 74; refine (half_any o _).mono ?_; rintro e w2 ⟨rfl, rfl⟩; rw [HO.out]))
  obtain ⟨W2, hW2⟩ : ∃ W2, w1.alloc (.cells #[.int .i64 o, .int .i64 p, .slice none 0 0] 24) = W2 := ⟨_, rfl⟩
  have b2 : Below w1.heap.size w1 W2 := hW2 ▸ bal _ _
  have C2 := Lib.hid (C1.out.step b2)
  have D2 : Hid (Cb W2 w1.heap.size (.int .i64 o) (.int .i64 p) (.slice none 0 0)) := Lib.hid (hW2 ▸ Cb.new _ _ _ _ _)
  have h2 := Lib.hid (h1.out.below b2)
  have bw2 := bw1.trans (b2.mono bw1.size)
  have hs2 : W2.heap.size = w1.heap.size + 1 := by rw [← hW2]; simp
  have hwz := bw1.size
  have hzc := C1.out.lt
  rw [hW2]
  clear hW2 f0
  go_loopw [67] (fun iv wr => ∃ (j : Nat) (A' : Option Addr) (c' : Nat), j ≤ n ∧ iv = .int .i64 j ∧ Hid (Below w1.heap.size w1 wr) ∧ Hid (Cb wr w1.heap.size (.int .i64 o) (.int .i64 p) (.slice A' j c')) ∧ Hid (wr.ownsRow (w1.heap.size + 1) 35 2 (.slice A' j c') j (sc (l.take j)))) (fun i _ => (n - intOf i).toNat)
  case atStart => exact ⟨0, none, 0, by omega, rfl, Lib.hid b2, D2, Lib.hid (World.ownsRow_nil _ _ _ _)⟩
  case round =>
    obtain ⟨j, A', c', hj, rfl, bw, D, hown⟩ := hrel
    have hzw := bw.out.size
    have hr := Lib.hid (h1.out.below bw.out)
    obtain ⟨dz, d0, d1', d2', df0, df1, df2⟩ := D.out
    by_cases hlt : j < n
    · obtain ⟨_, r0, r1⟩ := hr.out.at2 hlt
      have hsc := Lib.hid (sc_take (l := l) (j := j) (by have := hl.out; omega))
      obtain ⟨bx1, bx2, by3, by4⟩ := BD.out j (by have := hl.out; omega)
      obtain ⟨x, hx⟩ : ∃ x, (gt l j).1 = x := ⟨_, rfl⟩
      obtain ⟨z, hz'⟩ : ∃ x, (gt l j).2 = x := ⟨_, rfl⟩
      rw [hx] at r0 hsc bx1 bx2
      rw [hz'] at r1 hsc by3 by4
      clear hx hz'
      go_wp2_with (at_builtin; refine wpList_app _ rfl (.tmp 72) (.tmp 82) 22 rfl (w1.heap.size + 1) 35 i0 (.agg #[.int .i64 0, .int .i64 0]) 2 16 Try.underlying22 hi hz0 hz1 hz2 rfl (by omega) (by rfl) (own_alloc (own_alloc hown.out _) _) (by rfl) (rd_lit (q := wr.heap.size + 1) _ (by simp) _ 2 #[.int .i64 x, .int .i64 z] 1 (by omega) rfl) (sc_one1 _ _) (by omega) (by omega) (by simp; omega) ?_; intro A1 c1 w3 hown1 hg1; obtain ⟨D3, bw3, hne⟩ := cb_app D.out hown.out hg1; obtain ⟨dz', g0, g1, g2, gf0, gf1, gf2⟩ := D3)
      have bw4 : Below w1.heap.size w1 (w3.setCell ⟨w1.heap.size, 2, none⟩ (.slice A1 (j + 1) c1)) := (bw.out.trans (bw3.mono (by omega))).setCell (by simp) _
      have D4 := Lib.hid ((cb_app D.out hown.out hg1).1.set2 (.slice A1 (j + 1) c1))
      have O4 := own_set hown1 ⟨w1.heap.size, 2, none⟩ (.slice A1 (j + 1) c1) hne
      refine ⟨⟨j + 1, A1, c1, by omega, by go_num, Lib.hid bw4, D4, Lib.hid ?_⟩, by simp [intOf]; omega⟩
      rw [hsc.out]
      exact O4
    · obtain rfl : j = n := by omega
      obtain ⟨g', rfl, jc, jc2⟩ := own_pos hown.out (by omega)
      have HT : Hid (l.take j = l) := Lib.hid (List.take_of_length_le (by have := hl.out; omega))
      have rd := Rd.of_own hown.out
      rw [HT.out] at rd
      have S := Lib.hid (rd : Sr wr (some ⟨g', 0, none⟩) j c' l)
      have C := Lib.hid (C1.out.step bw.out)
      go_wp2_with fail
      go_at_call 76
      refine (least_at _ S BD n2 p1 p2 hlst).mono ?_
      rintro e w4 ⟨rfl, b4⟩
      have D4 := Lib.hid (D.out.step b4)
      have C4 := Lib.hid (C.out.step b4)
      have S4 := Lib.hid (S.out.below b4)
      have bw4 := Lib.hid (bw.out.trans (b4.mono bw.out.size))
      clear d0 d1' d2' df0 df1 df2 dz
      obtain ⟨dz, d0, d1', d2', df0, df1, df2⟩ := D4.out
      have hj0 : 0 < j := by omega
      have q1 : (j : Int).tdiv (j : Int) = 1 := Int.tdiv_self (by omega)
      have q1' : (j : Int) / (j : Int) = 1 := Int.ediv_self (by omega)
      have q2 : p.tdiv 1 = p := Int.tdiv_one p
      have q3 : p / 1 = p := Int.ediv_one p
      have jm : ((j : Int) == -1) = false := by simp
      have j0 : ((j : Int) == 0) = false := by simp; omega
      have j0' : (j : Int) ≠ 0 := by omega
      go_wp2_with fail
      have hS := Abv.cells w4
      refine wp_region_abv_tail 9 (by kernel_rfl) (by kernel_rfl) ?_
      simp only [List.take_succ_cons, List.take_zero, List.drop_succ_cons, List.drop_zero]
      repeat (go_big_quiet_step ((fail)))
      refine wpQuiet_nil ?_
      rintro w5 hw5
      clear hS
      have D5 := Lib.hid (D4.out.step hw5)
      have C5 := Lib.hid (C4.out.step hw5)
      have S5 := Lib.hid (S4.out.below hw5)
      have bw5 := Lib.hid (bw4.out.trans (hw5.mono bw4.out.size))
      clear d0 d1' d2' df0 df1 df2 dz
      obtain ⟨dz, d0, d1', d2', df0, df1, df2⟩ := D5.out
      have D6 := Lib.hid ((D5.out.set1 (.int .i64 p)))
      have D7 := Lib.hid ((D5.out.set1 (.int .i64 p)).set2 (.slice (some ⟨g', 0, none⟩) j j))
      obtain ⟨_, g0, g1, g2, _, _, _⟩ := D6.out
      have hq : w1.heap.size ≠ w.heap.size := by omega
      have C7 := Lib.hid ((C5.out.other hq 1 (.int .i64 p)).other hq 2 (.slice (some ⟨g', 0, none⟩) j j))
      have Z := Lib.hid (C7.out.all (.int .i64 o) (.int .i64 p) (.slice (some ⟨g', 0, none⟩) j j))
      obtain ⟨t0, e0, e1, e2, f0, f1, f2⟩ := C7.out
      go_wp2_with fail
      clear t0 e0 e1 e2 f0 f1 f2 g0 g1 g2 d0 d1' d2' df0 df1 df2 dz
      obtain ⟨t0, e0, e1, e2, f0, f1, f2⟩ := Z.out
      have bZ : Below w.heap.size w _ := ((((bw1.trans (bw5.out.mono (by omega))).setCell (p := ⟨w1.heap.size, 1, none⟩) (by show w.heap.size ≤ w1.heap.size; omega) (.int .i64 p)).setCell (p := ⟨w1.heap.size, 2, none⟩) (by show w.heap.size ≤ w1.heap.size; omega) (.slice (some ⟨g', 0, none⟩) j j)).setCell (p := ⟨w.heap.size, 0, none⟩) (by simp) (.int .i64 o)).setCell (p := ⟨w.heap.size, 1, none⟩) (by simp) (.int .i64 p)
      have gb := (own_blk_le hown.out (g := g') rfl).1
      have SZ : Sr _ (some ⟨g', 0, none⟩) j j l := ((((((rd_cap S5.out hj0).set ⟨w1.heap.size, 1, none⟩ (.int .i64 p) (fun _ e => by simp [blk] at e; omega)).set ⟨w1.heap.size, 2, none⟩ (.slice (some ⟨g', 0, none⟩) j j) (fun _ e => by simp [blk] at e; omega)).set ⟨w.heap.size, 0, none⟩ (.int .i64 o) (fun _ e => by simp [blk] at e; omega)).set ⟨w.heap.size, 1, none⟩ (.int .i64 p) (fun _ e => by simp [blk] at e; omega)).set ⟨w.heap.size, 2, none⟩ (.slice (some ⟨g', 0, none⟩) j j) (fun _ e => by simp [blk] at e; omega))
      exact bodyPost_ret (v := .tuple #[.agg #[.int .i64 o, .int .i64 p, .slice (some ⟨g', 0, none⟩) j j], .int .i64 0]) (by simp [results, Try.results63, go_sem, e0, e1, e2, t0]) rfl ⟨_, rfl, by omega, Lib.hid SZ, bZ.setCell (by simp) _⟩
end Go.Proofs.Ytainibnjpkbfpaa.Cv
