/- Walks: granule.row, Months. -/
import Derived.Test.YtainibnjpkbfpaaCalW20
namespace Go.Proofs.Ytainibnjpkbfpaa.Cv
set_option linter.unusedVariables false
set_option linter.unusedSimpArgs false
open Go.RowKit Wl

theorem sp_sc {f : Nat → Int} {j : Nat} : sc (sp f (j + 1)) = sc (sp f j) ++ [.int .i64 (f j), .int .i64 (f (j + 1))] := by rw [sp_succ, sc_app]; simp [sc]
theorem cb_app1 {wr w3 : World} {p B n cc e size : Nat} {a b c : Value} {o1 : Obj} {A' A1 : Option Addr} {xs : List Value} (D : Cb wr p a b c) (hB : p < B) (hBw : B ≤ wr.heap.size) (hown : wr.ownsRow B e size (.slice A' n cc) n xs) (hg : Grew (wr.alloc o1) A' w3 A1) :
    Cb w3 p a b c ∧ Below B wr w3 := by
  have hA : ∀ g, blk A' = some g → B ≤ g := fun g e => (own_blk_le hown e).1
  have h1 : Below B wr (wr.alloc o1) := ((Below.refl _ _).alloc (Nat.le_refl _) _).mono hBw
  have h2 := hg.low h1 (by simp; omega) hA
  exact ⟨D.below h2 hB, h2⟩
set_option maxRecDepth 20000 in
set_option maxHeartbeats 6400000 in
theorem row_any {A : Option Addr} {n cp : Nat} {o : Int} {f : Nat → Int} (w : World) (h : Hid (Rd w 1 A n cp (ln f n))) (hf : Hid (Inc f n)) (n1 : 1 ≤ n) (n2 : n ≤ 5000) (o1 : -2199023255552 ≤ o) (o2 : o ≤ 2199023255552) (hlst : Hid (lst (f n) (sp f n) = n)) :
    Calls Try.prog 62 #[.int .i64 o, .slice A n cp] w fun e w' => ∃ g : Nat, e = .returned (.agg #[.int .i64 o, .int .i64 (f n), .slice (some ⟨g, 0, none⟩) n n]) ∧ w.heap.size ≤ g ∧ Hid (Sr w' (some ⟨g, 0, none⟩) n n (sp f n)) ∧ Below w.heap.size w w' := by
  obtain ⟨i0, hi, hz0, hz1, hz2⟩ := info_parts info_span
  have hnc := h.out.nc
  have hc63 := h.out.c63
  obtain ⟨W0, hW0⟩ : ∃ W0, w.alloc (.cells #[.int .i64 0, .int .i64 0, .slice none 0 0] 24) = W0 := ⟨_, rfl⟩
  have hb0 : Below w.heap.size w W0 := hW0 ▸ bal _ _
  have C0 : Hid (Cb W0 w.heap.size (.int .i64 0) (.int .i64 0) (.slice none 0 0)) := Lib.hid (hW0 ▸ Cb.new _ _ _ _ _)
  have h0 := Lib.hid (h.out.below hb0)
  have hs0 : W0.heap.size = w.heap.size + 1 := by rw [← hW0]; simp
  have HW0 := Lib.hid hW0
  clear hW0
  go_enter Try.func62, Try.ntmps62
  go_wp2_with fail
  rw [HW0.out]
  go_loopw [5, 6, 13] (fun lv fv iv wr => ∃ (j : Nat) (A' : Option Addr) (c' : Nat), j ≤ n ∧ iv = .int .i64 j ∧ fv = .int .i64 (f j) ∧ lv = .slice A' j c' ∧ Hid (Below w.heap.size w wr) ∧ Hid (Below W0.heap.size W0 wr) ∧ Hid (Cb wr w.heap.size (.int .i64 0) (.int .i64 0) (.slice none 0 0)) ∧ Hid (wr.ownsRow (w.heap.size + 1) 35 2 (.slice A' j c') j (sc (sp f j)))) (fun _ _ i _ => (n - intOf i).toNat)
  case atStart => exact ⟨0, none, 0, by omega, rfl, by rw [hf.out.z], rfl, Lib.hid hb0, Lib.hid (Below.refl _ _), C0, Lib.hid (World.ownsRow_nil _ _ _ _)⟩
  case round =>
    obtain ⟨j, A', c', hj, rfl, rfl, rfl, bw, bw0, C, hown⟩ := hrel
    have hzw := bw0.out.size
    have hr := Lib.hid (h0.out.below bw0.out)
    by_cases hlt : j < n
    · obtain ⟨g, of_, rfl, hg, hc⟩ := hr.out.at_ (by omega)
      have r0 := hc j (by omega)
      rw [ln_get hlt] at r0
      clear hc
      obtain ⟨bx1, bx2⟩ := hf.out.bd (i := j) (by omega)
      obtain ⟨by1, by2⟩ := hf.out.bd (i := j + 1) (by omega)
      have hsc := Lib.hid (sp_sc (f := f) (j := j))
      have hd : f j + (f (j + 1) - f j) = f (j + 1) := by omega
      obtain ⟨x, hx⟩ : ∃ x, f j = x := ⟨_, rfl⟩
      obtain ⟨z, hz'⟩ : ∃ x, f (j + 1) = x := ⟨_, rfl⟩
      have HZ := Lib.hid hz'
      rw [hx, hz'] at hd r0 hsc
      rw [hx] at bx1 bx2
      rw [hz'] at by1 by2
      rw [hx]
      obtain ⟨d, hdd⟩ : ∃ d, z - x = d := ⟨_, rfl⟩
      rw [hdd] at hd r0
      clear hx hz' hdd
      go_wp2_with (at_builtin; refine wpList_app _ rfl (.tmp 17) (.tmp 23) 22 rfl (w.heap.size + 1) 35 i0 (.agg #[.int .i64 0, .int .i64 0]) 2 16 Try.underlying22 hi hz0 hz1 hz2 rfl (by omega) (by rfl) (own_alloc hown.out _) (by rfl) (Rd.lit _ _ 2 #[.int .i64 x, .int .i64 z] 1 (by omega) rfl) (sc_one1 _ _) (by omega) (by omega) (by simp; omega) ?_; intro A1 c1 w3 hown1 hg1)
      obtain ⟨D3, bw3⟩ := cb_app1 C.out (by omega) (by omega) hown.out hg1
      have bw4 : Below w.heap.size w w3 := bw.out.trans (bw3.mono (by omega))
      have bw5 : Below W0.heap.size W0 w3 := bw0.out.trans (bw3.mono (by omega))
      refine ⟨⟨j + 1, A1, c1, by omega, by go_num, by rw [HZ.out], rfl, Lib.hid bw4, Lib.hid bw5, Lib.hid D3, Lib.hid ?_⟩, by simp [intOf]; omega⟩
      rw [hsc.out]; exact hown1
    · obtain rfl : j = n := by omega
      have S := Lib.hid (Rd.of_own hown.out : Sr wr A' j c' (sp f j))
      go_wp2_with fail
      go_at_call 63
      refine (Of_any _ S (Lib.hid (hf.out.asc (by omega))) (Lib.hid (by rw [sp_gt (by omega)]; exact hf.out.z)) (Lib.hid (by rw [sp_gt (by omega)]; show f (j - 1 + 1) ≤ _; rw [show j - 1 + 1 = j by omega]; exact Int.le_refl _)) (by have := hf.out.mono j 0 (by omega); rw [Nat.zero_add, hf.out.z] at this; omega) hf.out.up n1 n2 o1 o2 hlst).mono ?_
      rintro e w4 ⟨g2, rfl, hg2, S4, b4⟩
      have C4 := C.out.step b4
      have bwz := bw.out.trans (b4.mono bw.out.size)
      have C5 := C4.step (bal w4 (.cells #[.int .i64 o, .int .i64 (f j), .slice (some ⟨g2, 0, none⟩) j j] 24))
      have S5 : Sr _ (some ⟨g2, 0, none⟩) j j (sp f j) := S4.out.below (bal w4 (.cells #[.int .i64 o, .int .i64 (f j), .slice (some ⟨g2, 0, none⟩) j j] 24))
      have b5 := bel_alloc bwz (Nat.le_refl _) (.cells #[.int .i64 o, .int .i64 (f j), .slice (some ⟨g2, 0, none⟩) j j] 24)
      have C6 := C5.all (.int .i64 o) (.int .i64 (f j)) (.slice (some ⟨g2, 0, none⟩) j j)
      obtain ⟨t0, e0, e1, e2, f0, f1, f2⟩ := C5
      go_wp2_with fail
      clear t0 e0 e1 e2 f0 f1 f2
      obtain ⟨t0, e0, e1, e2, f0, f1, f2⟩ := C6
      have SZ : Sr _ (some ⟨g2, 0, none⟩) j j (sp f j) := ((Rd.set S5 ⟨w.heap.size, 0, none⟩ (.int .i64 o) (fun _ e => by simp [blk] at e; omega)).set ⟨w.heap.size, 1, none⟩ (.int .i64 (f j)) (fun _ e => by simp [blk] at e; omega)).set ⟨w.heap.size, 2, none⟩ (.slice (some ⟨g2, 0, none⟩) j j) (fun _ e => by simp [blk] at e; omega)
      exact bodyPost_ret (v := .agg #[.int .i64 o, .int .i64 (f j), .slice (some ⟨g2, 0, none⟩) j j]) (by simp [results, Try.results62, go_sem, e0, e1, e2, t0]) rfl ⟨_, rfl, by omega, Lib.hid SZ, ((b5.setCell (by simp) _).setCell (by simp) _).setCell (by simp) _⟩
/-- The calendar of the months. -/
theorem Months_any (w : World) : Calls Try.prog 33 #[] w fun e w' => ∃ g : Nat, e = .returned (.agg #[.int .i64 0, .int .i64 146097, .slice (some ⟨g, 0, none⟩) 4800 4800]) ∧ w.heap.size ≤ g ∧ Hid (Sr w' (some ⟨g, 0, none⟩) 4800 4800 (sp mst 4800)) ∧ Below w.heap.size w w' := by
  obtain ⟨W0, hW0⟩ : ∃ W0, w.alloc (.cells #[.int .i64 0, .int .i64 0, .slice none 0 0] 24) = W0 := ⟨_, rfl⟩
  have hb0 : Below w.heap.size w W0 := hW0 ▸ bal _ _
  have C0 : Hid (Cb W0 w.heap.size (.int .i64 0) (.int .i64 0) (.slice none 0 0)) := Lib.hid (hW0 ▸ Cb.new _ _ _ _ _)
  have hs0 : W0.heap.size = w.heap.size + 1 := by rw [← hW0]; simp
  have HW0 := Lib.hid hW0
  clear hW0
  have MT := Lib.hid mst_top
  go_enter Try.func33, Try.ntmps33
  go_wp2_with fail
  rw [HW0.out]
  go_at_call 60
  refine (months_any _).mono ?_
  rintro e w1 ⟨A, c, rfl, O1, b1⟩
  have bw1 := hb0.trans (b1.mono hb0.size)
  have hz1 := b1.size
  have R1 := Lib.hid (Rd.of_own O1.out)
  go_wp2_with fail
  go_at_call 62
  refine (row_any _ R1 (Lib.hid mInc) (by omega) (by omega) (by omega) (by omega) (Lib.hid (by rw [mst_top]; exact m_lst))).mono ?_
  rintro e w2 ⟨g, rfl, hg, S2, b2⟩
  rw [MT.out]
  have C2 := (C0.out.step b1).step b2
  have bw2 := bw1.trans (b2.mono bw1.size)
  have C3 := C2.all (.int .i64 0) (.int .i64 146097) (.slice (some ⟨g, 0, none⟩) 4800 4800)
  obtain ⟨t0, e0, e1, e2, f0, f1, f2⟩ := C2
  go_wp2_with fail
  clear t0 e0 e1 e2 f0 f1 f2
  obtain ⟨t0, e0, e1, e2, f0, f1, f2⟩ := C3
  have SZ : Sr _ (some ⟨g, 0, none⟩) 4800 4800 (sp mst 4800) := ((Rd.set S2.out ⟨w.heap.size, 0, none⟩ (.int .i64 0) (fun _ e => by simp [blk] at e; omega)).set ⟨w.heap.size, 1, none⟩ (.int .i64 146097) (fun _ e => by simp [blk] at e; omega)).set ⟨w.heap.size, 2, none⟩ (.slice (some ⟨g, 0, none⟩) 4800 4800) (fun _ e => by simp [blk] at e; omega)
  exact bodyPost_ret (v := .agg #[.int .i64 0, .int .i64 146097, .slice (some ⟨g, 0, none⟩) 4800 4800]) (by simp [results, Try.results33, go_sem, e0, e1, e2, t0]) rfl ⟨_, rfl, by omega, Lib.hid SZ, ((bw2.setCell (by simp) _).setCell (by simp) _).setCell (by simp) _⟩
end Go.Proofs.Ytainibnjpkbfpaa.Cv
