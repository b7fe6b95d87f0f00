/- The law: ConversionMonths. -/
import Derived.Test.YtainibnjpkbfpaaCalM7
import Derived.Test.YtainibnjpkbfpaaCivA
import Derived.Test.YtainibnjpkbfpaaCivW3
import Derived.Test.YtainibnjpkbfpaaCalW23
import Derived.Test.YtainibnjpkbfpaaCalL3
namespace Go.Proofs.Ytainibnjpkbfpaa.Cv
set_option linter.unusedVariables false
set_option linter.unusedSimpArgs false
open Go.RowKit Wl

theorem sc_idf : sc (sp idf 1) = [Value.int .i64 0, .int .i64 1] := rfl
theorem idf_asc : ascB (sp idf 1) = true := dInc.asc (by omega)
theorem idf_z : (gt (sp idf 1) 0).1 = 0 := by rw [sp_gt (by omega)]; rfl
theorem idf_u : (gt (sp idf 1) (1 - 1)).2 ≤ 1 := by rw [sp_gt (by omega)]; decide
set_option maxRecDepth 20000 in
set_option maxHeartbeats 3200000 in
theorem Fixed_any (w : World) : Calls Try.prog 32 #[.int .i64 0, .int .i64 1] w fun e w' => ∃ g : Nat, e = .returned (.tuple #[.agg #[.int .i64 0, .int .i64 1, .slice (some ⟨g, 0, none⟩) 1 1], .int .i64 0]) ∧ w.heap.size ≤ g ∧ Hid (Sr w' (some ⟨g, 0, none⟩) 1 1 (sp idf 1)) ∧ Below w.heap.size w w' := by
  obtain ⟨W0, hW0⟩ : ∃ W0, w.alloc (.cells #[.int .i64 0, .int .i64 0, .slice none 0 0] 24) = W0 := ⟨_, rfl⟩
  have hb0 : Below w.heap.size w W0 := hW0 ▸ bal _ _
  have C0 : Hid (Cb W0 w.heap.size (.int .i64 0) (.int .i64 0) (.slice none 0 0)) := Lib.hid (hW0 ▸ Cb.new _ _ _ _ _)
  have hs0 : W0.heap.size = w.heap.size + 1 := by rw [← hW0]; simp
  have HW0 := Lib.hid hW0
  clear hW0
  have b1 : Below W0.heap.size W0 (W0.alloc (.cells #[.int .i64 0, .int .i64 1] 35)) := bal _ _
  have S1 : Hid (Sr (W0.alloc (.cells #[.int .i64 0, .int .i64 1] 35)) (some ⟨w.heap.size + 1, 0, none⟩) 1 1 (sp idf 1)) := by rw [← hs0]; exact Lib.hid (Rd.lit W0 35 2 #[.int .i64 0, .int .i64 1] 1 (by omega) rfl)
  have bw1 := hb0.trans (b1.mono hb0.size)
  go_enter Try.func32, Try.ntmps32
  go_wp2_with fail
  rw [HW0.out]
  go_at_call 63
  refine (Of_any (o := 0) (p := 1) (n := 1) (l := sp idf 1) _ S1 (Lib.hid idf_asc) (Lib.hid idf_z) (Lib.hid idf_u) (by omega) (by omega) (by omega) (by omega) (by omega) (by omega) (Lib.hid d_lst)).mono ?_
  rintro e w2 ⟨g, rfl, hg, S2, b2⟩
  have hgz : w.heap.size < g := by simp at hg; omega
  have C2 := (C0.out.step b1).step b2
  have bw2 := bw1.trans (b2.mono bw1.size)
  have C3 := C2.all (.int .i64 0) (.int .i64 1) (.slice (some ⟨g, 0, none⟩) 1 1)
  obtain ⟨t0, e0, e1, e2, f0, f1, f2⟩ := C2
  go_wp2_with fail
  clear t0 e0 e1 e2 f0 f1 f2
  obtain ⟨t0, e0, e1, e2, f0, f1, f2⟩ := C3
  have SZ : Sr _ (some ⟨g, 0, none⟩) 1 1 (sp idf 1) := ((Rd.set S2.out ⟨w.heap.size, 0, none⟩ (.int .i64 0) (fun _ e => by simp [blk] at e; omega)).set ⟨w.heap.size, 1, none⟩ (.int .i64 1) (fun _ e => by simp [blk] at e; omega)).set ⟨w.heap.size, 2, none⟩ (.slice (some ⟨g, 0, none⟩) 1 1) (fun _ e => by simp [blk] at e; omega)
  exact bodyPost_ret (v := .tuple #[.agg #[.int .i64 0, .int .i64 1, .slice (some ⟨g, 0, none⟩) 1 1], .int .i64 0]) (by simp [results, Try.results32, go_sem, e0, e1, e2, t0]) rfl ⟨_, rfl, by omega, Lib.hid SZ, ((bw2.setCell (by simp) _).setCell (by simp) _).setCell (by simp) _⟩
theorem Date_at {x y m d e : Int} (w : World) (h : Hid (M.dtx x = ((y, m, d), e))) : Calls Try.prog 34 #[.int .i64 x] w fun q w' =>
    q = .returned (.tuple #[.agg #[.int .i64 y, .int .i64 m, .int .i64 d], .int .i64 e]) ∧ Below w.heap.size w w' := by
  have := Date_any x w
  rw [h.out] at this; exact this
theorem AddMonths_at {y m d n a b c e : Int} (w : World) (h1 : -9223372036854775808 ≤ n) (h2 : n ≤ 9223372036854775807) (h : Hid (M.am y m d n = ((a, b, c), e))) :
    Calls Try.prog 36 #[.agg #[.int .i64 y, .int .i64 m, .int .i64 d], .int .i64 n] w fun q w' => q = .returned (.tuple #[.agg #[.int .i64 a, .int .i64 b, .int .i64 c], .int .i64 e]) ∧ Below w.heap.size w w' := by
  have := AddMonths_any y m d n w h1 h2
  rw [h.out] at this; exact this
theorem Day_at {y m d : Int} (w : World) (h : Hid (M.vld y m d = true)) : Calls Try.prog 37 #[.agg #[.int .i64 y, .int .i64 m, .int .i64 d]] w fun q w' => q = .returned (.tuple #[.int .i64 (M.cnt y m d), .int .i64 0]) ∧ Below w.heap.size w w' := by
  have := Day_any y m d w
  rw [M.dy_t h.out, M.de_t h.out] at this; exact this
theorem Length_at2 {y m l : Int} (w : World) (h : Hid (M.len y m = l)) : Calls Try.prog 35 #[.int .i64 y, .int .i64 m] w fun q w' => q = .returned (.int .i64 l) ∧ w = w' := by
  have := Length_any y m w
  rw [h.out] at this; exact this
/-- A calendar in a box that was laid behind a call. -/
theorem Fx.put {w0 w : World} {o q : Int} {A : Option Addr} {n c : Nat} {l : List (Int × Int)} (T : TypeId) (hb : Below w0.heap.size w0 w) (h : Sr w A n c l) : Fx w0 (w.alloc (.cells #[.int .i64 o, .int .i64 q, .slice A n c] T)) w.heap.size o q A n c l :=
  ⟨hb.trans ((bal _ _).mono hb.size), Bx.new _ _ _ _ _ _ _, h.below (bal _ _), hb.size⟩
set_option maxRecDepth 20000 in
set_option maxHeartbeats 12800000 in
theorem ConversionMonths_walk (x n : Int) (w : World) (x1 : -9223372036854775808 ≤ x) (x2 : x ≤ 9223372036854775807) (n1 : -9223372036854775808 ≤ n) (n2 : n ≤ 9223372036854775807) :
    Calls Try.prog 6 #[.int .i64 x, .int .i64 n] w fun e w' => e = .returned (.bool true) ∧ Below w.heap.size w w' := by
  by_cases hx1 : x < -719162
  · have q1 : decide (x < -719162) = true := by simpa using hx1
    go_enter Try.func6, Try.ntmps6
    go_wp2_with fail
    go_at_call 10
    refine (awake_any _).mono ?_
    rintro e w1 ⟨rfl, b1⟩
    go_wp2_with fail
    go_at_call 10
    refine (awake_any _).mono ?_
    rintro e w2 ⟨rfl, b2⟩
    go_wp2_with fail
    go_ret
    exact ⟨rfl, b1.trans (b2.mono b1.size)⟩
  · have q1 : decide (x < -719162) = false := by simpa using hx1
    by_cases hx2 : x ≥ 2932897
    · have q2 : decide (x ≥ 2932897) = true := by simpa using hx2
      go_enter Try.func6, Try.ntmps6
      go_wp2_with fail
      go_at_call 10
      refine (awake_any _).mono ?_
      rintro e w1 ⟨rfl, b1⟩
      go_wp2_with fail
      go_at_call 10
      refine (awake_any _).mono ?_
      rintro e w2 ⟨rfl, b2⟩
      go_wp2_with fail
      go_ret
      exact ⟨rfl, b1.trans (b2.mono b1.size)⟩
    · have q2 : decide (x ≥ 2932897) = false := by simpa using hx2
      by_cases hn1 : n < -100000
      · have q3 : decide (n < -100000) = true := by simpa using hn1
        go_enter Try.func6, Try.ntmps6
        go_wp2_with fail
        go_at_call 10
        refine (awake_any _).mono ?_
        rintro e w1 ⟨rfl, b1⟩
        go_wp2_with fail
        go_at_call 10
        refine (awake_any _).mono ?_
        rintro e w2 ⟨rfl, b2⟩
        go_wp2_with fail
        go_ret
        exact ⟨rfl, b1.trans (b2.mono b1.size)⟩
      · have q3 : decide (n < -100000) = false := by simpa using hn1
        by_cases hn2 : n > 100000
        · have q4 : decide (n > 100000) = true := by simpa using hn2
          go_enter Try.func6, Try.ntmps6
          go_wp2_with fail
          go_at_call 10
          refine (awake_any _).mono ?_
          rintro e w1 ⟨rfl, b1⟩
          go_wp2_with fail
          go_at_call 10
          refine (awake_any _).mono ?_
          rintro e w2 ⟨rfl, b2⟩
          go_wp2_with fail
          go_ret
          exact ⟨rfl, b1.trans (b2.mono b1.size)⟩
        · have q4 : decide (n > 100000) = false := by simpa using hn2
          obtain ⟨y, m, d, k, F, hc⟩ := mf_of (x := x) (by omega) (by omega)
          have VM : Hid (vld ⟨0, 146097, sp mst 4800⟩ = true) := Lib.hid m_vld
          have VY : Hid (vld ⟨0, 146097, sp yst 400⟩ = true) := Lib.hid y_vld
          have VD : Hid (vld ⟨0, 1, sp idf 1⟩ = true) := Lib.hid d_vld
          have HDT := Lib.hid F.dt
          have HF : Hid (fnd ⟨0, 146097, sp mst 4800⟩ x = (k, true)) := Lib.hid F.f
          have HPL : Hid (plc ⟨0, 146097, sp mst 4800⟩ ⟨0, 146097, sp yst 400⟩ k = (y - 1970, m, true)) := Lib.hid F.pp
          have HRY : Hid (rch ⟨0, 146097, sp yst 400⟩ (y - 1970) = true) := Lib.hid F.ry
          have HIY : Hid (ins ⟨0, 146097, sp mst 4800⟩ (pl ⟨0, 146097, sp yst 400⟩ (y - 1970)) = (12 * (y - 1970), 12)) := Lib.hid F.iy
          have HRM : Hid (rch ⟨0, 146097, sp mst 4800⟩ k = true) := Lib.hid F.rm
          obtain ⟨len, hlen⟩ : ∃ len, M.len y m = len := ⟨_, rfl⟩
          have HLEN := Lib.hid hlen
          have HIM : Hid (ins ⟨0, 1, sp idf 1⟩ (pl ⟨0, 146097, sp mst 4800⟩ k) = (x - d + 1, len)) := Lib.hid (by rw [← hlen]; exact F.im)
          obtain ⟨⟨z, ez⟩, ha⟩ : ∃ q, adp ⟨0, 146097, sp mst 4800⟩ x n = q := ⟨_, rfl⟩
          have HADD := Lib.hid ha
          obtain ⟨⟨⟨a, b, c⟩, ea⟩, ham⟩ : ∃ q, M.am y m d n = q := ⟨_, rfl⟩
          have HAM := Lib.hid ham
          have y1 := F.y1
          have y2 := F.y2
          have m1 := F.m1
          have m2 := F.m2
          have d1 := F.d1
          have d2 := F.d2
          have hk := F.kk
          have k1 : 12 * (y - 1970) + m - 1 = k := hk
          have k2 : x - (x - d + 1) + 1 = d := by omega
          have kb1 : -23640 ≤ k := by omega
          have kb2 : k ≤ 96360 := by omega
          by_cases hea : ea = 0
          · subst hea
            obtain ⟨g1, g2⟩ := mf_add (by omega) (by omega) (by omega) (by omega) F hc ham
            have HV2 := Lib.hid g2
            have e1 : (z, ez) = (M.cnt a b c, 0) := ha.symm.trans g1
            injection e1 with e1 e2
            subst e1 e2
            clear F hc ha ham hlen hk g1 g2 hx1 hx2 hn1 hn2
            go_enter Try.func6, Try.ntmps6
            go_wp2_with fail
            go_at_call 10
            refine (awake_any _).mono ?_
            rintro e w1 ⟨rfl, b1⟩
            go_wp2_with fail
            go_at_call 31
            refine (Years_any _).mono ?_
            rintro e w2 ⟨gy, rfl, hgy, sy, b2⟩
            have bw2 := b1.trans (b2.mono b1.size)
            go_wp2_with fail
            obtain ⟨w3, hW⟩ : ∃ W, w2.alloc (.cells #[.int .i64 0, .int .i64 146097, .slice (some ⟨gy, 0, none⟩) 400 400] 24) = W := ⟨_, rfl⟩
            have b3 : Below w2.heap.size w2 w3 := hW ▸ bal _ _
            have Y3 : Hid (Fx w w3 w2.heap.size 0 146097 (some ⟨gy, 0, none⟩) 400 400 (sp yst 400)) := Lib.hid (hW ▸ Fx.put _ bw2 sy.out)
            rw [hW]
            clear hW
            go_at_call 32
            refine (Fixed_any _).mono ?_
            rintro e w4 ⟨gd, rfl, hgd, sd, b4⟩
            have Y4 := Lib.hid (Y3.out.step b4)
            go_wp2_with fail
            obtain ⟨w5, hW⟩ : ∃ W, w4.alloc (.cells #[.int .i64 0, .int .i64 1, .slice (some ⟨gd, 0, none⟩) 1 1] 24) = W := ⟨_, rfl⟩
            have b5 : Below w4.heap.size w4 w5 := hW ▸ bal _ _
            have D5 : Hid (Fx w w5 w4.heap.size 0 1 (some ⟨gd, 0, none⟩) 1 1 (sp idf 1)) := Lib.hid (hW ▸ Fx.put _ Y4.out.bel sd.out)
            have Y5 := Lib.hid (Y4.out.step b5)
            rw [hW]
            clear hW
            go_at_call 33
            refine (Months_any _).mono ?_
            rintro e w6 ⟨gm, rfl, hgm, sm, b6⟩
            have Y6 := Lib.hid (Y5.out.step b6)
            have D6 := Lib.hid (D5.out.step b6)
            go_wp2_with fail
            obtain ⟨w7, hW⟩ : ∃ W, w6.alloc (.cells #[.int .i64 0, .int .i64 146097, .slice (some ⟨gm, 0, none⟩) 4800 4800] 24) = W := ⟨_, rfl⟩
            have b7 : Below w6.heap.size w6 w7 := hW ▸ bal _ _
            have M7 : Hid (Fx w w7 w6.heap.size 0 146097 (some ⟨gm, 0, none⟩) 4800 4800 (sp mst 4800)) := Lib.hid (hW ▸ Fx.put _ Y6.out.bel sm.out)
            have Y7 := Lib.hid (Y6.out.step b7)
            have D7 := Lib.hid (D6.out.step b7)
            rw [hW]
            clear hW
            go_at_call 34
            refine (Date_at _ HDT).mono ?_
            rintro e w8 ⟨rfl, b8⟩
            have Y8 := Lib.hid (Y7.out.step b8)
            have D8 := Lib.hid (D7.out.step b8)
            have M8 := Lib.hid (M7.out.step b8)
            obtain ⟨zm, cm0, cm1, cm2⟩ := M8.out.bx
            go_wp2_with fail
            obtain ⟨w9, hW⟩ : ∃ W, w8.alloc (.cells #[.int .i64 y, .int .i64 m, .int .i64 d] 58) = W := ⟨_, rfl⟩
            have b9 : Below w8.heap.size w8 w9 := hW ▸ bal _ _
            have T9 : Hid (Cb w9 w8.heap.size (.int .i64 y) (.int .i64 m) (.int .i64 d)) := Lib.hid (hW ▸ Cb.new _ _ _ _ _)
            have Y9 := Lib.hid (Y8.out.step b9)
            have D9 := Lib.hid (D8.out.step b9)
            have M9 := Lib.hid (M8.out.step b9)
            rw [hW]
            clear hW cm0 cm1 cm2 zm
            go_at_call 15
            refine (gFind_at _ (Fx.hsr M9) VM HF).mono ?_
            rintro e w10 ⟨rfl, b10⟩
            have Y10 := Lib.hid (Y9.out.step b10)
            have D10 := Lib.hid (D9.out.step b10)
            have M10 := Lib.hid (M9.out.step b10)
            have T10 := Lib.hid (T9.out.step b10)
            obtain ⟨zy, cy0, cy1, cy2⟩ := Y10.out.bx
            obtain ⟨zd, cd0, cd1, cd2⟩ := D10.out.bx
            obtain ⟨zm, cm0, cm1, cm2⟩ := M10.out.bx
            obtain ⟨zt, ct0, ct1, ct2, _, _, _⟩ := T10.out
            go_wp2_with fail
            go_at_call 25
            refine (Place_at _ (Fx.hsr M10) (Fx.hsr Y10) VM VY (by omega) (by omega) HPL).mono ?_
            rintro e w11 ⟨rfl, b11⟩
            clear zy cy0 cy1 cy2 zd cd0 cd1 cd2 zm cm0 cm1 cm2 zt ct0 ct1 ct2
            have Y11 := Lib.hid (Y10.out.step b11)
            have D11 := Lib.hid (D10.out.step b11)
            have M11 := Lib.hid (M10.out.step b11)
            have T11 := Lib.hid (T10.out.step b11)
            obtain ⟨zy, cy0, cy1, cy2⟩ := Y11.out.bx
            obtain ⟨zd, cd0, cd1, cd2⟩ := D11.out.bx
            obtain ⟨zm, cm0, cm1, cm2⟩ := M11.out.bx
            obtain ⟨zt, ct0, ct1, ct2, _, _, _⟩ := T11.out
            go_wp2_with fail
            go_at_call 23
            refine (Down_at _ (Fx.hsr M11) (Fx.hsr Y11) VM VY (by omega) (by omega) HRY HIY).mono ?_
            rintro e w12 ⟨rfl, b12⟩
            clear zy cy0 cy1 cy2 zd cd0 cd1 cd2 zm cm0 cm1 cm2 zt ct0 ct1 ct2
            have Y12 := Lib.hid (Y11.out.step b12)
            have D12 := Lib.hid (D11.out.step b12)
            have M12 := Lib.hid (M11.out.step b12)
            have T12 := Lib.hid (T11.out.step b12)
            obtain ⟨zy, cy0, cy1, cy2⟩ := Y12.out.bx
            obtain ⟨zd, cd0, cd1, cd2⟩ := D12.out.bx
            obtain ⟨zm, cm0, cm1, cm2⟩ := M12.out.bx
            obtain ⟨zt, ct0, ct1, ct2, _, _, _⟩ := T12.out
            go_wp2_with fail
            go_at_call 23
            refine (Down_at _ (Fx.hsr D12) (Fx.hsr M12) VD VM (by omega) (by omega) HRM HIM).mono ?_
            rintro e w13 ⟨rfl, b13⟩
            clear zy cy0 cy1 cy2 zd cd0 cd1 cd2 zm cm0 cm1 cm2 zt ct0 ct1 ct2
            have Y13 := Lib.hid (Y12.out.step b13)
            have D13 := Lib.hid (D12.out.step b13)
            have M13 := Lib.hid (M12.out.step b13)
            have T13 := Lib.hid (T12.out.step b13)
            obtain ⟨zy, cy0, cy1, cy2⟩ := Y13.out.bx
            obtain ⟨zd, cd0, cd1, cd2⟩ := D13.out.bx
            obtain ⟨zm, cm0, cm1, cm2⟩ := M13.out.bx
            obtain ⟨zt, ct0, ct1, ct2, _, _, _⟩ := T13.out
            go_wp2_with fail
            go_at_call 35
            refine (Length_at2 _ HLEN).mono ?_
            rintro e w0 ⟨rfl, rfl⟩
            go_wp2_with fail
            go_at_call 12
            refine (Add_at _ (Fx.hsr M13) VM HADD).mono ?_
            rintro e w14 ⟨rfl, b14⟩
            clear zy cy0 cy1 cy2 zd cd0 cd1 cd2 zm cm0 cm1 cm2 zt ct0 ct1 ct2
            have Y14 := Lib.hid (Y13.out.step b14)
            have D14 := Lib.hid (D13.out.step b14)
            have M14 := Lib.hid (M13.out.step b14)
            have T14 := Lib.hid (T13.out.step b14)
            obtain ⟨zy, cy0, cy1, cy2⟩ := Y14.out.bx
            obtain ⟨zd, cd0, cd1, cd2⟩ := D14.out.bx
            obtain ⟨zm, cm0, cm1, cm2⟩ := M14.out.bx
            obtain ⟨zt, ct0, ct1, ct2, _, _, _⟩ := T14.out
            go_wp2_with fail
            go_at_call 36
            refine (AddMonths_at _ n1 n2 HAM).mono ?_
            rintro e w15 ⟨rfl, b15⟩
            clear zy cy0 cy1 cy2 zd cd0 cd1 cd2 zm cm0 cm1 cm2 zt ct0 ct1 ct2
            have Y15 := Lib.hid (Y14.out.step b15)
            have D15 := Lib.hid (D14.out.step b15)
            have M15 := Lib.hid (M14.out.step b15)
            have T15 := Lib.hid (T14.out.step b15)
            obtain ⟨zy, cy0, cy1, cy2⟩ := Y15.out.bx
            obtain ⟨zd, cd0, cd1, cd2⟩ := D15.out.bx
            obtain ⟨zm, cm0, cm1, cm2⟩ := M15.out.bx
            obtain ⟨zt, ct0, ct1, ct2, _, _, _⟩ := T15.out
            have b16 : Below w15.heap.size w15 (w15.alloc (.cells #[.int .i64 a, .int .i64 b, .int .i64 c] 58)) := bal _ _
            have Y16 := Lib.hid (Y15.out.step b16)
            go_wp2_with fail
            go_at_call 37
            refine (Day_at _ HV2).mono ?_
            rintro e w17 ⟨rfl, b17⟩
            have Y17 := Lib.hid (Y16.out.step b17)
            go_wp2_with fail
            go_ret
            exact ⟨rfl, Y17.out.bel⟩
          · have hea' : (ea != 0) = true := by simpa using hea
            clear F hc ha ham hlen hk hea hx1 hx2 hn1 hn2
            go_enter Try.func6, Try.ntmps6
            go_wp2_with fail
            go_at_call 10
            refine (awake_any _).mono ?_
            rintro e w1 ⟨rfl, b1⟩
            go_wp2_with fail
            go_at_call 31
            refine (Years_any _).mono ?_
            rintro e w2 ⟨gy, rfl, hgy, sy, b2⟩
            have bw2 := b1.trans (b2.mono b1.size)
            go_wp2_with fail
            obtain ⟨w3, hW⟩ : ∃ W, w2.alloc (.cells #[.int .i64 0, .int .i64 146097, .slice (some ⟨gy, 0, none⟩) 400 400] 24) = W := ⟨_, rfl⟩
            have b3 : Below w2.heap.size w2 w3 := hW ▸ bal _ _
            have Y3 : Hid (Fx w w3 w2.heap.size 0 146097 (some ⟨gy, 0, none⟩) 400 400 (sp yst 400)) := Lib.hid (hW ▸ Fx.put _ bw2 sy.out)
            rw [hW]
            clear hW
            go_at_call 32
            refine (Fixed_any _).mono ?_
            rintro e w4 ⟨gd, rfl, hgd, sd, b4⟩
            have Y4 := Lib.hid (Y3.out.step b4)
            go_wp2_with fail
            obtain ⟨w5, hW⟩ : ∃ W, w4.alloc (.cells #[.int .i64 0, .int .i64 1, .slice (some ⟨gd, 0, none⟩) 1 1] 24) = W := ⟨_, rfl⟩
            have b5 : Below w4.heap.size w4 w5 := hW ▸ bal _ _
            have D5 : Hid (Fx w w5 w4.heap.size 0 1 (some ⟨gd, 0, none⟩) 1 1 (sp idf 1)) := Lib.hid (hW ▸ Fx.put _ Y4.out.bel sd.out)
            have Y5 := Lib.hid (Y4.out.step b5)
            rw [hW]
            clear hW
            go_at_call 33
            refine (Months_any _).mono ?_
            rintro e w6 ⟨gm, rfl, hgm, sm, b6⟩
            have Y6 := Lib.hid (Y5.out.step b6)
            have D6 := Lib.hid (D5.out.step b6)
            go_wp2_with fail
            obtain ⟨w7, hW⟩ : ∃ W, w6.alloc (.cells #[.int .i64 0, .int .i64 146097, .slice (some ⟨gm, 0, none⟩) 4800 4800] 24) = W := ⟨_, rfl⟩
            have b7 : Below w6.heap.size w6 w7 := hW ▸ bal _ _
            have M7 : Hid (Fx w w7 w6.heap.size 0 146097 (some ⟨gm, 0, none⟩) 4800 4800 (sp mst 4800)) := Lib.hid (hW ▸ Fx.put _ Y6.out.bel sm.out)
            have Y7 := Lib.hid (Y6.out.step b7)
            have D7 := Lib.hid (D6.out.step b7)
            rw [hW]
            clear hW
            go_at_call 34
            refine (Date_at _ HDT).mono ?_
            rintro e w8 ⟨rfl, b8⟩
            have Y8 := Lib.hid (Y7.out.step b8)
            have D8 := Lib.hid (D7.out.step b8)
            have M8 := Lib.hid (M7.out.step b8)
            obtain ⟨zm, cm0, cm1, cm2⟩ := M8.out.bx
            go_wp2_with fail
            obtain ⟨w9, hW⟩ : ∃ W, w8.alloc (.cells #[.int .i64 y, .int .i64 m, .int .i64 d] 58) = W := ⟨_, rfl⟩
            have b9 : Below w8.heap.size w8 w9 := hW ▸ bal _ _
            have T9 : Hid (Cb w9 w8.heap.size (.int .i64 y) (.int .i64 m) (.int .i64 d)) := Lib.hid (hW ▸ Cb.new _ _ _ _ _)
            have Y9 := Lib.hid (Y8.out.step b9)
            have D9 := Lib.hid (D8.out.step b9)
            have M9 := Lib.hid (M8.out.step b9)
            rw [hW]
            clear hW cm0 cm1 cm2 zm
            go_at_call 15
            refine (gFind_at _ (Fx.hsr M9) VM HF).mono ?_
            rintro e w10 ⟨rfl, b10⟩
            have Y10 := Lib.hid (Y9.out.step b10)
            have D10 := Lib.hid (D9.out.step b10)
            have M10 := Lib.hid (M9.out.step b10)
            have T10 := Lib.hid (T9.out.step b10)
            obtain ⟨zy, cy0, cy1, cy2⟩ := Y10.out.bx
            obtain ⟨zd, cd0, cd1, cd2⟩ := D10.out.bx
            obtain ⟨zm, cm0, cm1, cm2⟩ := M10.out.bx
            obtain ⟨zt, ct0, ct1, ct2, _, _, _⟩ := T10.out
            go_wp2_with fail
            go_at_call 25
            refine (Place_at _ (Fx.hsr M10) (Fx.hsr Y10) VM VY (by omega) (by omega) HPL).mono ?_
            rintro e w11 ⟨rfl, b11⟩
            clear zy cy0 cy1 cy2 zd cd0 cd1 cd2 zm cm0 cm1 cm2 zt ct0 ct1 ct2
            have Y11 := Lib.hid (Y10.out.step b11)
            have D11 := Lib.hid (D10.out.step b11)
            have M11 := Lib.hid (M10.out.step b11)
            have T11 := Lib.hid (T10.out.step b11)
            obtain ⟨zy, cy0, cy1, cy2⟩ := Y11.out.bx
            obtain ⟨zd, cd0, cd1, cd2⟩ := D11.out.bx
            obtain ⟨zm, cm0, cm1, cm2⟩ := M11.out.bx
            obtain ⟨zt, ct0, ct1, ct2, _, _, _⟩ := T11.out
            go_wp2_with fail
            go_at_call 23
            refine (Down_at _ (Fx.hsr M11) (Fx.hsr Y11) VM VY (by omega) (by omega) HRY HIY).mono ?_
            rintro e w12 ⟨rfl, b12⟩
            clear zy cy0 cy1 cy2 zd cd0 cd1 cd2 zm cm0 cm1 cm2 zt ct0 ct1 ct2
            have Y12 := Lib.hid (Y11.out.step b12)
            have D12 := Lib.hid (D11.out.step b12)
            have M12 := Lib.hid (M11.out.step b12)
            have T12 := Lib.hid (T11.out.step b12)
            obtain ⟨zy, cy0, cy1, cy2⟩ := Y12.out.bx
            obtain ⟨zd, cd0, cd1, cd2⟩ := D12.out.bx
            obtain ⟨zm, cm0, cm1, cm2⟩ := M12.out.bx
            obtain ⟨zt, ct0, ct1, ct2, _, _, _⟩ := T12.out
            go_wp2_with fail
            go_at_call 23
            refine (Down_at _ (Fx.hsr D12) (Fx.hsr M12) VD VM (by omega) (by omega) HRM HIM).mono ?_
            rintro e w13 ⟨rfl, b13⟩
            clear zy cy0 cy1 cy2 zd cd0 cd1 cd2 zm cm0 cm1 cm2 zt ct0 ct1 ct2
            have Y13 := Lib.hid (Y12.out.step b13)
            have D13 := Lib.hid (D12.out.step b13)
            have M13 := Lib.hid (M12.out.step b13)
            have T13 := Lib.hid (T12.out.step b13)
            obtain ⟨zy, cy0, cy1, cy2⟩ := Y13.out.bx
            obtain ⟨zd, cd0, cd1, cd2⟩ := D13.out.bx
            obtain ⟨zm, cm0, cm1, cm2⟩ := M13.out.bx
            obtain ⟨zt, ct0, ct1, ct2, _, _, _⟩ := T13.out
            go_wp2_with fail
            go_at_call 35
            refine (Length_at2 _ HLEN).mono ?_
            rintro e w0 ⟨rfl, rfl⟩
            go_wp2_with fail
            go_at_call 12
            refine (Add_at _ (Fx.hsr M13) VM HADD).mono ?_
            rintro e w14 ⟨rfl, b14⟩
            clear zy cy0 cy1 cy2 zd cd0 cd1 cd2 zm cm0 cm1 cm2 zt ct0 ct1 ct2
            have Y14 := Lib.hid (Y13.out.step b14)
            have D14 := Lib.hid (D13.out.step b14)
            have M14 := Lib.hid (M13.out.step b14)
            have T14 := Lib.hid (T13.out.step b14)
            obtain ⟨zy, cy0, cy1, cy2⟩ := Y14.out.bx
            obtain ⟨zd, cd0, cd1, cd2⟩ := D14.out.bx
            obtain ⟨zm, cm0, cm1, cm2⟩ := M14.out.bx
            obtain ⟨zt, ct0, ct1, ct2, _, _, _⟩ := T14.out
            go_wp2_with fail
            go_at_call 36
            refine (AddMonths_at _ n1 n2 HAM).mono ?_
            rintro e w15 ⟨rfl, b15⟩
            clear zy cy0 cy1 cy2 zd cd0 cd1 cd2 zm cm0 cm1 cm2 zt ct0 ct1 ct2
            have Y15 := Lib.hid (Y14.out.step b15)
            have D15 := Lib.hid (D14.out.step b15)
            have M15 := Lib.hid (M14.out.step b15)
            have T15 := Lib.hid (T14.out.step b15)
            obtain ⟨zy, cy0, cy1, cy2⟩ := Y15.out.bx
            obtain ⟨zd, cd0, cd1, cd2⟩ := D15.out.bx
            obtain ⟨zm, cm0, cm1, cm2⟩ := M15.out.bx
            obtain ⟨zt, ct0, ct1, ct2, _, _, _⟩ := T15.out
            have bz := bel_alloc Y15.out.bel (Nat.le_refl _) (.cells #[.int .i64 a, .int .i64 b, .int .i64 c] 58)
            go_wp2_with fail
            go_ret
            exact ⟨rfl, bz⟩
end Go.Proofs.Ytainibnjpkbfpaa.Cv
