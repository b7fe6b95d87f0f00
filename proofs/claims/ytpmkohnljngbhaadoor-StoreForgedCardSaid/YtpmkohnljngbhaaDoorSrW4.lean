/- Walk: change. -/
import Derived.Test.YtpmkohnljngbhaaDoorSrW3
import Derived.Deep.RegionWith
namespace Go.Proofs.YtpmkohnljngbhaaDoor.Sr
set_option linter.unusedVariables false
set_option linter.unusedSimpArgs false
set_option maxRecDepth 1000000
open Go.RowKit Wl Pg

/-- What change answers. -/
def ChPost (w0 w : World) (r : Rec) (e : Ending) (w' : World) : Prop :=
  ∃ (A B : Option Addr) (n c m d : Nat) (k v : List UInt8) (del b : Bool), e = .returned (.tuple #[.agg #[.slice A n c, .slice B m d, .bool del], .bool b]) ∧
    ((b = false ∧ chR r = none) ∨ (b = true ∧ chR r = some ⟨k, v, del⟩ ∧ Hid (n = k.length ∧ m = v.length) ∧ Hid (Dt w0 ⟨A, c, k, B, d, v, del⟩))) ∧ Below w.heap.size w w'
set_option maxHeartbeats 3200000 in
theorem change_any {D : Option Addr} {n c : Nat} {r : Rec} (w0 w : World) (h0 : Hid (Rd w0 1 D n c (bv r.d))) (hd : Hid (Rd w 1 D n c (bv r.d))) (hk : Hid (1 ≤ r.k ∧ r.k ≤ 3)) (hn : n ≤ 1073741824) :
    Calls Tryd.prog 56 #[.agg #[.int .i64 r.k, .int .i64 r.t, .slice D n c]] w (ChPost w0 w r) := by
  have NL : Hid (n = r.d.length) := Lib.hid (by have := hd.out.len; rw [bv_len] at this; omega)
  obtain ⟨k, t, dat⟩ := r
  dsimp only at h0 hd hk NL ⊢
  obtain ⟨p, hp⟩ : ∃ p, w.heap.size = p := ⟨_, rfl⟩
  obtain ⟨W1, hW1⟩ : ∃ W1, w.alloc (.cells #[.int .i64 k, .int .i64 t, .slice D n c] 66) = W1 := ⟨_, rfl⟩
  have v1 : Below w.heap.size w W1 := hW1 ▸ bal _ _
  have X : Hid (Bx W1 p [.int .i64 k, .int .i64 t, .slice D n c]) := hW1 ▸ Lib.hid (Bx.put _ hp #[.int .i64 k, .int .i64 t, .slice D n c] 66)
  have TX : Hid (Ty W1 p 66) := hW1 ▸ hp ▸ Lib.hid (Ty.new _ _ _)
  have HW1 := Lib.hid hW1
  clear hW1
  obtain ⟨R, hR⟩ : ∃ R, W1.heap.size = R := ⟨_, rfl⟩
  obtain ⟨W2, hW2⟩ : ∃ W2, W1.alloc (.cells #[.slice none 0 0, .slice none 0 0, .bool false] 45) = W2 := ⟨_, rfl⟩
  have v2 : Below W1.heap.size W1 W2 := hW2 ▸ bal _ _
  have Y : Hid (Bx W2 R [.slice none 0 0, .slice none 0 0, .bool false]) := hW2 ▸ Lib.hid (Bx.put _ hR #[.slice none 0 0, .slice none 0 0, .bool false] 45)
  have TY : Hid (Ty W2 R 45) := hW2 ▸ hR ▸ Lib.hid (Ty.new _ _ _)
  have HW2 := Lib.hid hW2
  clear hW2
  obtain ⟨q, hq⟩ : ∃ q, W2.heap.size = q := ⟨_, rfl⟩
  obtain ⟨W3, hW3⟩ : ∃ W3, W2.alloc (.cells #[.slice D n c, .slice none 0 0, .bool true] 45) = W3 := ⟨_, rfl⟩
  have v3 : Below W2.heap.size W2 W3 := hW3 ▸ bal _ _
  have Z : Hid (Bx W3 q [.slice D n c, .slice none 0 0, .bool true]) := hW3 ▸ Lib.hid (Bx.put _ hq #[.slice D n c, .slice none 0 0, .bool true] 45)
  have TZ : Hid (Ty W3 q 45) := hW3 ▸ hq ▸ Lib.hid (Ty.new _ _ _)
  have HW3 := Lib.hid hW3
  clear hW3
  have bw := (v1.trans (v2.mono v1.size)).trans (v3.mono (v1.trans (v2.mono v1.size)).size)
  have hwR : w.heap.size ≤ R := by rw [← hR]; exact v1.size
  have X := Lib.hid ((X.out.nx v2).nx v3)
  have Y := Lib.hid (Y.out.nx v3)
  have eR : R = p + 1 := by rw [← hR, ← HW1.out, ← hp]; simp
  have eq : q = p + 1 + 1 := by rw [← hq, ← HW2.out, ← HW1.out, ← hp]; simp
  subst eR eq
  have xl := X.out.lt
  have yl := Y.out.lt
  have zl := Z.out.lt
  have x0 := X.out.at_ 0 (by simp)
  have x1 := X.out.at_ 1 (by simp)
  have x2 := X.out.at_ 2 (by simp)
  simp only [List.getElem?_cons_succ, List.getElem?_cons_zero] at x0 x1 x2
  have y0 := Y.out.at_ 0 (by simp)
  have y1 := Y.out.at_ 1 (by simp)
  have y2 := Y.out.at_ 2 (by simp)
  simp only [List.getElem?_cons_succ, List.getElem?_cons_zero] at y0 y1 y2
  have f0 := Y.out.fz 0 (by simp)
  have f1 := Y.out.fz 1 (by simp)
  have f2 := Y.out.fz 2 (by simp)
  have z0 := Z.out.at_ 0 (by simp)
  have z1 := Z.out.at_ 1 (by simp)
  have z2 := Z.out.at_ 2 (by simp)
  simp only [List.getElem?_cons_succ, List.getElem?_cons_zero] at z0 z1 z2
  have g0 := Z.out.fz 0 (by simp)
  have g1 := Z.out.fz 1 (by simp)
  have g2 := Z.out.fz 2 (by simp)
  go_enter Tryd.func56, Tryd.ntmps56
  go_upto_region 2 with fail
  rw [HW1.out, HW2.out, HW3.out]
  by_cases hk1 : k = 1
  · subst hk1
    by_cases hz : n = 0
    · subst hz
      have NN : Hid (chR ⟨1, t, dat⟩ = none) := Lib.hid (by
        have : dat = [] := List.eq_nil_of_length_eq_zero NL.out.symm
        subst this; rfl)
      go_wp2_with fail
      go_quiet (fail)
      obtain ⟨W4, hdrw⟩ : ∃ u, W3.drewN nq = u := ⟨_, rfl⟩
      rw [hdrw]
      have b4 : Below W3.heap.size W3 W4 := hdrw ▸ bdrewN (Below.refl _ _)
      clear hdrw
      replace bw := bw.trans (b4.mono bw.size)
      replace X := Lib.hid (X.out.nx b4)
      replace Y := Lib.hid (Y.out.nx b4)
      replace Z := Lib.hid (Z.out.nx b4)
      clear x0 x1 x2 y0 y1 y2 f0 f1 f2 z0 z1 z2 g0 g1 g2
      have y0 := Y.out.at_ 0 (by simp)
      have y1 := Y.out.at_ 1 (by simp)
      have y2 := Y.out.at_ 2 (by simp)
      simp only [List.getElem?_cons_succ, List.getElem?_cons_zero] at y0 y1 y2
      have f0 := Y.out.fz 0 (by simp)
      have f1 := Y.out.fz 1 (by simp)
      have f2 := Y.out.fz 2 (by simp)
      have RB := Lib.hid (res3_below (R := p + 1) (a := .slice none 0 0) (b := .slice none 0 0) (c := .bool false) bw hwR)
      obtain ⟨C0, C1, C2⟩ := res3_cells Y.out
      have C0 := Lib.hid C0
      have C1 := Lib.hid C1
      have C2 := Lib.hid C2
      go_wp2_with fail
      refine bodyPost_ret (v := .tuple #[.agg #[.slice none 0 0, .slice none 0 0, .bool false], .bool false]) (by simp [results, Tryd.results56, go_sem, C0.out, C1.out, C2.out]) rfl ?_
      exact ⟨none, none, 0, 0, 0, 0, [], [], false, false, rfl, .inl ⟨rfl, NN.out⟩, RB.out⟩
    · obtain ⟨g, o, x, rfl, hg, hx, hc⟩ := Rd.byte hd.out (k := 0) (by omega)
      obtain ⟨kn, hkn⟩ : ∃ kn, x.toNat = kn := ⟨_, rfl⟩
      rw [hkn] at hc
      have hc3 : W3.cell? ⟨g, o + 0, none⟩ = some (.int .u8 (kn : Int)) := by rw [bw.cell (p := ⟨g, o + 0, none⟩) hg]; exact hc
      rw [Nat.add_zero] at hc3
      have hkx : kn < 256 := by have := x.toNat_lt; omega
      have e0 : ((n : Int) == 0) = false := by simpa using hz
      have HX : Hid ((dat.getD 0 0).toNat = kn) := Lib.hid (by rw [List.getD_eq_getElem?_getD, hx]; exact hkn)
      have HC := Lib.hid hc
      clear hc hx hkn
      have hn0 : 0 < n := by omega
      by_cases h1 : n ≤ kn
      · have e1 : decide ((n : Int) ≤ (kn : Int)) = true := decide_eq_true (by omega)
        have NN : Hid (chR ⟨1, t, dat⟩ = none) := Lib.hid (if_pos ⟨rfl, by show dat.length ≤ (dat.getD 0 0).toNat; rw [HX.out, ← NL.out]; exact h1⟩)
        go_wp2_with fail
        go_quiet (fail)
        obtain ⟨W4, hdrw⟩ : ∃ u, W3.drewN nq = u := ⟨_, rfl⟩
        rw [hdrw]
        have b4 : Below W3.heap.size W3 W4 := hdrw ▸ bdrewN (Below.refl _ _)
        clear hdrw
        replace bw := bw.trans (b4.mono bw.size)
        replace X := Lib.hid (X.out.nx b4)
        replace Y := Lib.hid (Y.out.nx b4)
        replace Z := Lib.hid (Z.out.nx b4)
        clear x0 x1 x2 y0 y1 y2 f0 f1 f2 z0 z1 z2 g0 g1 g2
        have y0 := Y.out.at_ 0 (by simp)
        have y1 := Y.out.at_ 1 (by simp)
        have y2 := Y.out.at_ 2 (by simp)
        simp only [List.getElem?_cons_succ, List.getElem?_cons_zero] at y0 y1 y2
        have f0 := Y.out.fz 0 (by simp)
        have f1 := Y.out.fz 1 (by simp)
        have f2 := Y.out.fz 2 (by simp)
        have RB := Lib.hid (res3_below (R := p + 1) (a := .slice none 0 0) (b := .slice none 0 0) (c := .bool false) bw hwR)
        obtain ⟨C0, C1, C2⟩ := res3_cells Y.out
        have C0 := Lib.hid C0
        have C1 := Lib.hid C1
        have C2 := Lib.hid C2
        go_wp2_with fail
        refine bodyPost_ret (v := .tuple #[.agg #[.slice none 0 0, .slice none 0 0, .bool false], .bool false]) (by simp [results, Tryd.results56, go_sem, C0.out, C1.out, C2.out]) rfl ?_
        exact ⟨none, none, 0, 0, 0, 0, [], [], false, false, rfl, .inl ⟨rfl, NN.out⟩, RB.out⟩
      · have e1 : decide ((n : Int) ≤ (kn : Int)) = false := decide_eq_false (by omega)
        have hcn := hd.out.nc
        have hc63 := hd.out.c63
        go_wp2_with fail
        go_quiet (fail)
        obtain ⟨W4, hdrw⟩ : ∃ u, W3.drewN nq = u := ⟨_, rfl⟩
        rw [hdrw]
        have b4 : Below W3.heap.size W3 W4 := hdrw ▸ bdrewN (Below.refl _ _)
        clear hdrw
        replace bw := bw.trans (b4.mono bw.size)
        replace X := Lib.hid (X.out.nx b4)
        replace Y := Lib.hid (Y.out.nx b4)
        replace Z := Lib.hid (Z.out.nx b4)
        have hc4 := (bw.cell (p := ⟨g, o + 0, none⟩) hg).trans HC.out
        rw [Nat.add_zero] at hc4
        clear hc3 x0 x1 x2 y0 y1 y2 f0 f1 f2 z0 z1 z2 g0 g1 g2 xl yl zl
        have xl := X.out.lt
        have yl := Y.out.lt
        have zl := Z.out.lt
        have x0 := X.out.at_ 0 (by simp)
        have x1 := X.out.at_ 1 (by simp)
        have x2 := X.out.at_ 2 (by simp)
        simp only [List.getElem?_cons_succ, List.getElem?_cons_zero] at x0 x1 x2
        have y0 := Y.out.at_ 0 (by simp)
        have y1 := Y.out.at_ 1 (by simp)
        have y2 := Y.out.at_ 2 (by simp)
        simp only [List.getElem?_cons_succ, List.getElem?_cons_zero] at y0 y1 y2
        have f0 := Y.out.fz 0 (by simp)
        have f1 := Y.out.fz 1 (by simp)
        have f2 := Y.out.fz 2 (by simp)
        have z0 := Z.out.at_ 0 (by simp)
        have z1 := Z.out.at_ 1 (by simp)
        have z2 := Z.out.at_ 2 (by simp)
        simp only [List.getElem?_cons_succ, List.getElem?_cons_zero] at z0 z1 z2
        have g0 := Z.out.fz 0 (by simp)
        have g1 := Z.out.fz 1 (by simp)
        have g2 := Z.out.fz 2 (by simp)
        have LN : Hid (kn = ((dat.drop 1).take kn).length ∧ n - (kn + 1) = ((dat.drop 1).drop kn).length) := Lib.hid (by have := NL.out; simp; omega)
        have CH : Hid ((okN kn (n - (kn + 1)) false = false ∧ chR ⟨1, t, dat⟩ = none) ∨ (okN kn (n - (kn + 1)) false = true ∧ chR ⟨1, t, dat⟩ = some ⟨(dat.drop 1).take kn, (dat.drop 1).drop kn, false⟩)) := Lib.hid (by
          have e0 : chR0 ⟨1, t, dat⟩ = ⟨(dat.drop 1).take kn, (dat.drop 1).drop kn, false⟩ := by unfold chR0; rw [if_pos rfl]; show (⟨(dat.drop 1).take (dat.getD 0 0).toNat, (dat.drop 1).drop (dat.getD 0 0).toNat, false⟩ : Ch) = _; rw [HX.out]
          have e : chR ⟨1, t, dat⟩ = if okN kn (n - (kn + 1)) false = true then some ⟨(dat.drop 1).take kn, (dat.drop 1).drop kn, false⟩ else none := by
            unfold chR
            rw [if_neg (by show ¬ (_ ∧ dat.length ≤ (dat.getD 0 0).toNat); rw [HX.out, ← NL.out]; omega), e0]
            have e2 : Ch.ok ⟨(dat.drop 1).take kn, (dat.drop 1).drop kn, false⟩ = okN kn (n - (kn + 1)) false := by
              unfold Ch.ok; rw [← LN.out.1, ← LN.out.2]
            rw [e2]
            by_cases h : okN kn (n - (kn + 1)) false = true
            · rw [if_pos h]; exact if_pos ⟨by simp, h⟩
            · rw [if_neg h]; exact if_neg fun x => h x.2
          rw [e]
          cases okN kn (n - (kn + 1)) false <;> simp)
        have KD : Hid (∀ U, Rd U 1 (some ⟨g, o, none⟩) n c (bv dat) → Rd U 1 (some ⟨g, o + 1, none⟩) kn (c - 1) (bv ((dat.drop 1).take kn)) ∧ Rd U 1 (some ⟨g, o + (kn + 1), none⟩) (n - (kn + 1)) (c - (kn + 1)) (bv ((dat.drop 1).drop kn))) := Lib.hid fun U hU => by
          have h1 := hU.cut1 (lo := 1) (hi := kn + 1) (by omega) (by omega)
          have h2 := hU.tail (lo := kn + 1) (by omega)
          rw [bv_drop, bv_take, Nat.add_sub_cancel] at h1
          rw [List.drop_drop, Nat.add_comm 1 kn]
          exact ⟨h1, h2⟩
        by_cases hcc : c = kn + 1
        · have hmn : n = kn + 1 := by omega
          have hz0 : n - (kn + 1) = 0 := by omega
          rw [hz0] at LN CH
          have KD2 : Hid (∀ U, Rd U 1 (some ⟨g, o, none⟩) n c (bv dat) → Rd U 1 (some ⟨g, o, none⟩) 0 0 (bv ((dat.drop 1).drop kn))) := Lib.hid fun U hU => by
            have e : (dat.drop 1).drop kn = [] := List.eq_nil_of_length_eq_zero (by have := LN.out.2; omega)
            rw [e]
            exact ⟨rfl, by omega, fun e => (by cases e), by omega, fun h => by omega⟩
          have KD1 : Hid (∀ U, Rd U 1 (some ⟨g, o, none⟩) n c (bv dat) → Rd U 1 (some ⟨g, o + 1, none⟩) kn kn (bv ((dat.drop 1).take kn))) := Lib.hid fun U hU => by
            have := (KD.out U hU).1; rwa [hcc, Nat.add_sub_cancel] at this
          by_cases hk0 : kn = 0
          · subst hk0
            have hn1 : n = 1 := by omega
            have hc1 : c = 1 := by omega
            clear hmn hcc hz0
            subst hn1 hc1
            have VA : Hid (∀ U : World, Calls Tryd.prog 62 #[.agg #[.slice (some ⟨g, o, none⟩) 0 (0), .slice (some ⟨g, o, none⟩) (0) (0), .bool false]] U fun e w' => e = .returned (.bool (okN 0 (0) false)) ∧ Below U.heap.size U w') := Lib.hid fun U => valid_any U
            go_wp2_with fail
            go_region
            obtain ⟨W5, hW5⟩ : ∃ u, (((W4.setCell ⟨p + 1 + 1, 0, none⟩ (.slice (some ⟨g, o, none⟩) 0 (0))).setCell ⟨p + 1 + 1, 1, none⟩ (.slice (some ⟨g, o, none⟩) (0) (0))).setCell ⟨p + 1 + 1, 2, none⟩ (.bool false)).drew = u := ⟨_, rfl⟩
            rw [hW5]
            have Z5 : Hid (Bx W5 (p + 1 + 1) [.slice (some ⟨g, o, none⟩) 0 (0), .slice (some ⟨g, o, none⟩) (0) (0), .bool false]) := hW5 ▸ Lib.hid (((((Z.out.set (j := 0) (by simp) _).set (j := 1) (by simp) _).set (j := 2) (by simp) _)).step ((Below.refl _ _).drew))
            have X5 : Hid (Bx W5 p _) := hW5 ▸ Lib.hid ((((X.out.other (q := p + 1 + 1) (by omega) 0 _).other (q := p + 1 + 1) (by omega) 1 _).other (q := p + 1 + 1) (by omega) 2 _).step ((Below.refl _ _).drew))
            have Y5 : Hid (Bx W5 (p + 1) _) := hW5 ▸ Lib.hid ((((Y.out.other (q := p + 1 + 1) (by omega) 0 _).other (q := p + 1 + 1) (by omega) 1 _).other (q := p + 1 + 1) (by omega) 2 _).step ((Below.refl _ _).drew))
            have bw5 : Below w.heap.size w W5 := hW5 ▸ (res3_below bw (by omega)).drew
            clear hW5 x0 x1 x2 y0 y1 y2 f0 f1 f2 z0 z1 z2 g0 g1 g2 xl yl zl bw
            clear X Y Z
            have X := X5
            have Y := Y5
            have Z := Z5
            have bw := bw5
            clear X5 Y5 Z5 bw5
            have xl := X.out.lt
            have yl := Y.out.lt
            have zl := Z.out.lt
            go_wp2_with fail
            have hb : okN 0 0 false = false := rfl
            rw [hb] at VA CH
            clear hb
            -- region 7: from world W5 with X Y Z, bw
            have vd : Below W5.heap.size W5 W5.drew := (Below.refl _ _).drew
            have KQ : Hid (∀ U, Below W5.heap.size W5 U → (U.cell? ⟨p, 0, none⟩ = some (.int .i64 1) ∧ U.cell? ⟨p + 1 + 1, 0, none⟩ = some (.slice (some ⟨g, o, none⟩) (0) (0)) ∧ U.cell? ⟨p + 1 + 1, 1, none⟩ = some (.slice (some ⟨g, o, none⟩) (0) (0)) ∧ U.cell? ⟨p + 1 + 1, 2, none⟩ = some (.bool false)) ∧
                (U.cell? ⟨p + 1, 0, none⟩ = some (.slice none 0 0) ∧ U.cell? ⟨p + 1, 1, none⟩ = some (.slice none 0 0) ∧ U.cell? ⟨p + 1, 2, none⟩ = some (.bool false)) ∧ U.frozen? ⟨p + 1, 0, none⟩ = false ∧ U.frozen? ⟨p + 1, 1, none⟩ = false ∧ U.frozen? ⟨p + 1, 2, none⟩ = false) := Lib.hid fun U hU => by
              have X := Lib.hid (X.out.nx hU)
              have Y := Lib.hid (Y.out.nx hU)
              have Z := Lib.hid (Z.out.nx hU)
              have x0 := X.out.at_ 0 (by simp)
              have x1 := X.out.at_ 1 (by simp)
              have x2 := X.out.at_ 2 (by simp)
              simp only [List.getElem?_cons_succ, List.getElem?_cons_zero] at x0 x1 x2
              have y0 := Y.out.at_ 0 (by simp)
              have y1 := Y.out.at_ 1 (by simp)
              have y2 := Y.out.at_ 2 (by simp)
              simp only [List.getElem?_cons_succ, List.getElem?_cons_zero] at y0 y1 y2
              have f0 := Y.out.fz 0 (by simp)
              have f1 := Y.out.fz 1 (by simp)
              have f2 := Y.out.fz 2 (by simp)
              have z0 := Z.out.at_ 0 (by simp)
              have z1 := Z.out.at_ 1 (by simp)
              have z2 := Z.out.at_ 2 (by simp)
              simp only [List.getElem?_cons_succ, List.getElem?_cons_zero] at z0 z1 z2
              exact ⟨⟨x0, z0, z1, z2⟩, ⟨y0, y1, y2⟩, f0, f1, f2⟩
            have kd := KQ.out _ vd
            obtain ⟨⟨x0, z0, z1, z2⟩, ⟨y0, y1, y2⟩, f0, f1, f2⟩ := kd
            go_cut [3] from 44 (fun bv wx => bv = .bool false ∧ Hid (Bx wx (p + 1) [.slice (some ⟨g, o, none⟩) (0) (0), .slice (some ⟨g, o, none⟩) (0) (0), .bool false]) ∧ Below w.heap.size w wx)
            case first =>
              go_region_with
                (first
                  | (go_at_call 62; refine (VA.out _).mono ?_; rintro e wv ⟨rfl, bv⟩; have v6 := vd.trans (bv.mono vd.size); have k6 := KQ.out _ v6; have x0 := k6.1.1; have z0 := k6.1.2.1; have z1 := k6.1.2.2.1; have z2 := k6.1.2.2.2; have y0 := k6.2.1.1; have y1 := k6.2.1.2.1; have y2 := k6.2.1.2.2; have f0 := k6.2.2.1; have f1 := k6.2.2.2.1; have f2 := k6.2.2.2.2))
              all_goals (go_wp2_with fail; go_meet; exact ⟨rfl, Lib.hid ((((Y.out.nx v6).set (j := 0) (by simp) _).set (j := 1) (by simp) _).set (j := 2) (by simp) _), res3_below (bw.trans ((v6).mono bw.size)) hwR⟩)
            case rest =>
            obtain ⟨rfl, YY, bF⟩ := hcut
            clear x0 z0 z1 z2 y0 y1 y2 f0 f1 f2 vd KQ
            have y0 := YY.out.at_ 0 (by simp)
            have y1 := YY.out.at_ 1 (by simp)
            have y2 := YY.out.at_ 2 (by simp)
            simp only [List.getElem?_cons_succ, List.getElem?_cons_zero] at y0 y1 y2
            go_wp2_with fail
            refine bodyPost_ret (v := .tuple #[.agg #[.slice (some ⟨g, o, none⟩) (0) (0), .slice (some ⟨g, o, none⟩) (0) (0), .bool false], .bool false]) (by simp [results, Tryd.results56, go_sem, y0, y1, y2]) rfl ?_
            rcases CH.out with h | h
            · exact ⟨_, _, 0, _, 0, _, [], [], false, _, rfl, .inl ⟨rfl, h.2⟩, bF⟩
            · simp at h
          · have hc1 : ¬ c = 1 := by omega
            have q1 : c - 1 = kn := by omega
            have q2 : c - (kn + 1) = 0 := by omega
            have q3 : kn + 1 ≤ c := by omega
            have q4 : kn + 1 ≤ n := by omega
            have HCC := Lib.hid hcc
            have HMN := Lib.hid hmn
            clear hcc hmn
            have VA : Hid (∀ U : World, Calls Tryd.prog 62 #[.agg #[.slice (some ⟨g, o + 1, none⟩) kn (kn), .slice (some ⟨g, o, none⟩) (0) (0), .bool false]] U fun e w' => e = .returned (.bool (okN kn (0) false)) ∧ Below U.heap.size U w') := Lib.hid fun U => valid_any U
            go_wp2_with fail
            go_region
            obtain ⟨W5, hW5⟩ : ∃ u, (((W4.setCell ⟨p + 1 + 1, 0, none⟩ (.slice (some ⟨g, o + 1, none⟩) kn (kn))).setCell ⟨p + 1 + 1, 1, none⟩ (.slice (some ⟨g, o, none⟩) (0) (0))).setCell ⟨p + 1 + 1, 2, none⟩ (.bool false)).drew = u := ⟨_, rfl⟩
            rw [hW5]
            have Z5 : Hid (Bx W5 (p + 1 + 1) [.slice (some ⟨g, o + 1, none⟩) kn (kn), .slice (some ⟨g, o, none⟩) (0) (0), .bool false]) := hW5 ▸ Lib.hid (((((Z.out.set (j := 0) (by simp) _).set (j := 1) (by simp) _).set (j := 2) (by simp) _)).step ((Below.refl _ _).drew))
            have X5 : Hid (Bx W5 p _) := hW5 ▸ Lib.hid ((((X.out.other (q := p + 1 + 1) (by omega) 0 _).other (q := p + 1 + 1) (by omega) 1 _).other (q := p + 1 + 1) (by omega) 2 _).step ((Below.refl _ _).drew))
            have Y5 : Hid (Bx W5 (p + 1) _) := hW5 ▸ Lib.hid ((((Y.out.other (q := p + 1 + 1) (by omega) 0 _).other (q := p + 1 + 1) (by omega) 1 _).other (q := p + 1 + 1) (by omega) 2 _).step ((Below.refl _ _).drew))
            have bw5 : Below w.heap.size w W5 := hW5 ▸ (res3_below bw (by omega)).drew
            clear hW5 x0 x1 x2 y0 y1 y2 f0 f1 f2 z0 z1 z2 g0 g1 g2 xl yl zl bw
            clear X Y Z
            have X := X5
            have Y := Y5
            have Z := Z5
            have bw := bw5
            clear X5 Y5 Z5 bw5
            have xl := X.out.lt
            have yl := Y.out.lt
            have zl := Z.out.lt
            go_wp2_with fail
            cases hb : okN kn (0) false with
            | false =>
              rw [hb] at VA CH
              clear hb
              -- region 7: from world W5 with X Y Z, bw
              have vd : Below W5.heap.size W5 W5.drew := (Below.refl _ _).drew
              have KQ : Hid (∀ U, Below W5.heap.size W5 U → (U.cell? ⟨p, 0, none⟩ = some (.int .i64 1) ∧ U.cell? ⟨p + 1 + 1, 0, none⟩ = some (.slice (some ⟨g, o + 1, none⟩) (kn) (kn)) ∧ U.cell? ⟨p + 1 + 1, 1, none⟩ = some (.slice (some ⟨g, o, none⟩) (0) (0)) ∧ U.cell? ⟨p + 1 + 1, 2, none⟩ = some (.bool false)) ∧
                  (U.cell? ⟨p + 1, 0, none⟩ = some (.slice none 0 0) ∧ U.cell? ⟨p + 1, 1, none⟩ = some (.slice none 0 0) ∧ U.cell? ⟨p + 1, 2, none⟩ = some (.bool false)) ∧ U.frozen? ⟨p + 1, 0, none⟩ = false ∧ U.frozen? ⟨p + 1, 1, none⟩ = false ∧ U.frozen? ⟨p + 1, 2, none⟩ = false) := Lib.hid fun U hU => by
                have X := Lib.hid (X.out.nx hU)
                have Y := Lib.hid (Y.out.nx hU)
                have Z := Lib.hid (Z.out.nx hU)
                have x0 := X.out.at_ 0 (by simp)
                have x1 := X.out.at_ 1 (by simp)
                have x2 := X.out.at_ 2 (by simp)
                simp only [List.getElem?_cons_succ, List.getElem?_cons_zero] at x0 x1 x2
                have y0 := Y.out.at_ 0 (by simp)
                have y1 := Y.out.at_ 1 (by simp)
                have y2 := Y.out.at_ 2 (by simp)
                simp only [List.getElem?_cons_succ, List.getElem?_cons_zero] at y0 y1 y2
                have f0 := Y.out.fz 0 (by simp)
                have f1 := Y.out.fz 1 (by simp)
                have f2 := Y.out.fz 2 (by simp)
                have z0 := Z.out.at_ 0 (by simp)
                have z1 := Z.out.at_ 1 (by simp)
                have z2 := Z.out.at_ 2 (by simp)
                simp only [List.getElem?_cons_succ, List.getElem?_cons_zero] at z0 z1 z2
                exact ⟨⟨x0, z0, z1, z2⟩, ⟨y0, y1, y2⟩, f0, f1, f2⟩
              have kd := KQ.out _ vd
              obtain ⟨⟨x0, z0, z1, z2⟩, ⟨y0, y1, y2⟩, f0, f1, f2⟩ := kd
              go_cut [3] from 44 (fun bv wx => bv = .bool false ∧ Hid (Bx wx (p + 1) [.slice (some ⟨g, o + 1, none⟩) (kn) (kn), .slice (some ⟨g, o, none⟩) (0) (0), .bool false]) ∧ Below w.heap.size w wx)
              case first =>
                go_region_with
                  (first
                    | (go_at_call 62; refine (VA.out _).mono ?_; rintro e wv ⟨rfl, bv⟩; have v6 := vd.trans (bv.mono vd.size); have k6 := KQ.out _ v6; have x0 := k6.1.1; have z0 := k6.1.2.1; have z1 := k6.1.2.2.1; have z2 := k6.1.2.2.2; have y0 := k6.2.1.1; have y1 := k6.2.1.2.1; have y2 := k6.2.1.2.2; have f0 := k6.2.2.1; have f1 := k6.2.2.2.1; have f2 := k6.2.2.2.2))
                all_goals (go_wp2_with fail; go_meet; exact ⟨rfl, Lib.hid ((((Y.out.nx v6).set (j := 0) (by simp) _).set (j := 1) (by simp) _).set (j := 2) (by simp) _), res3_below (bw.trans ((v6).mono bw.size)) hwR⟩)
              case rest =>
              obtain ⟨rfl, YY, bF⟩ := hcut
              clear x0 z0 z1 z2 y0 y1 y2 f0 f1 f2 vd KQ
              have y0 := YY.out.at_ 0 (by simp)
              have y1 := YY.out.at_ 1 (by simp)
              have y2 := YY.out.at_ 2 (by simp)
              simp only [List.getElem?_cons_succ, List.getElem?_cons_zero] at y0 y1 y2
              go_wp2_with fail
              refine bodyPost_ret (v := .tuple #[.agg #[.slice (some ⟨g, o + 1, none⟩) (kn) (kn), .slice (some ⟨g, o, none⟩) (0) (0), .bool false], .bool false]) (by simp [results, Tryd.results56, go_sem, y0, y1, y2]) rfl ?_
              rcases CH.out with h | h
              · exact ⟨_, _, kn, _, 0, _, [], [], false, _, rfl, .inl ⟨rfl, h.2⟩, bF⟩
              · simp at h
            | true =>
              rw [hb] at VA CH
              clear hb
              -- region 7: from world W5 with X Y Z, bw
              have vd : Below W5.heap.size W5 W5.drew := (Below.refl _ _).drew
              have KQ : Hid (∀ U, Below W5.heap.size W5 U → (U.cell? ⟨p, 0, none⟩ = some (.int .i64 1) ∧ U.cell? ⟨p + 1 + 1, 0, none⟩ = some (.slice (some ⟨g, o + 1, none⟩) (kn) (kn)) ∧ U.cell? ⟨p + 1 + 1, 1, none⟩ = some (.slice (some ⟨g, o, none⟩) (0) (0)) ∧ U.cell? ⟨p + 1 + 1, 2, none⟩ = some (.bool false)) ∧
                  (U.cell? ⟨p + 1, 0, none⟩ = some (.slice none 0 0) ∧ U.cell? ⟨p + 1, 1, none⟩ = some (.slice none 0 0) ∧ U.cell? ⟨p + 1, 2, none⟩ = some (.bool false)) ∧ U.frozen? ⟨p + 1, 0, none⟩ = false ∧ U.frozen? ⟨p + 1, 1, none⟩ = false ∧ U.frozen? ⟨p + 1, 2, none⟩ = false) := Lib.hid fun U hU => by
                have X := Lib.hid (X.out.nx hU)
                have Y := Lib.hid (Y.out.nx hU)
                have Z := Lib.hid (Z.out.nx hU)
                have x0 := X.out.at_ 0 (by simp)
                have x1 := X.out.at_ 1 (by simp)
                have x2 := X.out.at_ 2 (by simp)
                simp only [List.getElem?_cons_succ, List.getElem?_cons_zero] at x0 x1 x2
                have y0 := Y.out.at_ 0 (by simp)
                have y1 := Y.out.at_ 1 (by simp)
                have y2 := Y.out.at_ 2 (by simp)
                simp only [List.getElem?_cons_succ, List.getElem?_cons_zero] at y0 y1 y2
                have f0 := Y.out.fz 0 (by simp)
                have f1 := Y.out.fz 1 (by simp)
                have f2 := Y.out.fz 2 (by simp)
                have z0 := Z.out.at_ 0 (by simp)
                have z1 := Z.out.at_ 1 (by simp)
                have z2 := Z.out.at_ 2 (by simp)
                simp only [List.getElem?_cons_succ, List.getElem?_cons_zero] at z0 z1 z2
                exact ⟨⟨x0, z0, z1, z2⟩, ⟨y0, y1, y2⟩, f0, f1, f2⟩
              have kd := KQ.out _ vd
              obtain ⟨⟨x0, z0, z1, z2⟩, ⟨y0, y1, y2⟩, f0, f1, f2⟩ := kd
              go_cut [3] from 44 (fun bv wx => bv = .bool true ∧ Hid (Bx wx (p + 1) [.slice (some ⟨g, o + 1, none⟩) (kn) (kn), .slice (some ⟨g, o, none⟩) (0) (0), .bool false]) ∧ Below w.heap.size w wx)
              case first =>
                go_region_with
                  (first
                    | (go_at_call 62; refine (VA.out _).mono ?_; rintro e wv ⟨rfl, bv⟩; have v6 := vd.trans (bv.mono vd.size); have k6 := KQ.out _ v6; have x0 := k6.1.1; have z0 := k6.1.2.1; have z1 := k6.1.2.2.1; have z2 := k6.1.2.2.2; have y0 := k6.2.1.1; have y1 := k6.2.1.2.1; have y2 := k6.2.1.2.2; have f0 := k6.2.2.1; have f1 := k6.2.2.2.1; have f2 := k6.2.2.2.2))
                all_goals (go_wp2_with fail; go_meet; exact ⟨rfl, Lib.hid ((((Y.out.nx v6).set (j := 0) (by simp) _).set (j := 1) (by simp) _).set (j := 2) (by simp) _), res3_below (bw.trans ((v6).mono bw.size)) hwR⟩)
              case rest =>
              obtain ⟨rfl, YY, bF⟩ := hcut
              clear x0 z0 z1 z2 y0 y1 y2 f0 f1 f2 vd KQ
              have y0 := YY.out.at_ 0 (by simp)
              have y1 := YY.out.at_ 1 (by simp)
              have y2 := YY.out.at_ 2 (by simp)
              simp only [List.getElem?_cons_succ, List.getElem?_cons_zero] at y0 y1 y2
              go_wp2_with fail
              refine bodyPost_ret (v := .tuple #[.agg #[.slice (some ⟨g, o + 1, none⟩) (kn) (kn), .slice (some ⟨g, o, none⟩) (0) (0), .bool false], .bool true]) (by simp [results, Tryd.results56, go_sem, y0, y1, y2]) rfl ?_
              rcases CH.out with h | h
              · simp at h
              · exact ⟨_, _, kn, _, 0, _, (dat.drop 1).take kn, (dat.drop 1).drop kn, false, _, rfl, .inr ⟨rfl, h.2, LN, Lib.hid ⟨by rw [← LN.out.1]; exact (KD1.out _ h0.out), by rw [← LN.out.2]; exact (KD2.out _ h0.out)⟩⟩, bF⟩
        · have hc1 : ¬ c = 1 := by omega
          have VA : Hid (∀ U : World, Calls Tryd.prog 62 #[.agg #[.slice (some ⟨g, o + 1, none⟩) kn (c - 1), .slice (some ⟨g, o + (kn + 1), none⟩) (n - (kn + 1)) (c - (kn + 1)), .bool false]] U fun e w' => e = .returned (.bool (okN kn (n - (kn + 1)) false)) ∧ Below U.heap.size U w') := Lib.hid fun U => valid_any U
          go_wp2_with fail
          go_region
          obtain ⟨W5, hW5⟩ : ∃ u, (((W4.setCell ⟨p + 1 + 1, 0, none⟩ (.slice (some ⟨g, o + 1, none⟩) kn (c - 1))).setCell ⟨p + 1 + 1, 1, none⟩ (.slice (some ⟨g, o + (kn + 1), none⟩) (n - (kn + 1)) (c - (kn + 1)))).setCell ⟨p + 1 + 1, 2, none⟩ (.bool false)).drew = u := ⟨_, rfl⟩
          rw [hW5]
          have Z5 : Hid (Bx W5 (p + 1 + 1) [.slice (some ⟨g, o + 1, none⟩) kn (c - 1), .slice (some ⟨g, o + (kn + 1), none⟩) (n - (kn + 1)) (c - (kn + 1)), .bool false]) := hW5 ▸ Lib.hid (((((Z.out.set (j := 0) (by simp) _).set (j := 1) (by simp) _).set (j := 2) (by simp) _)).step ((Below.refl _ _).drew))
          have X5 : Hid (Bx W5 p _) := hW5 ▸ Lib.hid ((((X.out.other (q := p + 1 + 1) (by omega) 0 _).other (q := p + 1 + 1) (by omega) 1 _).other (q := p + 1 + 1) (by omega) 2 _).step ((Below.refl _ _).drew))
          have Y5 : Hid (Bx W5 (p + 1) _) := hW5 ▸ Lib.hid ((((Y.out.other (q := p + 1 + 1) (by omega) 0 _).other (q := p + 1 + 1) (by omega) 1 _).other (q := p + 1 + 1) (by omega) 2 _).step ((Below.refl _ _).drew))
          have bw5 : Below w.heap.size w W5 := hW5 ▸ (res3_below bw (by omega)).drew
          clear hW5 x0 x1 x2 y0 y1 y2 f0 f1 f2 z0 z1 z2 g0 g1 g2 xl yl zl bw
          clear X Y Z
          have X := X5
          have Y := Y5
          have Z := Z5
          have bw := bw5
          clear X5 Y5 Z5 bw5
          have xl := X.out.lt
          have yl := Y.out.lt
          have zl := Z.out.lt
          go_wp2_with fail
          cases hb : okN kn (n - (kn + 1)) false with
          | false =>
            rw [hb] at VA CH
            clear hb
            -- region 7: from world W5 with X Y Z, bw
            have vd : Below W5.heap.size W5 W5.drew := (Below.refl _ _).drew
            have KQ : Hid (∀ U, Below W5.heap.size W5 U → (U.cell? ⟨p, 0, none⟩ = some (.int .i64 1) ∧ U.cell? ⟨p + 1 + 1, 0, none⟩ = some (.slice (some ⟨g, o + 1, none⟩) (kn) (c - 1)) ∧ U.cell? ⟨p + 1 + 1, 1, none⟩ = some (.slice (some ⟨g, o + (kn + 1), none⟩) (n - (kn + 1)) (c - (kn + 1))) ∧ U.cell? ⟨p + 1 + 1, 2, none⟩ = some (.bool false)) ∧
                (U.cell? ⟨p + 1, 0, none⟩ = some (.slice none 0 0) ∧ U.cell? ⟨p + 1, 1, none⟩ = some (.slice none 0 0) ∧ U.cell? ⟨p + 1, 2, none⟩ = some (.bool false)) ∧ U.frozen? ⟨p + 1, 0, none⟩ = false ∧ U.frozen? ⟨p + 1, 1, none⟩ = false ∧ U.frozen? ⟨p + 1, 2, none⟩ = false) := Lib.hid fun U hU => by
              have X := Lib.hid (X.out.nx hU)
              have Y := Lib.hid (Y.out.nx hU)
              have Z := Lib.hid (Z.out.nx hU)
              have x0 := X.out.at_ 0 (by simp)
              have x1 := X.out.at_ 1 (by simp)
              have x2 := X.out.at_ 2 (by simp)
              simp only [List.getElem?_cons_succ, List.getElem?_cons_zero] at x0 x1 x2
              have y0 := Y.out.at_ 0 (by simp)
              have y1 := Y.out.at_ 1 (by simp)
              have y2 := Y.out.at_ 2 (by simp)
              simp only [List.getElem?_cons_succ, List.getElem?_cons_zero] at y0 y1 y2
              have f0 := Y.out.fz 0 (by simp)
              have f1 := Y.out.fz 1 (by simp)
              have f2 := Y.out.fz 2 (by simp)
              have z0 := Z.out.at_ 0 (by simp)
              have z1 := Z.out.at_ 1 (by simp)
              have z2 := Z.out.at_ 2 (by simp)
              simp only [List.getElem?_cons_succ, List.getElem?_cons_zero] at z0 z1 z2
              exact ⟨⟨x0, z0, z1, z2⟩, ⟨y0, y1, y2⟩, f0, f1, f2⟩
            have kd := KQ.out _ vd
            obtain ⟨⟨x0, z0, z1, z2⟩, ⟨y0, y1, y2⟩, f0, f1, f2⟩ := kd
            go_cut [3] from 44 (fun bv wx => bv = .bool false ∧ Hid (Bx wx (p + 1) [.slice (some ⟨g, o + 1, none⟩) (kn) (c - 1), .slice (some ⟨g, o + (kn + 1), none⟩) (n - (kn + 1)) (c - (kn + 1)), .bool false]) ∧ Below w.heap.size w wx)
            case first =>
              go_region_with
                (first
                  | (go_at_call 62; refine (VA.out _).mono ?_; rintro e wv ⟨rfl, bv⟩; have v6 := vd.trans (bv.mono vd.size); have k6 := KQ.out _ v6; have x0 := k6.1.1; have z0 := k6.1.2.1; have z1 := k6.1.2.2.1; have z2 := k6.1.2.2.2; have y0 := k6.2.1.1; have y1 := k6.2.1.2.1; have y2 := k6.2.1.2.2; have f0 := k6.2.2.1; have f1 := k6.2.2.2.1; have f2 := k6.2.2.2.2))
              all_goals (go_wp2_with fail; go_meet; exact ⟨rfl, Lib.hid ((((Y.out.nx v6).set (j := 0) (by simp) _).set (j := 1) (by simp) _).set (j := 2) (by simp) _), res3_below (bw.trans ((v6).mono bw.size)) hwR⟩)
            case rest =>
            obtain ⟨rfl, YY, bF⟩ := hcut
            clear x0 z0 z1 z2 y0 y1 y2 f0 f1 f2 vd KQ
            have y0 := YY.out.at_ 0 (by simp)
            have y1 := YY.out.at_ 1 (by simp)
            have y2 := YY.out.at_ 2 (by simp)
            simp only [List.getElem?_cons_succ, List.getElem?_cons_zero] at y0 y1 y2
            go_wp2_with fail
            refine bodyPost_ret (v := .tuple #[.agg #[.slice (some ⟨g, o + 1, none⟩) (kn) (c - 1), .slice (some ⟨g, o + (kn + 1), none⟩) (n - (kn + 1)) (c - (kn + 1)), .bool false], .bool false]) (by simp [results, Tryd.results56, go_sem, y0, y1, y2]) rfl ?_
            rcases CH.out with h | h
            · exact ⟨_, _, kn, _, n - (kn + 1), _, [], [], false, _, rfl, .inl ⟨rfl, h.2⟩, bF⟩
            · simp at h
          | true =>
            rw [hb] at VA CH
            clear hb
            -- region 7: from world W5 with X Y Z, bw
            have vd : Below W5.heap.size W5 W5.drew := (Below.refl _ _).drew
            have KQ : Hid (∀ U, Below W5.heap.size W5 U → (U.cell? ⟨p, 0, none⟩ = some (.int .i64 1) ∧ U.cell? ⟨p + 1 + 1, 0, none⟩ = some (.slice (some ⟨g, o + 1, none⟩) (kn) (c - 1)) ∧ U.cell? ⟨p + 1 + 1, 1, none⟩ = some (.slice (some ⟨g, o + (kn + 1), none⟩) (n - (kn + 1)) (c - (kn + 1))) ∧ U.cell? ⟨p + 1 + 1, 2, none⟩ = some (.bool false)) ∧
                (U.cell? ⟨p + 1, 0, none⟩ = some (.slice none 0 0) ∧ U.cell? ⟨p + 1, 1, none⟩ = some (.slice none 0 0) ∧ U.cell? ⟨p + 1, 2, none⟩ = some (.bool false)) ∧ U.frozen? ⟨p + 1, 0, none⟩ = false ∧ U.frozen? ⟨p + 1, 1, none⟩ = false ∧ U.frozen? ⟨p + 1, 2, none⟩ = false) := Lib.hid fun U hU => by
              have X := Lib.hid (X.out.nx hU)
              have Y := Lib.hid (Y.out.nx hU)
              have Z := Lib.hid (Z.out.nx hU)
              have x0 := X.out.at_ 0 (by simp)
              have x1 := X.out.at_ 1 (by simp)
              have x2 := X.out.at_ 2 (by simp)
              simp only [List.getElem?_cons_succ, List.getElem?_cons_zero] at x0 x1 x2
              have y0 := Y.out.at_ 0 (by simp)
              have y1 := Y.out.at_ 1 (by simp)
              have y2 := Y.out.at_ 2 (by simp)
              simp only [List.getElem?_cons_succ, List.getElem?_cons_zero] at y0 y1 y2
              have f0 := Y.out.fz 0 (by simp)
              have f1 := Y.out.fz 1 (by simp)
              have f2 := Y.out.fz 2 (by simp)
              have z0 := Z.out.at_ 0 (by simp)
              have z1 := Z.out.at_ 1 (by simp)
              have z2 := Z.out.at_ 2 (by simp)
              simp only [List.getElem?_cons_succ, List.getElem?_cons_zero] at z0 z1 z2
              exact ⟨⟨x0, z0, z1, z2⟩, ⟨y0, y1, y2⟩, f0, f1, f2⟩
            have kd := KQ.out _ vd
            obtain ⟨⟨x0, z0, z1, z2⟩, ⟨y0, y1, y2⟩, f0, f1, f2⟩ := kd
            go_cut [3] from 44 (fun bv wx => bv = .bool true ∧ Hid (Bx wx (p + 1) [.slice (some ⟨g, o + 1, none⟩) (kn) (c - 1), .slice (some ⟨g, o + (kn + 1), none⟩) (n - (kn + 1)) (c - (kn + 1)), .bool false]) ∧ Below w.heap.size w wx)
            case first =>
              go_region_with
                (first
                  | (go_at_call 62; refine (VA.out _).mono ?_; rintro e wv ⟨rfl, bv⟩; have v6 := vd.trans (bv.mono vd.size); have k6 := KQ.out _ v6; have x0 := k6.1.1; have z0 := k6.1.2.1; have z1 := k6.1.2.2.1; have z2 := k6.1.2.2.2; have y0 := k6.2.1.1; have y1 := k6.2.1.2.1; have y2 := k6.2.1.2.2; have f0 := k6.2.2.1; have f1 := k6.2.2.2.1; have f2 := k6.2.2.2.2))
              all_goals (go_wp2_with fail; go_meet; exact ⟨rfl, Lib.hid ((((Y.out.nx v6).set (j := 0) (by simp) _).set (j := 1) (by simp) _).set (j := 2) (by simp) _), res3_below (bw.trans ((v6).mono bw.size)) hwR⟩)
            case rest =>
            obtain ⟨rfl, YY, bF⟩ := hcut
            clear x0 z0 z1 z2 y0 y1 y2 f0 f1 f2 vd KQ
            have y0 := YY.out.at_ 0 (by simp)
            have y1 := YY.out.at_ 1 (by simp)
            have y2 := YY.out.at_ 2 (by simp)
            simp only [List.getElem?_cons_succ, List.getElem?_cons_zero] at y0 y1 y2
            go_wp2_with fail
            refine bodyPost_ret (v := .tuple #[.agg #[.slice (some ⟨g, o + 1, none⟩) (kn) (c - 1), .slice (some ⟨g, o + (kn + 1), none⟩) (n - (kn + 1)) (c - (kn + 1)), .bool false], .bool true]) (by simp [results, Tryd.results56, go_sem, y0, y1, y2]) rfl ?_
            rcases CH.out with h | h
            · simp at h
            · exact ⟨_, _, kn, _, n - (kn + 1), _, (dat.drop 1).take kn, (dat.drop 1).drop kn, false, _, rfl, .inr ⟨rfl, h.2, LN, Lib.hid ⟨by rw [← LN.out.1]; exact (KD.out _ h0.out).1, by rw [← LN.out.2]; exact (KD.out _ h0.out).2⟩⟩, bF⟩
  · have e1 : decide (k = 1) = false := decide_eq_false hk1
    by_cases hk3 : k = 3
    · subst hk3
      have NN : Hid (chR ⟨3, t, dat⟩ = none) := Lib.hid (by unfold chR; rw [if_neg (by simp), if_neg (by simp)])
      go_wp2_with fail
      clear x0 x1 x2 y0 y1 y2 f0 f1 f2 z0 z1 z2 g0 g1 g2
      have e3 : ((3 : Int) != 3) = false := rfl
      -- region 7: from world W3 with X Y Z, bw
      have vd : Below W3.heap.size W3 W3.drew := (Below.refl _ _).drew
      have KQ : Hid (∀ U, Below W3.heap.size W3 U → (U.cell? ⟨p, 0, none⟩ = some (.int .i64 3) ∧ U.cell? ⟨p + 1 + 1, 0, none⟩ = some (.slice (D) (n) (c)) ∧ U.cell? ⟨p + 1 + 1, 1, none⟩ = some (.slice (none) (0) (0)) ∧ U.cell? ⟨p + 1 + 1, 2, none⟩ = some (.bool true)) ∧
          (U.cell? ⟨p + 1, 0, none⟩ = some (.slice none 0 0) ∧ U.cell? ⟨p + 1, 1, none⟩ = some (.slice none 0 0) ∧ U.cell? ⟨p + 1, 2, none⟩ = some (.bool false)) ∧ U.frozen? ⟨p + 1, 0, none⟩ = false ∧ U.frozen? ⟨p + 1, 1, none⟩ = false ∧ U.frozen? ⟨p + 1, 2, none⟩ = false) := Lib.hid fun U hU => by
        have X := Lib.hid (X.out.nx hU)
        have Y := Lib.hid (Y.out.nx hU)
        have Z := Lib.hid (Z.out.nx hU)
        have x0 := X.out.at_ 0 (by simp)
        have x1 := X.out.at_ 1 (by simp)
        have x2 := X.out.at_ 2 (by simp)
        simp only [List.getElem?_cons_succ, List.getElem?_cons_zero] at x0 x1 x2
        have y0 := Y.out.at_ 0 (by simp)
        have y1 := Y.out.at_ 1 (by simp)
        have y2 := Y.out.at_ 2 (by simp)
        simp only [List.getElem?_cons_succ, List.getElem?_cons_zero] at y0 y1 y2
        have f0 := Y.out.fz 0 (by simp)
        have f1 := Y.out.fz 1 (by simp)
        have f2 := Y.out.fz 2 (by simp)
        have z0 := Z.out.at_ 0 (by simp)
        have z1 := Z.out.at_ 1 (by simp)
        have z2 := Z.out.at_ 2 (by simp)
        simp only [List.getElem?_cons_succ, List.getElem?_cons_zero] at z0 z1 z2
        exact ⟨⟨x0, z0, z1, z2⟩, ⟨y0, y1, y2⟩, f0, f1, f2⟩
      have kd := KQ.out _ (Below.refl _ _)
      obtain ⟨⟨x0, z0, z1, z2⟩, ⟨y0, y1, y2⟩, f0, f1, f2⟩ := kd
      go_cut [3] from 44 (fun bv wx => bv = .bool false ∧ Hid (Bx wx (p + 1) [.slice (D) (n) (c), .slice (none) (0) (0), .bool true]) ∧ Below w.heap.size w wx)
      case first =>
        go_region_with (fail)
        all_goals (go_wp2_with fail; go_meet; exact ⟨rfl, Lib.hid ((((Y.out.nx vd).set (j := 0) (by simp) _).set (j := 1) (by simp) _).set (j := 2) (by simp) _), res3_below (bw.trans ((vd).mono bw.size)) hwR⟩)
      case rest =>
      obtain ⟨rfl, YY, bF⟩ := hcut
      clear x0 z0 z1 z2 y0 y1 y2 f0 f1 f2 vd KQ
      have y0 := YY.out.at_ 0 (by simp)
      have y1 := YY.out.at_ 1 (by simp)
      have y2 := YY.out.at_ 2 (by simp)
      simp only [List.getElem?_cons_succ, List.getElem?_cons_zero] at y0 y1 y2
      go_wp2_with fail
      refine bodyPost_ret (v := .tuple #[.agg #[.slice (D) (n) (c), .slice (none) (0) (0), .bool true], .bool false]) (by simp [results, Tryd.results56, go_sem, y0, y1, y2]) rfl ?_
      exact ⟨D, none, n, c, 0, 0, [], [], true, false, rfl, .inl ⟨rfl, NN.out⟩, bF⟩
    · have hk2 : k = 2 := by have := hk.out; omega
      subst hk2
      have H0 := Lib.hid (hd.out.nx bw)
      have CH : Hid ((okN n 0 true = false ∧ chR ⟨2, t, dat⟩ = none) ∨ (okN n 0 true = true ∧ chR ⟨2, t, dat⟩ = some ⟨dat, [], true⟩)) := Lib.hid (by
        have e : chR ⟨2, t, dat⟩ = if (Ch.ok ⟨dat, [], true⟩) = true then some ⟨dat, [], true⟩ else none := by
          unfold chR
          rw [if_neg (by simp)]
          by_cases h : Ch.ok ⟨dat, [], true⟩ = true
          · rw [if_pos h]; exact if_pos ⟨by simp, h⟩
          · rw [if_neg h]; exact if_neg fun x => h x.2
        have e2 : Ch.ok ⟨dat, [], true⟩ = okN n 0 true := by unfold Ch.ok; rw [NL.out]; rfl
        rw [e, e2]
        cases okN n 0 true <;> simp)
      have VA : Hid (∀ U : World, Calls Tryd.prog 62 #[.agg #[.slice D n c, .slice none 0 0, .bool true]] U fun e w' => e = .returned (.bool (okN n 0 true)) ∧ Below U.heap.size U w') := Lib.hid fun U => valid_any U
      go_wp2_with fail
      clear x0 x1 x2 y0 y1 y2 f0 f1 f2 z0 z1 z2 g0 g1 g2
      cases hb : okN n 0 true with
      | false =>
        rw [hb] at VA CH
        clear hb
        -- region 7: from world W3 with X Y Z, bw
        have vd : Below W3.heap.size W3 W3.drew := (Below.refl _ _).drew
        have KQ : Hid (∀ U, Below W3.heap.size W3 U → (U.cell? ⟨p, 0, none⟩ = some (.int .i64 2) ∧ U.cell? ⟨p + 1 + 1, 0, none⟩ = some (.slice (D) (n) (c)) ∧ U.cell? ⟨p + 1 + 1, 1, none⟩ = some (.slice (none) (0) (0)) ∧ U.cell? ⟨p + 1 + 1, 2, none⟩ = some (.bool true)) ∧
            (U.cell? ⟨p + 1, 0, none⟩ = some (.slice none 0 0) ∧ U.cell? ⟨p + 1, 1, none⟩ = some (.slice none 0 0) ∧ U.cell? ⟨p + 1, 2, none⟩ = some (.bool false)) ∧ U.frozen? ⟨p + 1, 0, none⟩ = false ∧ U.frozen? ⟨p + 1, 1, none⟩ = false ∧ U.frozen? ⟨p + 1, 2, none⟩ = false) := Lib.hid fun U hU => by
          have X := Lib.hid (X.out.nx hU)
          have Y := Lib.hid (Y.out.nx hU)
          have Z := Lib.hid (Z.out.nx hU)
          have x0 := X.out.at_ 0 (by simp)
          have x1 := X.out.at_ 1 (by simp)
          have x2 := X.out.at_ 2 (by simp)
          simp only [List.getElem?_cons_succ, List.getElem?_cons_zero] at x0 x1 x2
          have y0 := Y.out.at_ 0 (by simp)
          have y1 := Y.out.at_ 1 (by simp)
          have y2 := Y.out.at_ 2 (by simp)
          simp only [List.getElem?_cons_succ, List.getElem?_cons_zero] at y0 y1 y2
          have f0 := Y.out.fz 0 (by simp)
          have f1 := Y.out.fz 1 (by simp)
          have f2 := Y.out.fz 2 (by simp)
          have z0 := Z.out.at_ 0 (by simp)
          have z1 := Z.out.at_ 1 (by simp)
          have z2 := Z.out.at_ 2 (by simp)
          simp only [List.getElem?_cons_succ, List.getElem?_cons_zero] at z0 z1 z2
          exact ⟨⟨x0, z0, z1, z2⟩, ⟨y0, y1, y2⟩, f0, f1, f2⟩
        have kd := KQ.out _ vd
        obtain ⟨⟨x0, z0, z1, z2⟩, ⟨y0, y1, y2⟩, f0, f1, f2⟩ := kd
        go_cut [3] from 44 (fun bv wx => bv = .bool false ∧ Hid (Bx wx (p + 1) [.slice (D) (n) (c), .slice (none) (0) (0), .bool true]) ∧ Below w.heap.size w wx)
        case first =>
          go_region_with
            (first
              | (go_at_call 62; refine (VA.out _).mono ?_; rintro e wv ⟨rfl, bv⟩; have v6 := vd.trans (bv.mono vd.size); have k6 := KQ.out _ v6; have x0 := k6.1.1; have z0 := k6.1.2.1; have z1 := k6.1.2.2.1; have z2 := k6.1.2.2.2; have y0 := k6.2.1.1; have y1 := k6.2.1.2.1; have y2 := k6.2.1.2.2; have f0 := k6.2.2.1; have f1 := k6.2.2.2.1; have f2 := k6.2.2.2.2))
          all_goals (go_wp2_with fail; go_meet; exact ⟨rfl, Lib.hid ((((Y.out.nx v6).set (j := 0) (by simp) _).set (j := 1) (by simp) _).set (j := 2) (by simp) _), res3_below (bw.trans ((v6).mono bw.size)) hwR⟩)
        case rest =>
        obtain ⟨rfl, YY, bF⟩ := hcut
        clear x0 z0 z1 z2 y0 y1 y2 f0 f1 f2 vd KQ
        have y0 := YY.out.at_ 0 (by simp)
        have y1 := YY.out.at_ 1 (by simp)
        have y2 := YY.out.at_ 2 (by simp)
        simp only [List.getElem?_cons_succ, List.getElem?_cons_zero] at y0 y1 y2
        go_wp2_with fail
        refine bodyPost_ret (v := .tuple #[.agg #[.slice (D) (n) (c), .slice (none) (0) (0), .bool true], .bool false]) (by simp [results, Tryd.results56, go_sem, y0, y1, y2]) rfl ?_
        rcases CH.out with h | h
        · exact ⟨D, none, n, c, 0, 0, [], [], true, _, rfl, .inl ⟨rfl, h.2⟩, bF⟩
        · simp at h
      | true =>
        rw [hb] at VA CH
        clear hb
        -- region 7: from world W3 with X Y Z, bw
        have vd : Below W3.heap.size W3 W3.drew := (Below.refl _ _).drew
        have KQ : Hid (∀ U, Below W3.heap.size W3 U → (U.cell? ⟨p, 0, none⟩ = some (.int .i64 2) ∧ U.cell? ⟨p + 1 + 1, 0, none⟩ = some (.slice (D) (n) (c)) ∧ U.cell? ⟨p + 1 + 1, 1, none⟩ = some (.slice (none) (0) (0)) ∧ U.cell? ⟨p + 1 + 1, 2, none⟩ = some (.bool true)) ∧
            (U.cell? ⟨p + 1, 0, none⟩ = some (.slice none 0 0) ∧ U.cell? ⟨p + 1, 1, none⟩ = some (.slice none 0 0) ∧ U.cell? ⟨p + 1, 2, none⟩ = some (.bool false)) ∧ U.frozen? ⟨p + 1, 0, none⟩ = false ∧ U.frozen? ⟨p + 1, 1, none⟩ = false ∧ U.frozen? ⟨p + 1, 2, none⟩ = false) := Lib.hid fun U hU => by
          have X := Lib.hid (X.out.nx hU)
          have Y := Lib.hid (Y.out.nx hU)
          have Z := Lib.hid (Z.out.nx hU)
          have x0 := X.out.at_ 0 (by simp)
          have x1 := X.out.at_ 1 (by simp)
          have x2 := X.out.at_ 2 (by simp)
          simp only [List.getElem?_cons_succ, List.getElem?_cons_zero] at x0 x1 x2
          have y0 := Y.out.at_ 0 (by simp)
          have y1 := Y.out.at_ 1 (by simp)
          have y2 := Y.out.at_ 2 (by simp)
          simp only [List.getElem?_cons_succ, List.getElem?_cons_zero] at y0 y1 y2
          have f0 := Y.out.fz 0 (by simp)
          have f1 := Y.out.fz 1 (by simp)
          have f2 := Y.out.fz 2 (by simp)
          have z0 := Z.out.at_ 0 (by simp)
          have z1 := Z.out.at_ 1 (by simp)
          have z2 := Z.out.at_ 2 (by simp)
          simp only [List.getElem?_cons_succ, List.getElem?_cons_zero] at z0 z1 z2
          exact ⟨⟨x0, z0, z1, z2⟩, ⟨y0, y1, y2⟩, f0, f1, f2⟩
        have kd := KQ.out _ vd
        obtain ⟨⟨x0, z0, z1, z2⟩, ⟨y0, y1, y2⟩, f0, f1, f2⟩ := kd
        go_cut [3] from 44 (fun bv wx => bv = .bool true ∧ Hid (Bx wx (p + 1) [.slice (D) (n) (c), .slice (none) (0) (0), .bool true]) ∧ Below w.heap.size w wx)
        case first =>
          go_region_with
            (first
              | (go_at_call 62; refine (VA.out _).mono ?_; rintro e wv ⟨rfl, bv⟩; have v6 := vd.trans (bv.mono vd.size); have k6 := KQ.out _ v6; have x0 := k6.1.1; have z0 := k6.1.2.1; have z1 := k6.1.2.2.1; have z2 := k6.1.2.2.2; have y0 := k6.2.1.1; have y1 := k6.2.1.2.1; have y2 := k6.2.1.2.2; have f0 := k6.2.2.1; have f1 := k6.2.2.2.1; have f2 := k6.2.2.2.2))
          all_goals (go_wp2_with fail; go_meet; exact ⟨rfl, Lib.hid ((((Y.out.nx v6).set (j := 0) (by simp) _).set (j := 1) (by simp) _).set (j := 2) (by simp) _), res3_below (bw.trans ((v6).mono bw.size)) hwR⟩)
        case rest =>
        obtain ⟨rfl, YY, bF⟩ := hcut
        clear x0 z0 z1 z2 y0 y1 y2 f0 f1 f2 vd KQ
        have y0 := YY.out.at_ 0 (by simp)
        have y1 := YY.out.at_ 1 (by simp)
        have y2 := YY.out.at_ 2 (by simp)
        simp only [List.getElem?_cons_succ, List.getElem?_cons_zero] at y0 y1 y2
        go_wp2_with fail
        refine bodyPost_ret (v := .tuple #[.agg #[.slice (D) (n) (c), .slice (none) (0) (0), .bool true], .bool true]) (by simp [results, Tryd.results56, go_sem, y0, y1, y2]) rfl ?_
        have HD := h0
        rcases CH.out with h | h
        · simp at h
        · exact ⟨D, none, n, c, 0, 0, dat, [], true, _, rfl, .inr ⟨rfl, h.2, Lib.hid ⟨NL.out, rfl⟩, Lib.hid ⟨by rw [← NL.out]; exact HD.out, Rd.nil_ _ _⟩⟩, bF⟩
end Go.Proofs.YtpmkohnljngbhaaDoor.Sr
