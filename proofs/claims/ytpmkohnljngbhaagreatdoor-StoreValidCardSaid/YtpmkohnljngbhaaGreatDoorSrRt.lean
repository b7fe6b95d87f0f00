/- Walks: the reference's Change, Transactions. -/
import Derived.Test.YtpmkohnljngbhaaGreatDoorSrRf
import Derived.Test.YtpmkohnljngbhaaGreatDoorSrV
import Derived.Test.YtpmkohnljngbhaaGreatDoorSrW5
import Derived.Deep.RegionWith
namespace Go.Proofs.YtpmkohnljngbhaaGreatDoor.Sr
set_option linter.unusedVariables false
set_option linter.unusedSimpArgs false
set_option maxRecDepth 1000000
open Go.RowKit Wl Pg

theorem chR1 (t : Int) (d : List UInt8) : (chR ⟨1, t, d⟩).isSome = decide (1 ≤ (d.getD 0 0).toNat ∧ (d.getD 0 0).toNat ≤ 40 ∧ (d.getD 0 0).toNat + 1 ≤ d.length ∧ d.length ≤ (d.getD 0 0).toNat + 121) := by
  unfold chR
  simp only [true_and]
  by_cases h1 : d.length ≤ (d.getD 0 0).toNat
  · rw [if_pos h1]
    symm; simp only [Option.isSome_none]; exact decide_eq_false (by omega)
  · rw [if_neg h1]
    have e : (chR0 ⟨1, t, d⟩).ok = okN (d.getD 0 0).toNat (d.length - 1 - (d.getD 0 0).toNat) false := by
      unfold Ch.ok chR0
      rw [if_pos rfl]
      simp only [List.length_take, List.length_drop]
      congr 1
      omega
    by_cases h2 : (chR0 ⟨1, t, d⟩).ok = true
    · rw [if_pos ⟨by decide, h2⟩]
      rw [e] at h2
      unfold okN at h2
      simp only [Bool.and_eq_true, decide_eq_true_eq] at h2
      symm; simp only [Option.isSome_some]; exact decide_eq_true (by omega)
    · rw [if_neg (fun h => h2 h.2)]
      symm; simp only [Option.isSome_none]
      refine decide_eq_false fun h => h2 ?_
      rw [e]; unfold okN
      simp only [Bool.and_eq_true, decide_eq_true_eq, Bool.or_eq_true, Bool.not_false, true_or, and_true]
      omega
theorem chR2 (t : Int) (d : List UInt8) : (chR ⟨2, t, d⟩).isSome = keyN d.length := by
  unfold chR
  rw [if_neg (by simp)]
  have e : (chR0 ⟨2, t, d⟩).ok = keyN d.length := by
    unfold Ch.ok chR0 okN keyN
    rw [if_neg (show ¬ (2 : Int) = 1 by decide)]
    simp
  by_cases h : (chR0 ⟨2, t, d⟩).ok = true
  · rw [if_pos ⟨show (2 : Int) ≠ 3 by decide, h⟩, ← e, h]; rfl
  · rw [if_neg (fun x => h x.2), ← e]; simp at h; rw [h]; rfl
/-- What Change answers: some change, and whether it is one. -/
def RhPost (w : World) (b : Bool) (e : Ending) (w' : World) : Prop := ∃ (A1 A2 : Option Addr) (n1 c1 n2 c2 : Nat) (d : Bool), e = .returned (.tuple #[.agg #[.slice A1 n1 c1, .slice A2 n2 c2, .bool d], .bool b]) ∧ Below w.heap.size w w'
set_option maxHeartbeats 6400000 in
theorem rChange_any {D : Option Addr} {dn dc : Nat} {data : List UInt8} (k t : Int) (w : World) (hd : Hid (Rd w 1 D dn dc (bv data))) (hn : dn ≤ 4096) (hk : k = 1 ∨ k = 2) :
    Calls Tryz.prog 54 #[.agg #[.int .i64 k, .int .i64 t, .slice D dn dc]] w (RhPost w (chR ⟨k, t, data⟩).isSome) := by
  have DN := Lib.hid (rd_bytes hd.out)
  have dnc := hd.out.nc
  have d63 := hd.out.c63
  obtain ⟨p, hp⟩ : ∃ p, w.heap.size = p := ⟨_, rfl⟩
  obtain ⟨W1, hW1⟩ : ∃ W1, w.alloc (.cells #[.int .i64 k, .int .i64 t, .slice D dn dc] 89) = W1 := ⟨_, rfl⟩
  have v1 : Below w.heap.size w W1 := hW1 ▸ bal _ _
  have X : Hid (Bx W1 p [.int .i64 k, .int .i64 t, .slice D dn dc]) := hW1 ▸ Lib.hid (Bx.put _ hp #[.int .i64 k, .int .i64 t, .slice D dn dc] 89)
  have TX : Hid (Ty W1 p 89) := hW1 ▸ hp ▸ Lib.hid (Ty.new _ _ _)
  have HW1 := Lib.hid hW1
  clear hW1
  obtain ⟨R, hR⟩ : ∃ R, W1.heap.size = R := ⟨_, rfl⟩
  obtain ⟨W2, hW2⟩ : ∃ W2, W1.alloc (.cells #[.slice none 0 0, .slice none 0 0, .bool false] 52) = W2 := ⟨_, rfl⟩
  have v2 : Below W1.heap.size W1 W2 := hW2 ▸ bal _ _
  have Y : Hid (Bx W2 R [.slice none 0 0, .slice none 0 0, .bool false]) := hW2 ▸ Lib.hid (Bx.put _ hR #[.slice none 0 0, .slice none 0 0, .bool false] 52)
  have TY : Hid (Ty W2 R 52) := hW2 ▸ hR ▸ Lib.hid (Ty.new _ _ _)
  have HW2 := Lib.hid hW2
  clear hW2
  have v12 := v1.trans (v2.mono v1.size)
  have hR : w.heap.size ≤ R := by rw [← hR]; exact v1.size
  have X := Lib.hid (X.out.nx v2)
  have e12 : R = p + 1 := by rw [← ‹W1.heap.size = R›, ← HW1.out, ← hp]; simp
  subst e12
  have z0 := X.out.at_ 0 (by simp)
  have z1 := X.out.at_ 1 (by simp)
  have z2 := X.out.at_ 2 (by simp)
  simp only [List.getElem?_cons_succ, List.getElem?_cons_zero] at z0 z1 z2
  have D2 := Lib.hid (hd.out.nx v12)
  have pq : p + 1 < W2.heap.size := Y.out.lt
  have vd : Below W2.heap.size W2 W2.drew := (Below.refl _ _).drew
  have vr := Below.refl W2.heap.size W2
  have YY : Hid (∀ U, Below W2.heap.size W2 U → Bx U (p + 1) [.slice none 0 0, .slice none 0 0, .bool false]) := Lib.hid fun U hU => Y.out.nx hU
  have XX : Hid (∀ U, Below W2.heap.size W2 U → Bx U p [.int .i64 k, .int .i64 t, .slice D dn dc]) := Lib.hid fun U hU => X.out.nx hU
  rcases hk with rfl | rfl
  · have KR := Lib.hid (chR1 t data)
    by_cases h2 : dn < 2
    · have d2 : decide ((dn : Int) < 2) = true := decide_eq_true (by omega)
      have RB : Hid ((chR ⟨1, t, data⟩).isSome = false) := Lib.hid (by rw [KR.out]; exact decide_eq_false (by have := DN.out; omega))
      have y0 := Y.out.at_ 0 (by simp)
      have y1 := Y.out.at_ 1 (by simp)
      have y2 := Y.out.at_ 2 (by simp)
      simp only [List.getElem?_cons_succ, List.getElem?_cons_zero] at y0 y1 y2
      have f0 := Y.out.fz 0 (by simp)
      have f1 := Y.out.fz 1 (by simp)
      have f2 := Y.out.fz 2 (by simp)
      obtain ⟨C0, C1, C2⟩ := res3_cells Y.out
      have C0 := Lib.hid C0
      have C1 := Lib.hid C1
      have C2 := Lib.hid C2
      go_enter Tryz.func54, Tryz.ntmps54
      go_upto_region 1 with fail
      rw [HW1.out, HW2.out]
      go_wp2_with fail
      refine bodyPost_ret (v := .tuple #[.agg #[.slice none 0 0, .slice none 0 0, .bool false], .bool false]) (by simp [results, Tryz.results54, go_sem, C0.out, C1.out, C2.out]) rfl ?_
      rw [RB.out]
      exact ⟨none, none, 0, 0, 0, 0, false, rfl, res3_below v12 hR⟩
    · have d2 : decide ((dn : Int) < 2) = false := decide_eq_false (by omega)
      obtain ⟨g, o, rfl, hg, hc⟩ := D2.out.at_ (by omega)
      obtain ⟨x0, hx0⟩ : ∃ x0, data[0]? = some x0 := ⟨data[0]'(by have := DN.out; omega), List.getElem?_eq_getElem _⟩
      have cx : W2.cell? ⟨g, o, none⟩ = some (.int .u8 (x0.toNat : Int)) := by
        have := hc 0 (by omega)
        rw [Nat.add_zero] at this
        rw [this]; unfold bv; rw [List.getElem?_map, hx0]; rfl
      have eg : data.getD 0 0 = x0 := by rw [List.getD_eq_getElem?_getD, hx0]; rfl
      rw [eg] at KR
      obtain ⟨m, hm⟩ : ∃ m, x0.toNat = m := ⟨_, rfl⟩
      rw [hm] at cx KR
      have m256 : m < 256 := by rw [← hm]; exact x0.toNat_lt
      clear hc hx0 eg hm
      by_cases hok : 1 ≤ m ∧ m ≤ 40 ∧ m + 1 ≤ dn ∧ dn ≤ m + 121
      · have RB : Hid ((chR ⟨1, t, data⟩).isSome = true) := Lib.hid (by rw [KR.out]; exact decide_eq_true (by have := DN.out; omega))
        have w1m : IntKind.i64.wrap (1 + (m : Int)) = 1 + (m : Int) := by rw [IntKind.wrap_i64]; omega
        have w1n : (1 + (m : Int)).toNat = 1 + m := by omega
        have w1p : (0 : Int) ≤ 1 + (m : Int) := by omega
        have w1q : (1 : Int) ≤ 1 + (m : Int) := by omega
        have m0 : ¬ m = 0 := by omega
        have m1 : decide ((m : Int) < 1) = false := decide_eq_false (by omega)
        have m2 : decide (40 < (m : Int)) = false := decide_eq_false (by omega)
        have JN : Hid (∀ U A' n' c', Below W2.heap.size W2 U → n' ≤ 4096 → (∃ y, Rd W2 1 A' n' c' (bv y)) → Calls Tryz.prog 52 #[.slice A' n' c', .slice none 0 0] U fun e w' => ∃ A' n' c', e = .returned (.slice A' n' c') ∧ Below W2.heap.size W2 w') := Lib.hid fun U A' n' c' hU hn' ⟨y, hy⟩ =>
          (rjoin_any (B := none) (m := 0) (d := 0) (y := []) U (Lib.hid (hy.nx hU)) (Lib.hid (Rd.nil_ U 1)) (by omega) (by omega)).mono fun e w' ⟨A', c', h1, _, h3⟩ => ⟨A', _, c', h1, hU.trans (h3.mono hU.size)⟩
        by_cases hdc : dc = 1 + m
        · subst hdc
          obtain rfl : dn = 1 + m := by omega
          have J1 : Hid (∀ U, Below W2.heap.size W2 U → Calls Tryz.prog 52 #[.slice (some ⟨g, o + 1, none⟩) m m, .slice none 0 0] U fun e w' => ∃ A' n' c', e = .returned (.slice A' n' c') ∧ Below W2.heap.size W2 w') := Lib.hid fun U hU => JN.out U _ _ _ hU (by omega) (by
            have h := D2.out.tail (lo := 1) (by omega)
            rw [show 1 + m - 1 = m by omega] at h
            exact ⟨_, h⟩)
          have J2 : Hid (∀ U, Below W2.heap.size W2 U → Calls Tryz.prog 52 #[.slice (some ⟨g, o, none⟩) 0 0, .slice none 0 0] U fun e w' => ∃ A' n' c', e = .returned (.slice A' n' c') ∧ Below W2.heap.size W2 w') := Lib.hid fun U hU => JN.out U _ _ _ hU (by omega) ⟨[], ⟨rfl, Nat.le_refl _, (fun e => by cases e), by omega, fun h => by omega⟩⟩
          have q5 : decide (1 + (m : Int) < 1 + (m : Int)) = false := decide_eq_false (by omega)
          have q6 : decide (1 + (m : Int) + 120 < 1 + (m : Int)) = false := decide_eq_false (by omega)
          clear JN
          have KS : Hid (∀ U a b e, Below W2.heap.size W2 U → (((U.setCell ⟨p + 1, 0, none⟩ a).setCell ⟨p + 1, 1, none⟩ b).setCell ⟨p + 1, 2, none⟩ e).cell? ⟨p, 0, none⟩ = some (.int .i64 1) ∧ (((U.setCell ⟨p + 1, 0, none⟩ a).setCell ⟨p + 1, 1, none⟩ b).setCell ⟨p + 1, 2, none⟩ e).cell? ⟨p, 1, none⟩ = some (.int .i64 t) ∧ (((U.setCell ⟨p + 1, 0, none⟩ a).setCell ⟨p + 1, 1, none⟩ b).setCell ⟨p + 1, 2, none⟩ e).cell? ⟨p, 2, none⟩ = some (.slice (some ⟨g, o, none⟩) (1 + m) (1 + m))) := Lib.hid fun U a b e hU => by
            have X := Lib.hid ((((X.out.nx hU).other (show p + 1 ≠ p by omega) 0 a).other (show p + 1 ≠ p by omega) 1 b).other (show p + 1 ≠ p by omega) 2 e)
            have x0 := X.out.at_ 0 (by simp)
            have x1 := X.out.at_ 1 (by simp)
            have x2 := X.out.at_ 2 (by simp)
            simp only [List.getElem?_cons_succ, List.getElem?_cons_zero] at x0 x1 x2
            exact ⟨x0, x1, x2⟩
          have KK : Hid (∀ U, Below W2.heap.size W2 U → U.cell? ⟨p, 0, none⟩ = some (.int .i64 1) ∧ U.cell? ⟨p, 1, none⟩ = some (.int .i64 t) ∧ U.cell? ⟨p, 2, none⟩ = some (.slice (some ⟨g, o, none⟩) (1 + m) (1 + m))) := Lib.hid fun U hU => by
            have X := Lib.hid (X.out.nx hU)
            have x0 := X.out.at_ 0 (by simp)
            have x1 := X.out.at_ 1 (by simp)
            have x2 := X.out.at_ 2 (by simp)
            simp only [List.getElem?_cons_succ, List.getElem?_cons_zero] at x0 x1 x2
            exact ⟨x0, x1, x2⟩
          go_enter Tryz.func54, Tryz.ntmps54
          go_upto_region 1 with fail
          rw [HW1.out, HW2.out]
          go_wp2_with fail
          go_region_held3 (fun w' => w'.cell? ⟨p, 0, none⟩ = some (.int .i64 1) ∧ w'.cell? ⟨p, 1, none⟩ = some (.int .i64 t) ∧ w'.cell? ⟨p, 2, none⟩ = some (.slice (some ⟨g, o, none⟩) (1 + m) (1 + m)))
            (first | exact KS.out _ _ _ _ kb2 | exact KS.out _ _ _ _ kb1 | exact KK.out _ kb2 | exact KK.out _ kb1 | exact KK.out _ vd | exact KK.out _ vr)
            (first
              | (go_at_call_of 52 m
                 refine (J1.out _ ?_).mono ?_
                 · first | exact kb2 | exact vd | exact vr
                 rintro e w1 ⟨A1, n1, c1, rfl, kb1⟩
                 have kb := kb1
                 have Y5 := YY.out _ kb1
                 have y0 := Y5.at_ 0 (by simp)
                 have y1 := Y5.at_ 1 (by simp)
                 have y2 := Y5.at_ 2 (by simp)
                 simp only [List.getElem?_cons_succ, List.getElem?_cons_zero] at y0 y1 y2
                 have f0 := Y5.fz 0 (by simp)
                 have f1 := Y5.fz 1 (by simp)
                 have f2 := Y5.fz 2 (by simp)
                 skip)
              | (go_at_call 52
                 refine (J2.out _ ?_).mono ?_
                 · first | exact kb1 | exact vd | exact vr
                 rintro e w2 ⟨A2, n2, c2, rfl, kb2⟩
                 have kb := kb2
                 have Y5 := YY.out _ kb2
                 have y0 := Y5.at_ 0 (by simp)
                 have y1 := Y5.at_ 1 (by simp)
                 have y2 := Y5.at_ 2 (by simp)
                 simp only [List.getElem?_cons_succ, List.getElem?_cons_zero] at y0 y1 y2
                 have f0 := Y5.fz 0 (by simp)
                 have f1 := Y5.fz 1 (by simp)
                 have f2 := Y5.fz 2 (by simp)
                 skip))
          all_goals
            obtain ⟨C0, C1, C2⟩ := res3_cells Y5
            have C0 := Lib.hid C0
            have C1 := Lib.hid C1
            have C2 := Lib.hid C2
            have bF := res3_below (R := p + 1) (a := .slice A1 n1 c1) (b := .slice A2 n2 c2) (c := .bool false) (v12.trans (kb.mono v12.size)) hR
            go_wp2_with fail
            refine bodyPost_ret (v := .tuple #[.agg #[.slice A1 n1 c1, .slice A2 n2 c2, .bool false], .bool true]) (by simp [results, Tryz.results54, go_sem, C0.out, C1.out, C2.out]) rfl ?_
            rw [RB.out]
            exact ⟨A1, A2, n1, c1, n2, c2, false, rfl, bF⟩
        · have J1 : Hid (∀ U, Below W2.heap.size W2 U → Calls Tryz.prog 52 #[.slice (some ⟨g, o + 1, none⟩) m (dc - 1), .slice none 0 0] U fun e w' => ∃ A' n' c', e = .returned (.slice A' n' c') ∧ Below W2.heap.size W2 w') := Lib.hid fun U hU => JN.out U _ _ _ hU (by omega) ⟨_, D2.out.sub (lo := 1) (k := m) (by omega)⟩
          have J2 : Hid (∀ U, Below W2.heap.size W2 U → Calls Tryz.prog 52 #[.slice (some ⟨g, o + (1 + m), none⟩) (dn - (1 + m)) (dc - (1 + m)), .slice none 0 0] U fun e w' => ∃ A' n' c', e = .returned (.slice A' n' c') ∧ Below W2.heap.size W2 w') := Lib.hid fun U hU => JN.out U _ _ _ hU (by omega) ⟨_, D2.out.tail (lo := 1 + m) (by omega)⟩
          have q5 : decide ((dn : Int) < 1 + (m : Int)) = false := decide_eq_false (by omega)
          have q6 : decide (1 + (m : Int) + 120 < (dn : Int)) = false := decide_eq_false (by omega)
          have q7 : 1 + (m : Int) ≤ (dn : Int) := by omega
          have q8 : 1 + (m : Int) ≤ (dc : Int) := by omega
          have q9 : ¬ dc = 1 := by omega
          clear JN
          have KS : Hid (∀ U a b e, Below W2.heap.size W2 U → (((U.setCell ⟨p + 1, 0, none⟩ a).setCell ⟨p + 1, 1, none⟩ b).setCell ⟨p + 1, 2, none⟩ e).cell? ⟨p, 0, none⟩ = some (.int .i64 1) ∧ (((U.setCell ⟨p + 1, 0, none⟩ a).setCell ⟨p + 1, 1, none⟩ b).setCell ⟨p + 1, 2, none⟩ e).cell? ⟨p, 1, none⟩ = some (.int .i64 t) ∧ (((U.setCell ⟨p + 1, 0, none⟩ a).setCell ⟨p + 1, 1, none⟩ b).setCell ⟨p + 1, 2, none⟩ e).cell? ⟨p, 2, none⟩ = some (.slice (some ⟨g, o, none⟩) dn dc)) := Lib.hid fun U a b e hU => by
            have X := Lib.hid ((((X.out.nx hU).other (show p + 1 ≠ p by omega) 0 a).other (show p + 1 ≠ p by omega) 1 b).other (show p + 1 ≠ p by omega) 2 e)
            have x0 := X.out.at_ 0 (by simp)
            have x1 := X.out.at_ 1 (by simp)
            have x2 := X.out.at_ 2 (by simp)
            simp only [List.getElem?_cons_succ, List.getElem?_cons_zero] at x0 x1 x2
            exact ⟨x0, x1, x2⟩
          have KK : Hid (∀ U, Below W2.heap.size W2 U → U.cell? ⟨p, 0, none⟩ = some (.int .i64 1) ∧ U.cell? ⟨p, 1, none⟩ = some (.int .i64 t) ∧ U.cell? ⟨p, 2, none⟩ = some (.slice (some ⟨g, o, none⟩) dn dc)) := Lib.hid fun U hU => by
            have X := Lib.hid (X.out.nx hU)
            have x0 := X.out.at_ 0 (by simp)
            have x1 := X.out.at_ 1 (by simp)
            have x2 := X.out.at_ 2 (by simp)
            simp only [List.getElem?_cons_succ, List.getElem?_cons_zero] at x0 x1 x2
            exact ⟨x0, x1, x2⟩
          go_enter Tryz.func54, Tryz.ntmps54
          go_upto_region 1 with fail
          rw [HW1.out, HW2.out]
          go_wp2_with fail
          go_region_held3 (fun w' => w'.cell? ⟨p, 0, none⟩ = some (.int .i64 1) ∧ w'.cell? ⟨p, 1, none⟩ = some (.int .i64 t) ∧ w'.cell? ⟨p, 2, none⟩ = some (.slice (some ⟨g, o, none⟩) dn dc))
            (first | exact KS.out _ _ _ _ kb2 | exact KS.out _ _ _ _ kb1 | exact KK.out _ kb2 | exact KK.out _ kb1 | exact KK.out _ vd | exact KK.out _ vr)
            (first
              | (go_at_call_of 52 dn
                 refine (J2.out _ ?_).mono ?_
                 · first | exact kb1 | exact vd | exact vr
                 rintro e w2 ⟨A2, n2, c2, rfl, kb2⟩
                 have kb := kb2
                 have Y5 := YY.out _ kb2
                 have y0 := Y5.at_ 0 (by simp)
                 have y1 := Y5.at_ 1 (by simp)
                 have y2 := Y5.at_ 2 (by simp)
                 simp only [List.getElem?_cons_succ, List.getElem?_cons_zero] at y0 y1 y2
                 have f0 := Y5.fz 0 (by simp)
                 have f1 := Y5.fz 1 (by simp)
                 have f2 := Y5.fz 2 (by simp)
                 skip)
              | (go_at_call 52
                 refine (J1.out _ ?_).mono ?_
                 · first | exact kb2 | exact vd | exact vr
                 rintro e w1 ⟨A1, n1, c1, rfl, kb1⟩
                 have kb := kb1
                 have Y5 := YY.out _ kb1
                 have y0 := Y5.at_ 0 (by simp)
                 have y1 := Y5.at_ 1 (by simp)
                 have y2 := Y5.at_ 2 (by simp)
                 simp only [List.getElem?_cons_succ, List.getElem?_cons_zero] at y0 y1 y2
                 have f0 := Y5.fz 0 (by simp)
                 have f1 := Y5.fz 1 (by simp)
                 have f2 := Y5.fz 2 (by simp)
                 skip))
          all_goals
            obtain ⟨C0, C1, C2⟩ := res3_cells Y5
            have C0 := Lib.hid C0
            have C1 := Lib.hid C1
            have C2 := Lib.hid C2
            have bF := res3_below (R := p + 1) (a := .slice A1 n1 c1) (b := .slice A2 n2 c2) (c := .bool false) (v12.trans (kb.mono v12.size)) hR
            go_wp2_with fail
            refine bodyPost_ret (v := .tuple #[.agg #[.slice A1 n1 c1, .slice A2 n2 c2, .bool false], .bool true]) (by simp [results, Tryz.results54, go_sem, C0.out, C1.out, C2.out]) rfl ?_
            rw [RB.out]
            exact ⟨A1, A2, n1, c1, n2, c2, false, rfl, bF⟩
      · have RB : Hid ((chR ⟨1, t, data⟩).isSome = false) := Lib.hid (by rw [KR.out]; exact decide_eq_false (by have := DN.out; omega))
        by_cases h3 : m < 1
        · have d3 : decide ((m : Int) < 1) = true := decide_eq_true (by omega)
          have y0 := Y.out.at_ 0 (by simp)
          have y1 := Y.out.at_ 1 (by simp)
          have y2 := Y.out.at_ 2 (by simp)
          simp only [List.getElem?_cons_succ, List.getElem?_cons_zero] at y0 y1 y2
          have f0 := Y.out.fz 0 (by simp)
          have f1 := Y.out.fz 1 (by simp)
          have f2 := Y.out.fz 2 (by simp)
          obtain ⟨C0, C1, C2⟩ := res3_cells Y.out
          have C0 := Lib.hid C0
          have C1 := Lib.hid C1
          have C2 := Lib.hid C2
          go_enter Tryz.func54, Tryz.ntmps54
          go_upto_region 1 with fail
          rw [HW1.out, HW2.out]
          go_wp2_with fail
          refine bodyPost_ret (v := .tuple #[.agg #[.slice none 0 0, .slice none 0 0, .bool false], .bool false]) (by simp [results, Tryz.results54, go_sem, C0.out, C1.out, C2.out]) rfl ?_
          rw [RB.out]
          exact ⟨none, none, 0, 0, 0, 0, false, rfl, res3_below v12 hR⟩
        have d3 : decide ((m : Int) < 1) = false := decide_eq_false (by omega)
        by_cases h4 : 40 < m
        · have d4 : decide (40 < (m : Int)) = true := decide_eq_true (by omega)
          have y0 := Y.out.at_ 0 (by simp)
          have y1 := Y.out.at_ 1 (by simp)
          have y2 := Y.out.at_ 2 (by simp)
          simp only [List.getElem?_cons_succ, List.getElem?_cons_zero] at y0 y1 y2
          have f0 := Y.out.fz 0 (by simp)
          have f1 := Y.out.fz 1 (by simp)
          have f2 := Y.out.fz 2 (by simp)
          obtain ⟨C0, C1, C2⟩ := res3_cells Y.out
          have C0 := Lib.hid C0
          have C1 := Lib.hid C1
          have C2 := Lib.hid C2
          go_enter Tryz.func54, Tryz.ntmps54
          go_upto_region 1 with fail
          rw [HW1.out, HW2.out]
          go_wp2_with fail
          refine bodyPost_ret (v := .tuple #[.agg #[.slice none 0 0, .slice none 0 0, .bool false], .bool false]) (by simp [results, Tryz.results54, go_sem, C0.out, C1.out, C2.out]) rfl ?_
          rw [RB.out]
          exact ⟨none, none, 0, 0, 0, 0, false, rfl, res3_below v12 hR⟩
        have d4 : decide (40 < (m : Int)) = false := decide_eq_false (by omega)
        by_cases h5 : dn < 1 + m
        · have d5 : decide ((dn : Int) < 1 + (m : Int)) = true := decide_eq_true (by omega)
          have y0 := Y.out.at_ 0 (by simp)
          have y1 := Y.out.at_ 1 (by simp)
          have y2 := Y.out.at_ 2 (by simp)
          simp only [List.getElem?_cons_succ, List.getElem?_cons_zero] at y0 y1 y2
          have f0 := Y.out.fz 0 (by simp)
          have f1 := Y.out.fz 1 (by simp)
          have f2 := Y.out.fz 2 (by simp)
          obtain ⟨C0, C1, C2⟩ := res3_cells Y.out
          have C0 := Lib.hid C0
          have C1 := Lib.hid C1
          have C2 := Lib.hid C2
          go_enter Tryz.func54, Tryz.ntmps54
          go_upto_region 1 with fail
          rw [HW1.out, HW2.out]
          go_wp2_with fail
          refine bodyPost_ret (v := .tuple #[.agg #[.slice none 0 0, .slice none 0 0, .bool false], .bool false]) (by simp [results, Tryz.results54, go_sem, C0.out, C1.out, C2.out]) rfl ?_
          rw [RB.out]
          exact ⟨none, none, 0, 0, 0, 0, false, rfl, res3_below v12 hR⟩
        have d5 : decide ((dn : Int) < 1 + (m : Int)) = false := decide_eq_false (by omega)
        have d6 : decide (1 + (m : Int) + 120 < (dn : Int)) = true := decide_eq_true (by omega)
        have y0 := Y.out.at_ 0 (by simp)
        have y1 := Y.out.at_ 1 (by simp)
        have y2 := Y.out.at_ 2 (by simp)
        simp only [List.getElem?_cons_succ, List.getElem?_cons_zero] at y0 y1 y2
        have f0 := Y.out.fz 0 (by simp)
        have f1 := Y.out.fz 1 (by simp)
        have f2 := Y.out.fz 2 (by simp)
        obtain ⟨C0, C1, C2⟩ := res3_cells Y.out
        have C0 := Lib.hid C0
        have C1 := Lib.hid C1
        have C2 := Lib.hid C2
        go_enter Tryz.func54, Tryz.ntmps54
        go_upto_region 1 with fail
        rw [HW1.out, HW2.out]
        go_wp2_with fail
        refine bodyPost_ret (v := .tuple #[.agg #[.slice none 0 0, .slice none 0 0, .bool false], .bool false]) (by simp [results, Tryz.results54, go_sem, C0.out, C1.out, C2.out]) rfl ?_
        rw [RB.out]
        exact ⟨none, none, 0, 0, 0, 0, false, rfl, res3_below v12 hR⟩
  · have KY := fun U => rKey_any (A := D) (n := dn) (c := dc) U
    obtain ⟨bk, hbk⟩ : ∃ bk, keyN dn = bk := ⟨_, rfl⟩
    rw [hbk] at KY
    have KY := Lib.hid KY
    have RB : Hid ((chR ⟨2, t, data⟩).isSome = bk) := Lib.hid (by rw [chR2, ← DN.out, hbk])
    clear hbk
    have JN : Hid (∀ U, Below W2.heap.size W2 U → Calls Tryz.prog 52 #[.slice D dn dc, .slice none 0 0] U fun e w' => ∃ A' n' c', e = .returned (.slice A' n' c') ∧ Below W2.heap.size W2 w') := Lib.hid fun U hU =>
      (rjoin_any (B := none) (m := 0) (d := 0) (y := []) U (Lib.hid (D2.out.nx hU)) (Lib.hid (Rd.nil_ U 1)) (by omega) (by omega)).mono fun e w' ⟨A', c', h1, _, h3⟩ => ⟨A', _, c', h1, hU.trans (h3.mono hU.size)⟩
    have KS : Hid (∀ U a b e, Below W2.heap.size W2 U → (((U.setCell ⟨p + 1, 0, none⟩ a).setCell ⟨p + 1, 1, none⟩ b).setCell ⟨p + 1, 2, none⟩ e).cell? ⟨p, 0, none⟩ = some (.int .i64 2) ∧ (((U.setCell ⟨p + 1, 0, none⟩ a).setCell ⟨p + 1, 1, none⟩ b).setCell ⟨p + 1, 2, none⟩ e).cell? ⟨p, 1, none⟩ = some (.int .i64 t) ∧ (((U.setCell ⟨p + 1, 0, none⟩ a).setCell ⟨p + 1, 1, none⟩ b).setCell ⟨p + 1, 2, none⟩ e).cell? ⟨p, 2, none⟩ = some (.slice D dn dc)) := Lib.hid fun U a b e hU => by
      have X := Lib.hid ((((X.out.nx hU).other (show p + 1 ≠ p by omega) 0 a).other (show p + 1 ≠ p by omega) 1 b).other (show p + 1 ≠ p by omega) 2 e)
      have x0 := X.out.at_ 0 (by simp)
      have x1 := X.out.at_ 1 (by simp)
      have x2 := X.out.at_ 2 (by simp)
      simp only [List.getElem?_cons_succ, List.getElem?_cons_zero] at x0 x1 x2
      exact ⟨x0, x1, x2⟩
    have KK : Hid (∀ U, Below W2.heap.size W2 U → U.cell? ⟨p, 0, none⟩ = some (.int .i64 2) ∧ U.cell? ⟨p, 1, none⟩ = some (.int .i64 t) ∧ U.cell? ⟨p, 2, none⟩ = some (.slice D dn dc)) := Lib.hid fun U hU => by
      have X := Lib.hid (X.out.nx hU)
      have x0 := X.out.at_ 0 (by simp)
      have x1 := X.out.at_ 1 (by simp)
      have x2 := X.out.at_ 2 (by simp)
      simp only [List.getElem?_cons_succ, List.getElem?_cons_zero] at x0 x1 x2
      exact ⟨x0, x1, x2⟩
    go_enter Tryz.func54, Tryz.ntmps54
    go_upto_region 1 with fail
    rw [HW1.out, HW2.out]
    go_wp2_with fail
    go_region_held3 (fun w' => w'.cell? ⟨p, 0, none⟩ = some (.int .i64 2) ∧ w'.cell? ⟨p, 1, none⟩ = some (.int .i64 t) ∧ w'.cell? ⟨p, 2, none⟩ = some (.slice D dn dc))
      (first | exact KS.out _ _ _ _ kb1 | exact KK.out _ kb1 | exact KK.out _ vd | exact KK.out _ vr)
      (first
        | (go_at_call 59
           refine (KY.out _).mono ?_
           rintro e w4 ⟨rfl, rfl⟩)
        | (go_at_call 52
           refine (JN.out _ ?_).mono ?_
           · first | exact vd | exact vr
           rintro e w3 ⟨A1, n1, c1, rfl, kb1⟩
           have Y5 := YY.out _ kb1
           have y0 := Y5.at_ 0 (by simp)
           have y1 := Y5.at_ 1 (by simp)
           have y2 := Y5.at_ 2 (by simp)
           simp only [List.getElem?_cons_succ, List.getElem?_cons_zero] at y0 y1 y2
           have f0 := Y5.fz 0 (by simp)
           have f1 := Y5.fz 1 (by simp)
           have f2 := Y5.fz 2 (by simp)
           skip))
    all_goals
      obtain ⟨C0, C1, C2⟩ := res3_cells Y5
      have C0 := Lib.hid C0
      have C1 := Lib.hid C1
      have C2 := Lib.hid C2
      have bF := res3_below (R := p + 1) (a := .slice A1 n1 c1) (b := .slice none 0 0) (c := .bool true) (v12.trans (kb1.mono v12.size)) hR
      go_wp2_with fail
      refine bodyPost_ret (v := .tuple #[.agg #[.slice A1 n1 c1, .slice none 0 0, .bool true], .bool bk]) (by simp [results, Tryz.results54, go_sem, C0.out, C1.out, C2.out]) rfl ?_
      rw [RB.out]
      exact ⟨A1, none, n1, c1, 0, 0, true, rfl, bF⟩
end Go.Proofs.YtpmkohnljngbhaaGreatDoor.Sr
