/- Walks: more, Put. -/
import Derived.Test.YtpmkohnljngbhaaDoorSrW7
import Derived.Deep.RegionLaw
namespace Go.Proofs.YtpmkohnljngbhaaDoor.Sr
set_option linter.unusedVariables false
set_option linter.unusedSimpArgs false
set_option maxRecDepth 1000000
open Go.RowKit Wl Pg
section
variable {PA FA LA : Option Addr} {np pc m fc ln lc : Nat} {r0 last : Int} {f : FV} {log : List UInt8}
/-- What more answers: another piece of work, with a change more. -/
def MoPost (w : World) (PA : Option Addr) (np pc : Nat) (r0 : Int) (FA : Option Addr) (m fc : Nat) (LA : Option Addr) (ln lc : Nat) (last : Int) (n : Nat) (l : List CV) (x : CV) (e : Ending) (w' : World) : Prop :=
  ((100 ≤ n ∧ e = .returned (.tuple #[.agg #[.slice none 0 0, .int .i64 0, .slice none 0 0, .slice none 0 0, .int .i64 0, .slice none 0 0], .int .i64 5])) ∨ (n < 100 ∧ ∃ (A : Option Addr) (c : Nat), e = .returned (.tuple #[.agg #[.slice PA np pc, .int .i64 r0, .slice FA m fc, .slice LA ln lc, .int .i64 last, .slice A (n + 1) c], .int .i64 0]) ∧ Hid (w'.ownsRow w.heap.size 45 3 (.slice A (n + 1) c) (n + 1) (cvs (l ++ [x]))))) ∧ Below w.heap.size w w'
theorem own_res6 {W : World} {base E s n R : Nat} {A : Option Addr} {c : Nat} {xs : List Value} {a b d e f g : Value} (h : W.ownsRow base E s (.slice A n c) n xs) (hR : R < base) :
    ((((((W.setCell ⟨R, 0, none⟩ a).setCell ⟨R, 1, none⟩ b).setCell ⟨R, 2, none⟩ d).setCell ⟨R, 3, none⟩ e).setCell ⟨R, 4, none⟩ f).setCell ⟨R, 5, none⟩ g).ownsRow base E s (.slice A n c) n xs := by
  have ne : blk A ≠ some R := fun e => by have := (own_blk_le h e).1; omega
  have h0 := own_set h ⟨R, 0, none⟩ a ne
  have h1 := own_set h0 ⟨R, 1, none⟩ b ne
  have h2 := own_set h1 ⟨R, 2, none⟩ d ne
  have h3 := own_set h2 ⟨R, 3, none⟩ e ne
  have h4 := own_set h3 ⟨R, 4, none⟩ f ne
  exact own_set h4 ⟨R, 5, none⟩ g ne
theorem own_res5 {W : World} {base E s n R : Nat} {A : Option Addr} {c : Nat} {xs : List Value} {a b d e f : Value} (h : W.ownsRow base E s (.slice A n c) n xs) (hR : R < base) :
    (((((W.setCell ⟨R, 0, none⟩ a).setCell ⟨R, 1, none⟩ b).setCell ⟨R, 2, none⟩ d).setCell ⟨R, 3, none⟩ e).setCell ⟨R, 4, none⟩ f).ownsRow base E s (.slice A n c) n xs := by
  have ne : blk A ≠ some R := fun e => by have := (own_blk_le h e).1; omega
  have h0 := own_set h ⟨R, 0, none⟩ a ne
  have h1 := own_set h0 ⟨R, 1, none⟩ b ne
  have h2 := own_set h1 ⟨R, 2, none⟩ d ne
  have h3 := own_set h2 ⟨R, 3, none⟩ e ne
  exact own_set h3 ⟨R, 4, none⟩ f ne
set_option maxHeartbeats 3200000 in
theorem smore_any {A KA KB : Option Addr} {n c kn kc vn d : Nat} {k v : List UInt8} {del : Bool} {l : List CV} (w : World) (C : Hid (Cr w A n c l)) (D : Hid (Dt w ⟨KA, kc, k, KB, d, v, del⟩)) (KN : Hid (kn = k.length)) (VN : Hid (vn = v.length)) (hn : n ≤ 1000000) :
    Calls Tryd.prog 43 #[.agg #[.slice PA np pc, .int .i64 r0, .slice FA m fc, .slice LA ln lc, .int .i64 last, .slice A n c], .agg #[.slice KA kn kc, .slice KB vn d, .bool del]] w (MoPost w PA np pc r0 FA m fc LA ln lc last n l ⟨KA, kc, k, KB, d, v, del⟩) := by
  obtain ⟨i0, hi, hz0, hz1, hz2⟩ := info_parts info_change
  obtain ⟨p, hp⟩ : ∃ p, w.heap.size = p := ⟨_, rfl⟩
  obtain ⟨W1, hW1⟩ : ∃ W1, w.alloc (.cells #[.slice PA np pc, .int .i64 r0, .slice FA m fc, .slice LA ln lc, .int .i64 last, .slice A n c] 48) = W1 := ⟨_, rfl⟩
  have bw : Below w.heap.size w W1 := hW1 ▸ bal _ _
  have X : Hid (Bx W1 p [.slice PA np pc, .int .i64 r0, .slice FA m fc, .slice LA ln lc, .int .i64 last, .slice A n c]) := hW1 ▸ Lib.hid (Bx.put _ hp #[.slice PA np pc, .int .i64 r0, .slice FA m fc, .slice LA ln lc, .int .i64 last, .slice A n c] 48)
  have TX : Hid (Ty W1 p 48) := hW1 ▸ hp ▸ Lib.hid (Ty.new _ _ _)
  have HW1 := Lib.hid hW1
  clear hW1
  obtain ⟨q, hq⟩ : ∃ q, W1.heap.size = q := ⟨_, rfl⟩
  obtain ⟨W2, hW2⟩ : ∃ W2, W1.alloc (.cells #[.slice KA kn kc, .slice KB vn d, .bool del] 45) = W2 := ⟨_, rfl⟩
  have v2 : Below W1.heap.size W1 W2 := hW2 ▸ bal _ _
  have Z : Hid (Bx W2 q [.slice KA kn kc, .slice KB vn d, .bool del]) := hW2 ▸ Lib.hid (Bx.put _ hq #[.slice KA kn kc, .slice KB vn d, .bool del] 45)
  have TZ : Hid (Ty W2 q 45) := hW2 ▸ hq ▸ Lib.hid (Ty.new _ _ _)
  have HW2 := Lib.hid hW2
  clear hW2
  have v12 := bw.trans (v2.mono bw.size)
  obtain ⟨R, hR⟩ : ∃ R, W2.heap.size = R := ⟨_, rfl⟩
  obtain ⟨W3, hW3⟩ : ∃ W3, W2.alloc (.cells #[.slice none 0 0, .int .i64 0, .slice none 0 0, .slice none 0 0, .int .i64 0, .slice none 0 0] 48) = W3 := ⟨_, rfl⟩
  have v3 : Below W2.heap.size W2 W3 := hW3 ▸ bal _ _
  have Y : Hid (Bx W3 R [.slice none 0 0, .int .i64 0, .slice none 0 0, .slice none 0 0, .int .i64 0, .slice none 0 0]) := hW3 ▸ Lib.hid (Bx.put _ hR #[.slice none 0 0, .int .i64 0, .slice none 0 0, .slice none 0 0, .int .i64 0, .slice none 0 0] 48)
  have TY : Hid (Ty W3 R 48) := hW3 ▸ hR ▸ Lib.hid (Ty.new _ _ _)
  have HW3 := Lib.hid hW3
  clear hW3
  have bw := v12.trans (v3.mono v12.size)
  have hR' : w.heap.size ≤ R := by rw [← hR]; exact v12.size
  have eq : q = p + 1 := by rw [← hq, ← HW1.out, ← hp]; simp
  have eR : R = p + 1 + 1 := by rw [← hR, ← HW2.out, ← HW1.out, ← hp]; simp
  subst eq eR
  have X := Lib.hid ((X.out.nx v2).nx v3)
  have Z := Lib.hid (Z.out.nx v3)
  have C1 := Lib.hid (C.out.nx bw)
  have D1 := Lib.hid (D.out.nx bw)
  have x0 := X.out.at_ 0 (by simp)
  have x1 := X.out.at_ 1 (by simp)
  have x2 := X.out.at_ 2 (by simp)
  have x3 := X.out.at_ 3 (by simp)
  have x4 := X.out.at_ 4 (by simp)
  have x5 := X.out.at_ 5 (by simp)
  simp only [List.getElem?_cons_succ, List.getElem?_cons_zero] at x0 x1 x2 x3 x4 x5
  have z0 := Z.out.at_ 0 (by simp)
  have z1 := Z.out.at_ 1 (by simp)
  have z2 := Z.out.at_ 2 (by simp)
  simp only [List.getElem?_cons_succ, List.getElem?_cons_zero] at z0 z1 z2
  have y0 := Y.out.at_ 0 (by simp)
  have y1 := Y.out.at_ 1 (by simp)
  have y2 := Y.out.at_ 2 (by simp)
  have y3 := Y.out.at_ 3 (by simp)
  have y4 := Y.out.at_ 4 (by simp)
  have y5 := Y.out.at_ 5 (by simp)
  simp only [List.getElem?_cons_succ, List.getElem?_cons_zero] at y0 y1 y2 y3 y4 y5
  have f0 := Y.out.fz 0 (by simp)
  have f1 := Y.out.fz 1 (by simp)
  have f2 := Y.out.fz 2 (by simp)
  have f3 := Y.out.fz 3 (by simp)
  have f4 := Y.out.fz 4 (by simp)
  have f5 := Y.out.fz 5 (by simp)
  have xl := X.out.lt
  have zl := Z.out.lt
  have yl := Y.out.lt
  by_cases hc : 100 ≤ n
  · have e0 : decide ((n : Int) ≥ 100) = true := decide_eq_true (by omega)
    have Q := Lib.hid (res6_cells Y.out rfl (.slice none 0 0) (.int .i64 0) (.slice none 0 0) (.slice none 0 0) (.int .i64 0) (.slice none 0 0))
    have bF := res6_below (a := .slice none 0 0) (b := .int .i64 0) (c := .slice none 0 0) (d := .slice none 0 0) (e := .int .i64 0) (g := .slice none 0 0) bw hR'
    go_enter Tryd.func43, Tryd.ntmps43
    go_upto_region 1 with fail
    rw [HW1.out, HW2.out, HW3.out]
    go_wp2_with fail
    obtain ⟨W9, hW9⟩ : ∃ u, ((((((W3.setCell ⟨p + 1 + 1, 0, none⟩ (.slice none 0 0)).setCell ⟨p + 1 + 1, 1, none⟩ (.int .i64 0)).setCell ⟨p + 1 + 1, 2, none⟩ (.slice none 0 0)).setCell ⟨p + 1 + 1, 3, none⟩ (.slice none 0 0)).setCell ⟨p + 1 + 1, 4, none⟩ (.int .i64 0)).setCell ⟨p + 1 + 1, 5, none⟩ (.slice none 0 0)) = u := ⟨_, rfl⟩
    rw [hW9] at Q bF ⊢
    have q0 := Q.out.at_ 0 (by simp)
    have q1 := Q.out.at_ 1 (by simp)
    have q2 := Q.out.at_ 2 (by simp)
    have q3 := Q.out.at_ 3 (by simp)
    have q4 := Q.out.at_ 4 (by simp)
    have q5 := Q.out.at_ 5 (by simp)
    simp only [List.getElem?_cons_succ, List.getElem?_cons_zero] at q0 q1 q2 q3 q4 q5
    refine bodyPost_ret (v := .tuple #[.agg #[.slice none 0 0, .int .i64 0, .slice none 0 0, .slice none 0 0, .int .i64 0, .slice none 0 0], .int .i64 5]) (by simp [results, Tryd.results43, go_sem, q0, q1, q2, q3, q4, q5]) rfl ?_
    exact ⟨.inl ⟨hc, rfl⟩, bF⟩
  · have e0 : decide ((n : Int) ≥ 100) = false := decide_eq_false (by omega)
    have vd : Below W3.heap.size W3 W3.drew := (Below.refl _ _).drew
    have CL : Hid (∀ U, Below W3.heap.size W3 U → Calls Tryd.prog 60 #[.slice A n c] U (fun e w' => ∃ A' c', e = .returned (.slice A' n c') ∧ Hid (w'.ownsRow W3.heap.size 45 3 (.slice A' n c') n (cvs l)) ∧ Below U.heap.size U w' ∧ Below W3.heap.size W3 w')) := Lib.hid fun U hU =>
      (cclone_any U (Lib.hid (C1.out.nx hU).row) (cvs_one _) (by omega)).mono fun e w' ⟨A', c', he, ho, hb⟩ => ⟨A', c', he, Lib.hid (own_base ho.out hU.size), hb, hU.trans (hb.mono hU.size)⟩
    have KK : Hid (∀ U, Below W3.heap.size W3 U → U.cell? ⟨p, 5, none⟩ = some (.slice A n c) ∧ U.cell? ⟨p + 1, 0, none⟩ = some (.slice KA kn kc) ∧ U.cell? ⟨p + 1, 1, none⟩ = some (.slice KB vn d) ∧ U.cell? ⟨p + 1, 2, none⟩ = some (.bool del)) := Lib.hid fun U hU => by
      have X := Lib.hid (X.out.nx hU)
      have Z := Lib.hid (Z.out.nx hU)
      have x0 := X.out.at_ 0 (by simp)
      have x1 := X.out.at_ 1 (by simp)
      have x2 := X.out.at_ 2 (by simp)
      have x3 := X.out.at_ 3 (by simp)
      have x4 := X.out.at_ 4 (by simp)
      have x5 := X.out.at_ 5 (by simp)
      simp only [List.getElem?_cons_succ, List.getElem?_cons_zero] at x0 x1 x2 x3 x4 x5
      have z0 := Z.out.at_ 0 (by simp)
      have z1 := Z.out.at_ 1 (by simp)
      have z2 := Z.out.at_ 2 (by simp)
      simp only [List.getElem?_cons_succ, List.getElem?_cons_zero] at z0 z1 z2
      exact ⟨x5, z0, z1, z2⟩
    go_enter Tryd.func43, Tryd.ntmps43
    go_upto_region 1 with fail
    rw [HW1.out, HW2.out, HW3.out]
    go_wp2_with fail
    have x5d := (KK.out _ vd).1
    have one63 : 1 ≤ 9223372036854775807 := by omega
    have vd2 : Below W3.heap.size W3 (W3.alloc (.cells #[.slice KA kn kc, .slice KB vn d, .bool del] 45)).drew := (bal _ _).drew
    have vd3 : Below W3.heap.size W3 (W3.drew.alloc (.cells #[.slice KA kn kc, .slice KB vn d, .bool del] 45)) := bel_alloc vd (Nat.le_refl _) _
    have L2 := (rd_lit W3 rfl 45 3 #[.slice KA kn kc, .slice KB vn d, .bool del] 1 one63 rfl).drew
    have L3 := (rd_lit W3.drew rfl 45 3 #[.slice KA kn kc, .slice KB vn d, .bool del] 1 one63 rfl)
    have VD2 := Lib.hid vd2
    have VD3 := Lib.hid vd3
    have VD := Lib.hid vd
    have L2 := Lib.hid L2
    have L3 := Lib.hid L3
    clear vd vd2 vd3
    go_region_law
      (first
        | (go_simp
           go_at_call 60
           refine (CL.out _ ?_).mono ?_
           · first | exact VD.out | exact VD2.out | exact VD3.out
           rintro e w6 ⟨A6, c6, rfl, own6, b6, v6⟩
           obtain ⟨x56, z06, z16, z26⟩ := KK.out _ v6
           have own6 := Lib.hid own6
           have B6 := Lib.hid b6
           have V6 := Lib.hid v6
           have w6l := v6.size
           clear b6 v6
           dsimp only)
        | (refine step_app (news := (#[.slice KA kn kc, .slice KB vn d, .bool del] : Array Value).toList) _ (by rfl) (.tmp 13) (.tmp 15) 36 (by rfl) W3.heap.size 45 i0 (.agg #[.slice none 0 0, .slice none 0 0, .bool false]) 3 56 Tryd.underlying36 hi hz0 hz1 hz2 rfl (by omega) (by rfl) (xs := cvs l) ?_ (by rfl) ?_ (Wl.one3 _ _ _ rfl rfl rfl) (by omega) (by omega) ?_ ?_
           · first | exact own6.out.out | exact own_below own6.out.out (bal _ _)
           · first | exact rd_lit _ rfl _ 3 #[.slice KA kn kc, .slice KB vn d, .bool del] 1 one63 rfl | exact Rd.below L2.out B6.out | exact Rd.below L3.out B6.out
           · first | exact V6.out.size | exact (bel_alloc V6.out (Nat.le_refl _) _).size
           intro A8 c8 W8 own8 g8
           have v8 : Below W3.heap.size W3 W8 := by first | exact g8.low V6.out V6.out.size (fun g e => (own_blk_le own6.out.out e).1) | exact g8.low (bel_alloc V6.out (Nat.le_refl _) _) (bel_alloc V6.out (Nat.le_refl _) _).size (fun g e => (own_blk_le own6.out.out e).1)
           have x58 := (KK.out _ v8).1
           have f58 : W8.frozen? ⟨p, 5, none⟩ = false := (X.out.nx v8).fz 5 (by simp)
           have own8 := Lib.hid own8
           have v8 := Lib.hid v8
           clear g8 own6 B6 V6))
    all_goals
      obtain ⟨W9, hW9⟩ : ∃ u, W8.setCell ⟨p, 5, none⟩ (.slice A8 (n + 1) c8) = u := ⟨_, rfl⟩
      rw [hW9]
      have X9 : Hid (Bx W9 p [.slice PA np pc, .int .i64 r0, .slice FA m fc, .slice LA ln lc, .int .i64 last, .slice A8 (n + 1) c8]) := hW9 ▸ Lib.hid ((X.out.nx v8.out).set (j := 5) (by simp) (.slice A8 (n + 1) c8))
      have Y9 : Hid (Bx W9 (p + 1 + 1) _) := hW9 ▸ Lib.hid ((Y.out.nx v8.out).other (q := p) (by omega) 5 _)
      have bw9 : Below w.heap.size w W9 := hW9 ▸ (bw.trans (v8.out.mono bw.size)).setCell (p := ⟨p, 5, none⟩) (by show w.heap.size ≤ p; omega) _
      have own9 : Hid (W9.ownsRow W3.heap.size 45 3 (.slice A8 (n + 1) c8) (n + 1) (cvs l ++ [.slice KA kn kc, .slice KB vn d, .bool del])) := hW9 ▸ Lib.hid (own_set own8.out ⟨p, 5, none⟩ _ fun e => by have := (own_blk_le own8.out e).1; simp only at this; omega)
      clear hW9 v8 own8 x0 x1 x2 x3 x4 x5 y0 y1 y2 y3 y4 y5 f0 f1 f2 f3 f4 f5 x56 z06 z16 z26 x5d x58 f58
      have x0 := X9.out.at_ 0 (by simp)
      have x1 := X9.out.at_ 1 (by simp)
      have x2 := X9.out.at_ 2 (by simp)
      have x3 := X9.out.at_ 3 (by simp)
      have x4 := X9.out.at_ 4 (by simp)
      have x5 := X9.out.at_ 5 (by simp)
      simp only [List.getElem?_cons_succ, List.getElem?_cons_zero] at x0 x1 x2 x3 x4 x5
      have y0 := Y9.out.at_ 0 (by simp)
      have y1 := Y9.out.at_ 1 (by simp)
      have y2 := Y9.out.at_ 2 (by simp)
      have y3 := Y9.out.at_ 3 (by simp)
      have y4 := Y9.out.at_ 4 (by simp)
      have y5 := Y9.out.at_ 5 (by simp)
      simp only [List.getElem?_cons_succ, List.getElem?_cons_zero] at y0 y1 y2 y3 y4 y5
      have f0 := Y9.out.fz 0 (by simp)
      have f1 := Y9.out.fz 1 (by simp)
      have f2 := Y9.out.fz 2 (by simp)
      have f3 := Y9.out.fz 3 (by simp)
      have f4 := Y9.out.fz 4 (by simp)
      have f5 := Y9.out.fz 5 (by simp)
      have Q := Lib.hid (res6_cells Y9.out rfl (.slice PA np pc) (.int .i64 r0) (.slice FA m fc) (.slice LA ln lc) (.int .i64 last) (.slice A8 (n + 1) c8))
      have bF := res6_below (a := .slice PA np pc) (b := .int .i64 r0) (c := .slice FA m fc) (d := .slice LA ln lc) (e := .int .i64 last) (g := .slice A8 (n + 1) c8) bw9 hR'
      have OF := Lib.hid (own_res6 (R := p + 1 + 1) (a := .slice PA np pc) (b := .int .i64 r0) (d := .slice FA m fc) (e := .slice LA ln lc) (f := .int .i64 last) (g := .slice A8 (n + 1) c8) own9.out (by omega))
      go_wp2_with fail
      obtain ⟨W10, hW10⟩ : ∃ u, ((((((W9.setCell ⟨p + 1 + 1, 0, none⟩ (.slice PA np pc)).setCell ⟨p + 1 + 1, 1, none⟩ (.int .i64 r0)).setCell ⟨p + 1 + 1, 2, none⟩ (.slice FA m fc)).setCell ⟨p + 1 + 1, 3, none⟩ (.slice LA ln lc)).setCell ⟨p + 1 + 1, 4, none⟩ (.int .i64 last)).setCell ⟨p + 1 + 1, 5, none⟩ (.slice A8 (n + 1) c8)) = u := ⟨_, rfl⟩
      rw [hW10] at Q bF OF ⊢
      have q0 := Q.out.at_ 0 (by simp)
      have q1 := Q.out.at_ 1 (by simp)
      have q2 := Q.out.at_ 2 (by simp)
      have q3 := Q.out.at_ 3 (by simp)
      have q4 := Q.out.at_ 4 (by simp)
      have q5 := Q.out.at_ 5 (by simp)
      simp only [List.getElem?_cons_succ, List.getElem?_cons_zero] at q0 q1 q2 q3 q4 q5
      refine bodyPost_ret (v := .tuple #[.agg #[.slice PA np pc, .int .i64 r0, .slice FA m fc, .slice LA ln lc, .int .i64 last, .slice A8 (n + 1) c8], .int .i64 0]) (by simp [results, Tryd.results43, go_sem, q0, q1, q2, q3, q4, q5]) rfl ?_
      exact ⟨.inr ⟨by omega, A8, c8, rfl, Lib.hid (by
        rw [cvs_app, show cvs [(⟨KA, kc, k, KB, d, v, del⟩ : CV)] = [.slice KA kn kc, .slice KB vn d, .bool del] by simp [cvs, CV.cs, KN.out, VN.out]]
        exact own_base OF.out bw.size)⟩, bF⟩
end
end Go.Proofs.YtpmkohnljngbhaaDoor.Sr
