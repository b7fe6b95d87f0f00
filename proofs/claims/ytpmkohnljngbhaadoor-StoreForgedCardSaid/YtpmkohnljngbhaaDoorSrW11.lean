/- Walks: more, Put. -/
import Derived.Test.YtpmkohnljngbhaaDoorSrW7
import Derived.Deep.RegionLaw
set_option linter.all false
namespace Go.Proofs.YtpmkohnljngbhaaDoor.Sr
set_option linter.unusedVariables false
set_option linter.unusedSimpArgs false
set_option maxRecDepth 1000000
open Go.RowKit Wl Pg
section
variable {PA FA LA : Option Addr} {np pc m fc ln lc : Nat} {r0 last : Int} {f : FV} {log : List UInt8}
/-- What more answers: another piece of work, with a change more. -/
def MoPost (w : World) (PA : Option Addr) (np pc : Nat) (r0 : Int) (FA : Option Addr) (m fc : Nat) (LA : Option Addr) (ln lc : Nat) (last : Int) (n : Nat) (l : List CV) (x : CV) (e : Ending) (w' : World) : Prop :=
  ((100 ≤ n ∧ e = .returned (.tuple #[.agg #[.slice none 0 0, .int .i64 0, .slice none 0 0, .slice none 0 0, .int .i64 0, .slice none 0 0], .int .i64 5])) ∨ (n < 100 ∧ ∃ (A : Option Addr) (c : Nat), e = .returned (.tuple #[.agg #[.slice PA np pc, .int .i64 r0, .slice FA m fc, .slice LA ln lc, .int .i64 last, .slice A (n + 1) c], .int .i64 0]) ∧ Hid (w'.ownsRow w.heap.size 45 3 (.slice A (n + 1) c) (n + 1) (cvs (l ++ [x]))))) ∧ Below w.heap.size w w'
theorem own_res6 {W : World} {base E s n R : Nat} {A : Option Addr} {c : Nat} {xs : List Value} {a b d e f g : Value} (h : W.ownsRow base E s (.slice A n c) n xs) (hR : R < base) :
    ((((((W.setCell ⟨R, 0, none⟩ a).setCell ⟨R, 1, none⟩ b).setCell ⟨R, 2, none⟩ d).setCell ⟨R, 3, none⟩ e).setCell ⟨R, 4, none⟩ f).setCell ⟨R, 5, none⟩ g).ownsRow base E s (.slice A n c) n xs := by
  have ne : blk A ≠ some R := fun e => by have := (own_blk_le h e).1; omega
  have h0 := own_set h ⟨R, 0, none⟩ a ne
  have h1 := own_set h0 ⟨R, 1, none⟩ b ne
  have h2 := own_set h1 ⟨R, 2, none⟩ d ne
  have h3 := own_set h2 ⟨R, 3, none⟩ e ne
  have h4 := own_set h3 ⟨R, 4, none⟩ f ne
  exact own_set h4 ⟨R, 5, none⟩ g ne
theorem own_res5 {W : World} {base E s n R : Nat} {A : Option Addr} {c : Nat} {xs : List Value} {a b d e f : Value} (h : W.ownsRow base E s (.slice A n c) n xs) (hR : R < base) :
    (((((W.setCell ⟨R, 0, none⟩ a).setCell ⟨R, 1, none⟩ b).setCell ⟨R, 2, none⟩ d).setCell ⟨R, 3, none⟩ e).setCell ⟨R, 4, none⟩ f).ownsRow base E s (.slice A n c) n xs := by
  have ne : blk A ≠ some R := fun e => by have := (own_blk_le h e).1; omega
  have h0 := own_set h ⟨R, 0, none⟩ a ne
  have h1 := own_set h0 ⟨R, 1, none⟩ b ne
  have h2 := own_set h1 ⟨R, 2, none⟩ d ne
  have h3 := own_set h2 ⟨R, 3, none⟩ e ne
  exact own_set h3 ⟨R, 4, none⟩ f ne
set_option maxHeartbeats 3200000 in
theorem smore_any {A KA KB : Option Addr} {n c kn kc vn d : Nat} {k v : List UInt8} {del : Bool} {l : List CV} (w : World) (C : Hid (Cr w A n c l)) (D : Hid (Dt w ⟨KA, kc, k, KB, d, v, del⟩)) (KN : Hid (kn = k.length)) (VN : Hid (vn = v.length)) (hn : n ≤ 1000000) :
    Calls Tryd.prog 43 #[.agg #[.slice PA np pc, .int .i64 r0, .slice FA m fc, .slice LA ln lc, .int .i64 last, .slice A n c], .agg #[.slice KA kn kc, .slice KB vn d, .bool del]] w (MoPost w PA np pc r0 FA m fc LA ln lc last n l ⟨KA, kc, k, KB, d, v, del⟩) := by
  obtain ⟨i0, hi, hz0, hz1, hz2⟩ := info_parts info_change
  obtain ⟨p, hp⟩ : ∃ p, w.heap.size = p := ⟨_, rfl⟩
  obtain ⟨W1, hW1⟩ : ∃ W1, w.alloc (.cells #[.slice PA np pc, .int .i64 r0, .slice FA m fc, .slice LA ln lc, .int .i64 last, .slice A n c] 48) = W1 := ⟨_, rfl⟩
  have bw : Below w.heap.size w W1 := hW1 ▸ bal _ _
  have X : Hid (Bx W1 p [.slice PA np pc, .int .i64 r0, .slice FA m fc, .slice LA ln lc, .int .i64 last, .slice A n c]) := hW1 ▸ Lib.hid (Bx.put _ hp #[.slice PA np pc, .int .i64 r0, .slice FA m fc, .slice LA ln lc, .int .i64 last, .slice A n c] 48)
  have TX : Hid (Ty W1 p 48) := hW1 ▸ hp ▸ Lib.hid (Ty.new _ _ _)
  have HW1 := Lib.hid hW1
  clear hW1
  obtain ⟨q, hq⟩ : ∃ q, W1.heap.size = q := ⟨_, rfl⟩
  obtain ⟨W2, hW2⟩ : ∃ W2, W1.alloc (.cells #[.slice KA kn kc, .slice KB vn d, .bool del] 45) = W2 := ⟨_, rfl⟩
  have v2 : Below W1.heap.size W1 W2 := hW2 ▸ bal _ _
  have Z : Hid (Bx W2 q [.slice KA kn kc, .slice KB vn d, .bool del]) := hW2 ▸ Lib.hid (Bx.put _ hq #[.slice KA kn kc, .slice KB vn d, .bool del] 45)
  have TZ : Hid (Ty W2 q 45) := hW2 ▸ hq ▸ Lib.hid (Ty.new _ _ _)
  have HW2 := Lib.hid hW2
  clear hW2
  have v12 := bw.trans (v2.mono bw.size)
  obtain ⟨R, hR⟩ : ∃ R, W2.heap.size = R := ⟨_, rfl⟩
  obtain ⟨W3, hW3⟩ : ∃ W3, W2.alloc (.cells #[.slice none 0 0, .int .i64 0, .slice none 0 0, .slice none 0 0, .int .i64 0, .slice none 0 0] 48) = W3 := ⟨_, rfl⟩
  have v3 : Below W2.heap.size W2 W3 := hW3 ▸ bal _ _
  have Y : Hid (Bx W3 R [.slice none 0 0, .int .i64 0, .slice none 0 0, .slice none 0 0, .int .i64 0, .slice none 0 0]) := hW3 ▸ Lib.hid (Bx.put _ hR #[.slice none 0 0, .int .i64 0, .slice none 0 0, .slice none 0 0, .int .i64 0, .slice none 0 0] 48)
  have TY : Hid (Ty W3 R 48) := hW3 ▸ hR ▸ Lib.hid (Ty.new _ _ _)
  have HW3 := Lib.hid hW3
  clear hW3
  have bw := v12.trans (v3.mono v12.size)
  have hR' : w.heap.size ≤ R := by rw [← hR]; exact v12.size
  have eq : q = p + 1 := by rw [← hq, ← HW1.out, ← hp]; simp
  have eR : R = p + 1 + 1 := by rw [← hR, ← HW2.out, ← HW1.out, ← hp]; simp
  subst eq eR
  have X := Lib.hid ((X.out.nx v2).nx v3)
  have Z := Lib.hid (Z.out.nx v3)
  have C1 := Lib.hid (C.out.nx bw)
  have D1 := Lib.hid (D.out.nx bw)
  have x0 := X.out.at_ 0 (by simp)
  have x1 := X.out.at_ 1 (by simp)
  have x2 := X.out.at_ 2 (by simp)
  have x3 := X.out.at_ 3 (by simp)
  have x4 := X.out.at_ 4 (by simp)
  have x5 := X.out.at_ 5 (by simp)
  simp only [List.getElem?_cons_succ, List.getElem?_cons_zero] at x0 x1 x2 x3 x4 x5
  have z0 := Z.out.at_ 0 (by simp)
  have z1 := Z.out.at_ 1 (by simp)
  have z2 := Z.out.at_ 2 (by simp)
  simp only [List.getElem?_cons_succ, List.getElem?_cons_zero] at z0 z1 z2
  have y0 := Y.out.at_ 0 (by simp)
  have y1 := Y.out.at_ 1 (by simp)
  have y2 := Y.out.at_ 2 (by simp)
  have y3 := Y.out.at_ 3 (by simp)
  have y4 := Y.out.at_ 4 (by simp)
  have y5 := Y.out.at_ 5 (by simp)
  simp only [List.getElem?_cons_succ, List.getElem?_cons_zero] at y0 y1 y2 y3 y4 y5
  have f0 := Y.out.fz 0 (by simp)
  have f1 := Y.out.fz 1 (by simp)
  have f2 := Y.out.fz 2 (by simp)
  have f3 := Y.out.fz 3 (by simp)
  have f4 := Y.out.fz 4 (by simp)
  have f5 := Y.out.fz 5 (by simp)
  have xl := X.out.lt
  have zl := Z.out.lt
  have yl := Y.out.lt
  by_cases hc : 100 ≤ n
  · have e0 : decide ((n : Int) ≥ 100) = true := decide_eq_true (by omega)
    have Q := Lib.hid (res6_cells Y.out rfl (.slice none 0 0) (.int .i64 0) (.slice none 0 0) (.slice none 0 0) (.int .i64 0) (.slice none 0 0))
    have bF := res6_below (a := .slice none 0 0) (b := .int .i64 0) (c := .slice none 0 0) (d := .slice none 0 0) (e := .int .i64 0) (g := .slice none 0 0) bw hR'
    go_enter Tryd.func43, Tryd.ntmps43
    go_upto_region 1 with fail
    rw [HW1.out, HW2.out, HW3.out]
    go_wp2_with fail
    obtain ⟨W9, hW9⟩ : ∃ u, ((((((W3.setCell ⟨p + 1 + 1, 0, none⟩ (.slice none 0 0)).setCell ⟨p + 1 + 1, 1, none⟩ (.int .i64 0)).setCell ⟨p + 1 + 1, 2, none⟩ (.slice none 0 0)).setCell ⟨p + 1 + 1, 3, none⟩ (.slice none 0 0)).setCell ⟨p + 1 + 1, 4, none⟩ (.int .i64 0)).setCell ⟨p + 1 + 1, 5, none⟩ (.slice none 0 0)) = u := ⟨_, rfl⟩
    rw [hW9] at Q bF ⊢
    have q0 := Q.out.at_ 0 (by simp)
    have q1 := Q.out.at_ 1 (by simp)
    have q2 := Q.out.at_ 2 (by simp)
    have q3 := Q.out.at_ 3 (by simp)
    have q4 := Q.out.at_ 4 (by simp)
    have q5 := Q.out.at_ 5 (by simp)
    simp only [List.getElem?_cons_succ, List.getElem?_cons_zero] at q0 q1 q2 q3 q4 q5
    refine bodyPost_ret (v := .tuple #[.agg #[.slice none 0 0, .int .i64 0, .slice none 0 0, .slice none 0 0, .int .i64 0, .slice none 0 0], .int .i64 5]) (by simp [results, Tryd.results43, go_sem, q0, q1, q2, q3, q4, q5]) rfl ?_
    exact ⟨.inl ⟨hc, rfl⟩, bF⟩
  · have e0 : decide ((n : Int) ≥ 100) = false := decide_eq_false (by omega)
    have vd : Below W3.heap.size W3 W3.drew := (Below.refl _ _).drew
    have CL : Hid (∀ U, Below W3.heap.size W3 U → Calls Tryd.prog 60 #[.slice A n c] U (fun e w' => ∃ A' c', e = .returned (.slice A' n c') ∧ Hid (w'.ownsRow W3.heap.size 45 3 (.slice A' n c') n (cvs l)) ∧ Below U.heap.size U w' ∧ Below W3.heap.size W3 w')) := Lib.hid fun U hU =>
      (cclone_any U (Lib.hid (C1.out.nx hU).row) (cvs_one _) (by omega)).mono fun e w' ⟨A', c', he, ho, hb⟩ => ⟨A', c', he, Lib.hid (own_base ho.out hU.size), hb, hU.trans (hb.mono hU.size)⟩
    have KK : Hid (∀ U, Below W3.heap.size W3 U → U.cell? ⟨p, 5, none⟩ = some (.slice A n c) ∧ U.cell? ⟨p + 1, 0, none⟩ = some (.slice KA kn kc) ∧ U.cell? ⟨p + 1, 1, none⟩ = some (.slice KB vn d) ∧ U.cell? ⟨p + 1, 2, none⟩ = some (.bool del)) := Lib.hid fun U hU => by
      have X := Lib.hid (X.out.nx hU)
      have Z := Lib.hid (Z.out.nx hU)
      have x0 := X.out.at_ 0 (by simp)
      have x1 := X.out.at_ 1 (by simp)
      have x2 := X.out.at_ 2 (by simp)
      have x3 := X.out.at_ 3 (by simp)
      have x4 := X.out.at_ 4 (by simp)
      have x5 := X.out.at_ 5 (by simp)
      simp only [List.getElem?_cons_succ, List.getElem?_cons_zero] at x0 x1 x2 x3 x4 x5
      have z0 := Z.out.at_ 0 (by simp)
      have z1 := Z.out.at_ 1 (by simp)
      have z2 := Z.out.at_ 2 (by simp)
      simp only [List.getElem?_cons_succ, List.getElem?_cons_zero] at z0 z1 z2
      exact ⟨x5, z0, z1, z2⟩
    go_enter Tryd.func43, Tryd.ntmps43
    go_upto_region 1 with fail
    rw [HW1.out, HW2.out, HW3.out]
    go_wp2_with fail
    have x5d := (KK.out _ vd).1
    have one63 : 1 ≤ 9223372036854775807 := by omega
    have vd2 : Below W3.heap.size W3 (W3.alloc (.cells #[.slice KA kn kc, .slice KB vn d, .bool del] 45)).drew := (bal _ _).drew
    have vd3 : Below W3.heap.size W3 (W3.drew.alloc (.cells #[.slice KA kn kc, .slice KB vn d, .bool del] 45)) := bel_alloc vd (Nat.le_refl _) _
    have L2 := (rd_lit W3 rfl 45 3 #[.slice KA kn kc, .slice KB vn d, .bool del] 1 one63 rfl).drew
    have L3 := (rd_lit W3.drew rfl 45 3 #[.slice KA kn kc, .slice KB vn d, .bool del] 1 one63 rfl)
    have VD2 := Lib.hid vd2
    have VD3 := Lib.hid vd3
    have VD := Lib.hid vd
    have L2 := Lib.hid L2
    have L3 := Lib.hid L3
    clear vd vd2 vd3
    go_region_law
      (first
        | (go_simp
           go_at_call 60
           refine (CL.out _ ?_).mono ?_
           · first | exact VD.out | exact VD2.out | exact VD3.out
           rintro e w6 ⟨A6, c6, rfl, own6, b6, v6⟩
           obtain ⟨x56, z06, z16, z26⟩ := KK.out _ v6
           have own6 := Lib.hid own6
           have B6 := Lib.hid b6
           have V6 := Lib.hid v6
           have w6l := v6.size
           clear b6 v6
           dsimp only)
        | (refine step_app (news := (#[.slice KA kn kc, .slice KB vn d, .bool del] : Array Value).toList) _ (by rfl) (.tmp 13) (.tmp 15) 36 (by rfl) W3.heap.size 45 i0 (.agg #[.slice none 0 0, .slice none 0 0, .bool false]) 3 56 Tryd.underlying36 hi hz0 hz1 hz2 rfl (by omega) (by rfl) (xs := cvs l) ?_ (by rfl) ?_ (Wl.one3 _ _ _ rfl rfl rfl) (by omega) (by omega) ?_ ?_
           · first | exact own6.out.out | exact own_below own6.out.out (bal _ _)
           · first | exact rd_lit _ rfl _ 3 #[.slice KA kn kc, .slice KB vn d, .bool del] 1 one63 rfl | exact Rd.below L2.out B6.out | exact Rd.below L3.out B6.out
           · first | exact V6.out.size | exact (bel_alloc V6.out (Nat.le_refl _) _).size
           intro A8 c8 W8 own8 g8
           have v8 : Below W3.heap.size W3 W8 := by first | exact g8.low V6.out V6.out.size (fun g e => (own_blk_le own6.out.out e).1) | exact g8.low (bel_alloc V6.out (Nat.le_refl _) _) (bel_alloc V6.out (Nat.le_refl _) _).size (fun g e => (own_blk_le own6.out.out e).1)
           have x58 := (KK.out _ v8).1
           have f58 : W8.frozen? ⟨p, 5, none⟩ = false := (X.out.nx v8).fz 5 (by simp)
           have own8 := Lib.hid own8
           have v8 := Lib.hid v8
           clear g8 own6 B6 V6))
    all_goals
      obtain ⟨W9, hW9⟩ : ∃ u, W8.setCell ⟨p, 5, none⟩ (.slice A8 (n + 1) c8) = u := ⟨_, rfl⟩
      rw [hW9]
      have X9 : Hid (Bx W9 p [.slice PA np pc, .int .i64 r0, .slice FA m fc, .slice LA ln lc, .int .i64 last, .slice A8 (n + 1) c8]) := hW9 ▸ Lib.hid ((X.out.nx v8.out).set (j := 5) (by simp) (.slice A8 (n + 1) c8))
      have Y9 : Hid (Bx W9 (p + 1 + 1) _) := hW9 ▸ Lib.hid ((Y.out.nx v8.out).other (q := p) (by omega) 5 _)
      have bw9 : Below w.heap.size w W9 := hW9 ▸ (bw.trans (v8.out.mono bw.size)).setCell (p := ⟨p, 5, none⟩) (by show w.heap.size ≤ p; omega) _
      have own9 : Hid (W9.ownsRow W3.heap.size 45 3 (.slice A8 (n + 1) c8) (n + 1) (cvs l ++ [.slice KA kn kc, .slice KB vn d, .bool del])) := hW9 ▸ Lib.hid (own_set own8.out ⟨p, 5, none⟩ _ fun e => by have := (own_blk_le own8.out e).1; simp only at this; omega)
      clear hW9 v8 own8 x0 x1 x2 x3 x4 x5 y0 y1 y2 y3 y4 y5 f0 f1 f2 f3 f4 f5 x56 z06 z16 z26 x5d x58 f58
      have x0 := X9.out.at_ 0 (by simp)
      have x1 := X9.out.at_ 1 (by simp)
      have x2 := X9.out.at_ 2 (by simp)
      have x3 := X9.out.at_ 3 (by simp)
      have x4 := X9.out.at_ 4 (by simp)
      have x5 := X9.out.at_ 5 (by simp)
      simp only [List.getElem?_cons_succ, List.getElem?_cons_zero] at x0 x1 x2 x3 x4 x5
      have y0 := Y9.out.at_ 0 (by simp)
      have y1 := Y9.out.at_ 1 (by simp)
      have y2 := Y9.out.at_ 2 (by simp)
      have y3 := Y9.out.at_ 3 (by simp)
      have y4 := Y9.out.at_ 4 (by simp)
      have y5 := Y9.out.at_ 5 (by simp)
      simp only [List.getElem?_cons_succ, List.getElem?_cons_zero] at y0 y1 y2 y3 y4 y5
      have f0 := Y9.out.fz 0 (by simp)
      have f1 := Y9.out.fz 1 (by simp)
      have f2 := Y9.out.fz 2 (by simp)
      have f3 := Y9.out.fz 3 (by simp)
      have f4 := Y9.out.fz 4 (by simp)
      have f5 := Y9.out.fz 5 (by simp)
      have Q := Lib.hid (res6_cells Y9.out rfl (.slice PA np pc) (.int .i64 r0) (.slice FA m fc) (.slice LA ln lc) (.int .i64 last) (.slice A8 (n + 1) c8))
      have bF := res6_below (a := .slice PA np pc) (b := .int .i64 r0) (c := .slice FA m fc) (d := .slice LA ln lc) (e := .int .i64 last) (g := .slice A8 (n + 1) c8) bw9 hR'
      have OF := Lib.hid (own_res6 (R := p + 1 + 1) (a := .slice PA np pc) (b := .int .i64 r0) (d := .slice FA m fc) (e := .slice LA ln lc) (f := .int .i64 last) (g := .slice A8 (n + 1) c8) own9.out (by omega))
      go_wp2_with fail
      obtain ⟨W10, hW10⟩ : ∃ u, ((((((W9.setCell ⟨p + 1 + 1, 0, none⟩ (.slice PA np pc)).setCell ⟨p + 1 + 1, 1, none⟩ (.int .i64 r0)).setCell ⟨p + 1 + 1, 2, none⟩ (.slice FA m fc)).setCell ⟨p + 1 + 1, 3, none⟩ (.slice LA ln lc)).setCell ⟨p + 1 + 1, 4, none⟩ (.int .i64 last)).setCell ⟨p + 1 + 1, 5, none⟩ (.slice A8 (n + 1) c8)) = u := ⟨_, rfl⟩
      rw [hW10] at Q bF OF ⊢
      have q0 := Q.out.at_ 0 (by simp)
      have q1 := Q.out.at_ 1 (by simp)
      have q2 := Q.out.at_ 2 (by simp)
      have q3 := Q.out.at_ 3 (by simp)
      have q4 := Q.out.at_ 4 (by simp)
      have q5 := Q.out.at_ 5 (by simp)
      simp only [List.getElem?_cons_succ, List.getElem?_cons_zero] at q0 q1 q2 q3 q4 q5
      refine bodyPost_ret (v := .tuple #[.agg #[.slice PA np pc, .int .i64 r0, .slice FA m fc, .slice LA ln lc, .int .i64 last, .slice A8 (n + 1) c8], .int .i64 0]) (by simp [results, Tryd.results43, go_sem, q0, q1, q2, q3, q4, q5]) rfl ?_
      exact ⟨.inr ⟨by omega, A8, c8, rfl, Lib.hid (by
        rw [cvs_app, show cvs [(⟨KA, kc, k, KB, d, v, del⟩ : CV)] = [.slice KA kn kc, .slice KB vn d, .bool del] by simp [cvs, CV.cs, KN.out, VN.out]]
        exact own_base OF.out bw.size)⟩, bF⟩
end
end Go.Proofs.YtpmkohnljngbhaaDoor.Sr
/- Walks: Put. -/
namespace Go.Proofs.YtpmkohnljngbhaaDoor.Sr
set_option maxRecDepth 1000000
open Go.RowKit Wl Pg
section
variable {PA FA LA : Option Addr} {np pc m fc ln lc : Nat} {r0 last : Int} {f : FV} {log : List UInt8}
/-- What Put and Delete answer where they put something. -/
def PtPost (w : World) (PA : Option Addr) (np pc : Nat) (r0 : Int) (FA : Option Addr) (m fc : Nat) (LA : Option Addr) (ln lc : Nat) (last : Int) (n : Nat) (l : List CV) (ch : Ch) (e : Ending) (w' : World) : Prop :=
  ((100 ≤ n ∧ e = .returned (.tuple #[.agg #[.slice none 0 0, .int .i64 0, .slice none 0 0, .slice none 0 0, .int .i64 0, .slice none 0 0], .int .i64 5])) ∨ (n < 100 ∧ ∃ (A : Option Addr) (c : Nat) (x : CV), e = .returned (.tuple #[.agg #[.slice PA np pc, .int .i64 r0, .slice FA m fc, .slice LA ln lc, .int .i64 last, .slice A (n + 1) c], .int .i64 0]) ∧ Hid (x.ch = ch) ∧ Hid (Co w' w.heap.size A (n + 1) c (l ++ [x])) ∧ Hid (∀ g, blk x.A = some g ∨ blk x.B = some g → w.heap.size ≤ g))) ∧ Below w.heap.size w w'
theorem sPut_arg {A K VA : Option Addr} {n c kn kc vn vc : Nat} (w : World) (h : Hid ((keyN kn && valN vn) = false)) :
    Calls Tryd.prog 19 #[.agg #[.slice PA np pc, .int .i64 r0, .slice FA m fc, .slice LA ln lc, .int .i64 last, .slice A n c], .slice K kn kc, .slice VA vn vc] w fun e w' => e = .returned (.tuple #[.agg #[.slice none 0 0, .int .i64 0, .slice none 0 0, .slice none 0 0, .int .i64 0, .slice none 0 0], .int .i64 1]) ∧ Below w.heap.size w w' := by
  obtain ⟨p, hp⟩ : ∃ p, w.heap.size = p := ⟨_, rfl⟩
  obtain ⟨W1, hW1⟩ : ∃ W1, w.alloc (.cells #[.slice PA np pc, .int .i64 r0, .slice FA m fc, .slice LA ln lc, .int .i64 last, .slice A n c] 48) = W1 := ⟨_, rfl⟩
  have bw : Below w.heap.size w W1 := hW1 ▸ bal _ _
  have X : Hid (Bx W1 p [.slice PA np pc, .int .i64 r0, .slice FA m fc, .slice LA ln lc, .int .i64 last, .slice A n c]) := hW1 ▸ Lib.hid (Bx.put _ hp #[.slice PA np pc, .int .i64 r0, .slice FA m fc, .slice LA ln lc, .int .i64 last, .slice A n c] 48)
  have TX : Hid (Ty W1 p 48) := hW1 ▸ hp ▸ Lib.hid (Ty.new _ _ _)
  have HW1 := Lib.hid hW1
  clear hW1
  obtain ⟨R, hR⟩ : ∃ R, W1.heap.size = R := ⟨_, rfl⟩
  obtain ⟨W2, hW2⟩ : ∃ W2, W1.alloc (.cells #[.slice none 0 0, .int .i64 0, .slice none 0 0, .slice none 0 0, .int .i64 0, .slice none 0 0] 48) = W2 := ⟨_, rfl⟩
  have v2 : Below W1.heap.size W1 W2 := hW2 ▸ bal _ _
  have Y : Hid (Bx W2 R [.slice none 0 0, .int .i64 0, .slice none 0 0, .slice none 0 0, .int .i64 0, .slice none 0 0]) := hW2 ▸ Lib.hid (Bx.put _ hR #[.slice none 0 0, .int .i64 0, .slice none 0 0, .slice none 0 0, .int .i64 0, .slice none 0 0] 48)
  have TY : Hid (Ty W2 R 48) := hW2 ▸ hR ▸ Lib.hid (Ty.new _ _ _)
  have HW2 := Lib.hid hW2
  clear hW2
  have hR' : w.heap.size ≤ R := by rw [← hR]; exact bw.size
  have eR : R = p + 1 := by rw [← hR, ← HW1.out, ← hp]; simp
  subst eR
  have bw := bw.trans (v2.mono bw.size)
  have y0 := Y.out.at_ 0 (by simp)
  have y1 := Y.out.at_ 1 (by simp)
  have y2 := Y.out.at_ 2 (by simp)
  have y3 := Y.out.at_ 3 (by simp)
  have y4 := Y.out.at_ 4 (by simp)
  have y5 := Y.out.at_ 5 (by simp)
  simp only [List.getElem?_cons_succ, List.getElem?_cons_zero] at y0 y1 y2 y3 y4 y5
  have f0 := Y.out.fz 0 (by simp)
  have f1 := Y.out.fz 1 (by simp)
  have f2 := Y.out.fz 2 (by simp)
  have f3 := Y.out.fz 3 (by simp)
  have f4 := Y.out.fz 4 (by simp)
  have f5 := Y.out.fz 5 (by simp)
  have Q := Lib.hid (res6_cells Y.out rfl (.slice none 0 0) (.int .i64 0) (.slice none 0 0) (.slice none 0 0) (.int .i64 0) (.slice none 0 0))
  have bF := res6_below (a := .slice none 0 0) (b := .int .i64 0) (c := .slice none 0 0) (d := .slice none 0 0) (e := .int .i64 0) (g := .slice none 0 0) bw hR'
  have K1 := isKey_any (A := K) (n := kn) (c := kc) W2
  have V1 := isValue_any (A := VA) (n := vn) (c := vc) W2
  have h0 := h.out
  cases hk : keyN kn with
  | false =>
    rw [hk] at K1
    clear h0 hk V1
    go_enter Tryd.func19, Tryd.ntmps19
    go_upto_region 1 with fail
    rw [HW1.out, HW2.out]
    go_wp2_with fail
    go_at_call 39
    refine K1.mono ?_
    rintro e w' ⟨rfl, rfl⟩
    go_wp2_with fail
    obtain ⟨W9, hW9⟩ : ∃ u, ((((((W2.setCell ⟨p + 1, 0, none⟩ (.slice none 0 0)).setCell ⟨p + 1, 1, none⟩ (.int .i64 0)).setCell ⟨p + 1, 2, none⟩ (.slice none 0 0)).setCell ⟨p + 1, 3, none⟩ (.slice none 0 0)).setCell ⟨p + 1, 4, none⟩ (.int .i64 0)).setCell ⟨p + 1, 5, none⟩ (.slice none 0 0)) = u := ⟨_, rfl⟩
    rw [hW9] at Q bF ⊢
    have q0 := Q.out.at_ 0 (by simp)
    have q1 := Q.out.at_ 1 (by simp)
    have q2 := Q.out.at_ 2 (by simp)
    have q3 := Q.out.at_ 3 (by simp)
    have q4 := Q.out.at_ 4 (by simp)
    have q5 := Q.out.at_ 5 (by simp)
    simp only [List.getElem?_cons_succ, List.getElem?_cons_zero] at q0 q1 q2 q3 q4 q5
    refine bodyPost_ret (v := .tuple #[.agg #[.slice none 0 0, .int .i64 0, .slice none 0 0, .slice none 0 0, .int .i64 0, .slice none 0 0], .int .i64 1]) (by simp [results, Tryd.results19, go_sem, q0, q1, q2, q3, q4, q5]) rfl ?_
    exact ⟨rfl, bF⟩
  | true =>
    rw [hk] at K1 h0
    have h1 : valN vn = false := by simpa using h0
    rw [h1] at V1
    clear h0 hk h1
    go_enter Tryd.func19, Tryd.ntmps19
    go_upto_region 1 with fail
    rw [HW1.out, HW2.out]
    go_wp2_with fail
    go_at_call 39
    refine K1.mono ?_
    rintro e w' ⟨rfl, rfl⟩
    clear K1
    go_wp2_with fail
    go_at_call 45
    refine V1.mono ?_
    rintro e w' ⟨rfl, rfl⟩
    clear V1
    go_wp2_with fail
    obtain ⟨W9, hW9⟩ : ∃ u, ((((((W2.setCell ⟨p + 1, 0, none⟩ (.slice none 0 0)).setCell ⟨p + 1, 1, none⟩ (.int .i64 0)).setCell ⟨p + 1, 2, none⟩ (.slice none 0 0)).setCell ⟨p + 1, 3, none⟩ (.slice none 0 0)).setCell ⟨p + 1, 4, none⟩ (.int .i64 0)).setCell ⟨p + 1, 5, none⟩ (.slice none 0 0)) = u := ⟨_, rfl⟩
    rw [hW9] at Q bF ⊢
    have q0 := Q.out.at_ 0 (by simp)
    have q1 := Q.out.at_ 1 (by simp)
    have q2 := Q.out.at_ 2 (by simp)
    have q3 := Q.out.at_ 3 (by simp)
    have q4 := Q.out.at_ 4 (by simp)
    have q5 := Q.out.at_ 5 (by simp)
    simp only [List.getElem?_cons_succ, List.getElem?_cons_zero] at q0 q1 q2 q3 q4 q5
    refine bodyPost_ret (v := .tuple #[.agg #[.slice none 0 0, .int .i64 0, .slice none 0 0, .slice none 0 0, .int .i64 0, .slice none 0 0], .int .i64 1]) (by simp [results, Tryd.results19, go_sem, q0, q1, q2, q3, q4, q5]) rfl ?_
    exact ⟨rfl, bF⟩
set_option maxHeartbeats 3200000 in
theorem sPut_ok {A K VA : Option Addr} {n c kn kc vn vc : Nat} {l : List CV} {key val : List UInt8} (w : World) (G : Hid (Gl w)) (H : Hid (Sto w f log PA np pc r0 FA m fc LA ln lc)) (C : Hid (Cr w A n c l)) (V : Hid (Wvd f log last l))
    (hk : Hid (Rd w 1 K kn kc (bv key))) (hv : Hid (Rd w 1 VA vn vc (bv val))) (h : Hid (keyN kn = true ∧ valN vn = true)) :
    Calls Tryd.prog 19 #[.agg #[.slice PA np pc, .int .i64 r0, .slice FA m fc, .slice LA ln lc, .int .i64 last, .slice A n c], .slice K kn kc, .slice VA vn vc] w (PtPost w PA np pc r0 FA m fc LA ln lc last n l ⟨key, val, false⟩) := by
  obtain ⟨p, hp⟩ : ∃ p, w.heap.size = p := ⟨_, rfl⟩
  obtain ⟨W1, hW1⟩ : ∃ W1, w.alloc (.cells #[.slice PA np pc, .int .i64 r0, .slice FA m fc, .slice LA ln lc, .int .i64 last, .slice A n c] 48) = W1 := ⟨_, rfl⟩
  have bw : Below w.heap.size w W1 := hW1 ▸ bal _ _
  have X : Hid (Bx W1 p [.slice PA np pc, .int .i64 r0, .slice FA m fc, .slice LA ln lc, .int .i64 last, .slice A n c]) := hW1 ▸ Lib.hid (Bx.put _ hp #[.slice PA np pc, .int .i64 r0, .slice FA m fc, .slice LA ln lc, .int .i64 last, .slice A n c] 48)
  have TX : Hid (Ty W1 p 48) := hW1 ▸ hp ▸ Lib.hid (Ty.new _ _ _)
  have HW1 := Lib.hid hW1
  clear hW1
  obtain ⟨R, hR⟩ : ∃ R, W1.heap.size = R := ⟨_, rfl⟩
  obtain ⟨W2, hW2⟩ : ∃ W2, W1.alloc (.cells #[.slice none 0 0, .int .i64 0, .slice none 0 0, .slice none 0 0, .int .i64 0, .slice none 0 0] 48) = W2 := ⟨_, rfl⟩
  have v2 : Below W1.heap.size W1 W2 := hW2 ▸ bal _ _
  have Y : Hid (Bx W2 R [.slice none 0 0, .int .i64 0, .slice none 0 0, .slice none 0 0, .int .i64 0, .slice none 0 0]) := hW2 ▸ Lib.hid (Bx.put _ hR #[.slice none 0 0, .int .i64 0, .slice none 0 0, .slice none 0 0, .int .i64 0, .slice none 0 0] 48)
  have TY : Hid (Ty W2 R 48) := hW2 ▸ hR ▸ Lib.hid (Ty.new _ _ _)
  have HW2 := Lib.hid hW2
  clear hW2
  have hR' : w.heap.size ≤ R := by rw [← hR]; exact bw.size
  have eR : R = p + 1 := by rw [← hR, ← HW1.out, ← hp]; simp
  subst eR
  have X := Lib.hid (X.out.nx v2)
  have bw := bw.trans (v2.mono bw.size)
  have KN := Lib.hid (rd_bytes hk.out)
  have VN := Lib.hid (rd_bytes hv.out)
  have NL := Lib.hid C.out.len
  have n1 : n ≤ 100 := by have := V.out.1; have := NL.out; omega
  have k1 : kn ≤ 40 := by have := h.out.1; unfold keyN at this; have := of_decide_eq_true this; omega
  have v1 : vn ≤ 120 := by have := h.out.2; unfold valN at this; exact of_decide_eq_true this
  have K1 := isKey_any (A := K) (n := kn) (c := kc) W2
  have V1 := isValue_any (A := VA) (n := vn) (c := vc) W2
  rw [h.out.1] at K1
  rw [h.out.2] at V1
  have SW := Lib.hid (sWork_any (last := last) W2 (Lib.hid (G.out.nx bw)) (Lib.hid (H.out.nx bw)) (Lib.hid (C.out.nx bw)))
  have x0 := X.out.at_ 0 (by simp)
  have x1 := X.out.at_ 1 (by simp)
  have x2 := X.out.at_ 2 (by simp)
  have x3 := X.out.at_ 3 (by simp)
  have x4 := X.out.at_ 4 (by simp)
  have x5 := X.out.at_ 5 (by simp)
  simp only [List.getElem?_cons_succ, List.getElem?_cons_zero] at x0 x1 x2 x3 x4 x5
  go_enter Tryd.func19, Tryd.ntmps19
  go_upto_region 1 with fail
  rw [HW1.out, HW2.out]
  go_wp2_with fail
  go_at_call 39
  refine K1.mono ?_
  rintro e w' ⟨rfl, rfl⟩
  clear K1
  go_wp2_with fail
  go_at_call 45
  refine V1.mono ?_
  rintro e w' ⟨rfl, rfl⟩
  clear V1
  go_wp2_with fail
  go_at_call 46
  refine SW.out.mono ?_
  rintro e w2 ⟨b, rfl, hb, b2⟩
  obtain rfl : b = true := hb.2 V.out
  clear hb x0 x1 x2 x3 x4 x5 SW
  replace bw := bw.trans (b2.mono bw.size)
  replace X := Lib.hid (X.out.nx b2)
  replace Y := Lib.hid (Y.out.nx b2)
  have C2 := Lib.hid (C.out.nx bw)
  have x0 := X.out.at_ 0 (by simp)
  have x1 := X.out.at_ 1 (by simp)
  have x2 := X.out.at_ 2 (by simp)
  have x3 := X.out.at_ 3 (by simp)
  have x4 := X.out.at_ 4 (by simp)
  have x5 := X.out.at_ 5 (by simp)
  simp only [List.getElem?_cons_succ, List.getElem?_cons_zero] at x0 x1 x2 x3 x4 x5
  have y0 := Y.out.at_ 0 (by simp)
  have y1 := Y.out.at_ 1 (by simp)
  have y2 := Y.out.at_ 2 (by simp)
  have y3 := Y.out.at_ 3 (by simp)
  have y4 := Y.out.at_ 4 (by simp)
  have y5 := Y.out.at_ 5 (by simp)
  simp only [List.getElem?_cons_succ, List.getElem?_cons_zero] at y0 y1 y2 y3 y4 y5
  have f0 := Y.out.fz 0 (by simp)
  have f1 := Y.out.fz 1 (by simp)
  have f2 := Y.out.fz 2 (by simp)
  have f3 := Y.out.fz 3 (by simp)
  have f4 := Y.out.fz 4 (by simp)
  have f5 := Y.out.fz 5 (by simp)
  have KK : Hid (∀ U, Below w2.heap.size w2 U → Bx U p [.slice PA np pc, .int .i64 r0, .slice FA m fc, .slice LA ln lc, .int .i64 last, .slice A n c] ∧ Bx U (p + 1) [.slice none 0 0, .int .i64 0, .slice none 0 0, .slice none 0 0, .int .i64 0, .slice none 0 0]) := Lib.hid fun U hU => ⟨X.out.nx hU, Y.out.nx hU⟩
  have xl := X.out.lt
  have yl := Y.out.lt
  have VD : Hid (Below w2.heap.size w2 w2.drew) := Lib.hid (Below.refl _ _).drew
  have CK : Hid (∀ U, Below w2.heap.size w2 U → Calls Tryd.prog 44 #[.slice K kn kc] U (fun e w' => ∃ A' c', e = .returned (.slice A' kn c') ∧ Hid (w'.ownsRow w2.heap.size 5 1 (.slice A' kn c') kn (bv key)) ∧ Below U.heap.size U w' ∧ Below w2.heap.size w2 w')) := Lib.hid fun U hU =>
    (bclone_any U (Lib.hid ((hk.out.nx bw).nx hU)) (bv_one _) (by omega)).mono fun e w' ⟨A', c', he, ho, hb⟩ => ⟨A', c', he, Lib.hid (own_base ho.out hU.size), hb, hU.trans (hb.mono hU.size)⟩
  have CV' : Hid (∀ U, Below w2.heap.size w2 U → Calls Tryd.prog 44 #[.slice VA vn vc] U (fun e w' => ∃ A' c', e = .returned (.slice A' vn c') ∧ Hid (w'.ownsRow w2.heap.size 5 1 (.slice A' vn c') vn (bv val)) ∧ Below U.heap.size U w' ∧ Below w2.heap.size w2 w')) := Lib.hid fun U hU =>
    (bclone_any U (Lib.hid ((hv.out.nx bw).nx hU)) (bv_one _) (by omega)).mono fun e w' ⟨A', c', he, ho, hb⟩ => ⟨A', c', he, Lib.hid (own_base ho.out hU.size), hb, hU.trans (hb.mono hU.size)⟩
  by_cases hc : 100 ≤ n
  · have CM : Hid (∀ U KA kc' KB d, Below w2.heap.size w2 U → Dt U ⟨KA, kc', key, KB, d, val, false⟩ → Calls Tryd.prog 43 #[.agg #[.slice PA np pc, .int .i64 r0, .slice FA m fc, .slice LA ln lc, .int .i64 last, .slice A n c], .agg #[.slice KA kn kc', .slice KB vn d, .bool false]] U (fun e w' => e = .returned (.tuple #[.agg #[.slice none 0 0, .int .i64 0, .slice none 0 0, .slice none 0 0, .int .i64 0, .slice none 0 0], .int .i64 5]) ∧ Below w2.heap.size w2 w')) := Lib.hid fun U KA kc' KB d hU hD =>
      (smore_any U (Lib.hid (C2.out.nx hU)) (Lib.hid hD) KN VN (by omega)).mono fun e w' ⟨h1, h2⟩ => by
        rcases h1 with ⟨_, he⟩ | ⟨h1, _⟩
        · exact ⟨he, hU.trans (h2.mono hU.size)⟩
        · omega
    go_wp2_with fail
    go_region_law
      (first
        | (go_simp
           go_at_call_of 44 (Value.slice K kn kc)
           refine (CK.out _ VD.out).mono ?_
           rintro e w3 ⟨A3, c3, rfl, own3, b3, v3⟩
           obtain ⟨X3, _⟩ := KK.out _ v3
           have s0 := X3.at_ 0 (by simp)
           have s1 := X3.at_ 1 (by simp)
           have s2 := X3.at_ 2 (by simp)
           have s3 := X3.at_ 3 (by simp)
           have s4 := X3.at_ 4 (by simp)
           have s5 := X3.at_ 5 (by simp)
           simp only [List.getElem?_cons_succ, List.getElem?_cons_zero] at s0 s1 s2 s3 s4 s5
           have V3 := Lib.hid v3
           have w3l := v3.size
           clear b3 v3 X3
           dsimp only)
        | (go_simp
           go_at_call_of 44 (Value.slice VA vn vc)
           refine (CV'.out _ V3.out).mono ?_
           rintro e w4 ⟨A4, c4, rfl, own4, b4, v4⟩
           obtain ⟨X4, _⟩ := KK.out _ v4
           have u0 := X4.at_ 0 (by simp)
           have u1 := X4.at_ 1 (by simp)
           have u2 := X4.at_ 2 (by simp)
           have u3 := X4.at_ 3 (by simp)
           have u4 := X4.at_ 4 (by simp)
           have u5 := X4.at_ 5 (by simp)
           simp only [List.getElem?_cons_succ, List.getElem?_cons_zero] at u0 u1 u2 u3 u4 u5
           have own3 := Lib.hid (own_below own3.out b4)
           have V4 := Lib.hid v4
           have w4l := v4.size
           clear b4 v4 X4
           dsimp only)
        | (go_simp
           go_at_call 43
           refine (CM.out _ _ _ _ _ V4.out ⟨by rw [← KN.out]; exact Rd.of_own own3.out, by rw [← VN.out]; exact Rd.of_own own4.out⟩).mono ?_
           rintro e w5 ⟨rfl, v5⟩
           obtain ⟨_, Y5⟩ := KK.out _ v5
           have z0 := Y5.at_ 0 (by simp)
           have z1 := Y5.at_ 1 (by simp)
           have z2 := Y5.at_ 2 (by simp)
           have z3 := Y5.at_ 3 (by simp)
           have z4 := Y5.at_ 4 (by simp)
           have z5 := Y5.at_ 5 (by simp)
           simp only [List.getElem?_cons_succ, List.getElem?_cons_zero] at z0 z1 z2 z3 z4 z5
           have g0 := Y5.fz 0 (by simp)
           have g1 := Y5.fz 1 (by simp)
           have g2 := Y5.fz 2 (by simp)
           have g3 := Y5.fz 3 (by simp)
           have g4 := Y5.fz 4 (by simp)
           have g5 := Y5.fz 5 (by simp)
           have V5 := Lib.hid v5
           have Y5 := Lib.hid Y5
           clear v5
           dsimp only))
    all_goals
      have bw9 := bw.trans (V5.out.mono bw.size)
      have Q := Lib.hid (res6_cells Y5.out rfl (.slice none 0 0) (.int .i64 0) (.slice none 0 0) (.slice none 0 0) (.int .i64 0) (.slice none 0 0))
      have bF := res6_below (a := .slice none 0 0) (b := .int .i64 0) (c := .slice none 0 0) (d := .slice none 0 0) (e := .int .i64 0) (g := .slice none 0 0) bw9 hR'
      obtain ⟨W9, hW9⟩ : ∃ u, ((((((w5.setCell ⟨p + 1, 0, none⟩ (.slice none 0 0)).setCell ⟨p + 1, 1, none⟩ (.int .i64 0)).setCell ⟨p + 1, 2, none⟩ (.slice none 0 0)).setCell ⟨p + 1, 3, none⟩ (.slice none 0 0)).setCell ⟨p + 1, 4, none⟩ (.int .i64 0)).setCell ⟨p + 1, 5, none⟩ (.slice none 0 0)) = u := ⟨_, rfl⟩
      rw [hW9] at Q bF ⊢
      have q0 := Q.out.at_ 0 (by simp)
      have q1 := Q.out.at_ 1 (by simp)
      have q2 := Q.out.at_ 2 (by simp)
      have q3 := Q.out.at_ 3 (by simp)
      have q4 := Q.out.at_ 4 (by simp)
      have q5 := Q.out.at_ 5 (by simp)
      simp only [List.getElem?_cons_succ, List.getElem?_cons_zero] at q0 q1 q2 q3 q4 q5
      go_wp2_with fail
      refine bodyPost_ret (v := .tuple #[.agg #[.slice none 0 0, .int .i64 0, .slice none 0 0, .slice none 0 0, .int .i64 0, .slice none 0 0], .int .i64 5]) (by simp [results, Tryd.results19, go_sem, q0, q1, q2, q3, q4, q5]) rfl ?_
      exact ⟨.inl ⟨hc, rfl⟩, bF⟩
  · have CM : Hid (∀ U KA kc' KB d, Below w2.heap.size w2 U → Dt U ⟨KA, kc', key, KB, d, val, false⟩ → Calls Tryd.prog 43 #[.agg #[.slice PA np pc, .int .i64 r0, .slice FA m fc, .slice LA ln lc, .int .i64 last, .slice A n c], .agg #[.slice KA kn kc', .slice KB vn d, .bool false]] U (fun e w' => ∃ A' c', e = .returned (.tuple #[.agg #[.slice PA np pc, .int .i64 r0, .slice FA m fc, .slice LA ln lc, .int .i64 last, .slice A' (n + 1) c'], .int .i64 0]) ∧ Hid (w'.ownsRow w2.heap.size 45 3 (.slice A' (n + 1) c') (n + 1) (cvs (l ++ [⟨KA, kc', key, KB, d, val, false⟩]))) ∧ Below U.heap.size U w' ∧ Below w2.heap.size w2 w')) := Lib.hid fun U KA kc' KB d hU hD =>
      (smore_any U (Lib.hid (C2.out.nx hU)) (Lib.hid hD) KN VN (by omega)).mono fun e w' ⟨h1, h2⟩ => by
        rcases h1 with ⟨h1, _⟩ | ⟨_, A', c', he, ho⟩
        · omega
        · exact ⟨A', c', he, Lib.hid (own_base ho.out hU.size), h2, hU.trans (h2.mono hU.size)⟩
    go_wp2_with fail
    go_region_law
      (first
        | (go_simp
           go_at_call_of 44 (Value.slice K kn kc)
           refine (CK.out _ VD.out).mono ?_
           rintro e w3 ⟨A3, c3, rfl, own3, b3, v3⟩
           obtain ⟨X3, _⟩ := KK.out _ v3
           have s0 := X3.at_ 0 (by simp)
           have s1 := X3.at_ 1 (by simp)
           have s2 := X3.at_ 2 (by simp)
           have s3 := X3.at_ 3 (by simp)
           have s4 := X3.at_ 4 (by simp)
           have s5 := X3.at_ 5 (by simp)
           simp only [List.getElem?_cons_succ, List.getElem?_cons_zero] at s0 s1 s2 s3 s4 s5
           have V3 := Lib.hid v3
           have w3l := v3.size
           clear b3 v3 X3
           dsimp only)
        | (go_simp
           go_at_call_of 44 (Value.slice VA vn vc)
           refine (CV'.out _ V3.out).mono ?_
           rintro e w4 ⟨A4, c4, rfl, own4, b4, v4⟩
           obtain ⟨X4, _⟩ := KK.out _ v4
           have u0 := X4.at_ 0 (by simp)
           have u1 := X4.at_ 1 (by simp)
           have u2 := X4.at_ 2 (by simp)
           have u3 := X4.at_ 3 (by simp)
           have u4 := X4.at_ 4 (by simp)
           have u5 := X4.at_ 5 (by simp)
           simp only [List.getElem?_cons_succ, List.getElem?_cons_zero] at u0 u1 u2 u3 u4 u5
           have own3 := Lib.hid (own_below own3.out b4)
           have V4 := Lib.hid v4
           have w4l := v4.size
           clear b4 v4 X4
           dsimp only)
        | (go_simp
           go_at_call 43
           refine (CM.out _ _ _ _ _ V4.out ⟨by rw [← KN.out]; exact Rd.of_own own3.out, by rw [← VN.out]; exact Rd.of_own own4.out⟩).mono ?_
           rintro e w5 ⟨A5, c5, rfl, own5, b5, v5⟩
           obtain ⟨_, Y5⟩ := KK.out _ v5
           have z0 := Y5.at_ 0 (by simp)
           have z1 := Y5.at_ 1 (by simp)
           have z2 := Y5.at_ 2 (by simp)
           have z3 := Y5.at_ 3 (by simp)
           have z4 := Y5.at_ 4 (by simp)
           have z5 := Y5.at_ 5 (by simp)
           simp only [List.getElem?_cons_succ, List.getElem?_cons_zero] at z0 z1 z2 z3 z4 z5
           have g0 := Y5.fz 0 (by simp)
           have g1 := Y5.fz 1 (by simp)
           have g2 := Y5.fz 2 (by simp)
           have g3 := Y5.fz 3 (by simp)
           have g4 := Y5.fz 4 (by simp)
           have g5 := Y5.fz 5 (by simp)
           have own3 := Lib.hid (own_below own3.out b5)
           have own4 := Lib.hid (own_below own4.out b5)
           have V5 := Lib.hid v5
           have Y5 := Lib.hid Y5
           clear v5 b5
           dsimp only))
    all_goals
      have bw9 := bw.trans (V5.out.mono bw.size)
      have Q := Lib.hid (res6_cells Y5.out rfl (.slice PA np pc) (.int .i64 r0) (.slice FA m fc) (.slice LA ln lc) (.int .i64 last) (.slice A5 (n + 1) c5))
      have bF := res6_below (a := .slice PA np pc) (b := .int .i64 r0) (c := .slice FA m fc) (d := .slice LA ln lc) (e := .int .i64 last) (g := .slice A5 (n + 1) c5) bw9 hR'
      have OF := Lib.hid (own_res6 (R := p + 1) (a := .slice PA np pc) (b := .int .i64 r0) (d := .slice FA m fc) (e := .slice LA ln lc) (f := .int .i64 last) (g := .slice A5 (n + 1) c5) own5.out (by omega))
      have O3 := Lib.hid (own_res6 (R := p + 1) (a := .slice PA np pc) (b := .int .i64 r0) (d := .slice FA m fc) (e := .slice LA ln lc) (f := .int .i64 last) (g := .slice A5 (n + 1) c5) own3.out (by omega))
      have O4 := Lib.hid (own_res6 (R := p + 1) (a := .slice PA np pc) (b := .int .i64 r0) (d := .slice FA m fc) (e := .slice LA ln lc) (f := .int .i64 last) (g := .slice A5 (n + 1) c5) own4.out (by omega))
      obtain ⟨W9, hW9⟩ : ∃ u, ((((((w5.setCell ⟨p + 1, 0, none⟩ (.slice PA np pc)).setCell ⟨p + 1, 1, none⟩ (.int .i64 r0)).setCell ⟨p + 1, 2, none⟩ (.slice FA m fc)).setCell ⟨p + 1, 3, none⟩ (.slice LA ln lc)).setCell ⟨p + 1, 4, none⟩ (.int .i64 last)).setCell ⟨p + 1, 5, none⟩ (.slice A5 (n + 1) c5)) = u := ⟨_, rfl⟩
      rw [hW9] at Q bF OF O3 O4 ⊢
      have q0 := Q.out.at_ 0 (by simp)
      have q1 := Q.out.at_ 1 (by simp)
      have q2 := Q.out.at_ 2 (by simp)
      have q3 := Q.out.at_ 3 (by simp)
      have q4 := Q.out.at_ 4 (by simp)
      have q5 := Q.out.at_ 5 (by simp)
      simp only [List.getElem?_cons_succ, List.getElem?_cons_zero] at q0 q1 q2 q3 q4 q5
      go_wp2_with fail
      refine bodyPost_ret (v := .tuple #[.agg #[.slice PA np pc, .int .i64 r0, .slice FA m fc, .slice LA ln lc, .int .i64 last, .slice A5 (n + 1) c5], .int .i64 0]) (by simp [results, Tryd.results19, go_sem, q0, q1, q2, q3, q4, q5]) rfl ?_
      have hz := bw.size
      exact ⟨.inr ⟨by omega, A5, c5, _, rfl, Lib.hid rfl, Lib.hid ⟨own_base OF.out hz, fun y hy => by
        rcases List.mem_append.1 hy with hy | hy
        · exact (C.out.dat y hy).nx bF
        · obtain rfl := List.mem_singleton.1 hy
          exact ⟨by rw [← KN.out]; exact Rd.of_own O3.out, by rw [← VN.out]; exact Rd.of_own O4.out⟩⟩, Lib.hid fun g e => by
        rcases e with e | e
        · exact Nat.le_trans hz (own_blk_le O3.out e).1
        · exact Nat.le_trans hz (own_blk_le O4.out e).1⟩, bF⟩
end
end Go.Proofs.YtpmkohnljngbhaaDoor.Sr
/- Walks: Get. -/
namespace Go.Proofs.YtpmkohnljngbhaaDoor.Sr
set_option maxRecDepth 1000000
open Go.RowKit Wl Pg
section
variable {PA FA LA : Option Addr} {np pc m fc ln lc : Nat} {r0 last : Int} {f : FV} {log : List UInt8}
theorem sGet_no {A K : Option Addr} {n c kn kc : Nat} {l : List CV} (w : World) (G : Hid (Gl w)) (H : Hid (Sto w f log PA np pc r0 FA m fc LA ln lc)) (C : Hid (Cr w A n c l)) (h : Hid (keyN kn = true → ¬ Wvd f log last l)) :
    Calls Tryd.prog 21 #[.agg #[.slice PA np pc, .int .i64 r0, .slice FA m fc, .slice LA ln lc, .int .i64 last, .slice A n c], .slice K kn kc] w fun e w' => e = .returned (.tuple #[.slice none 0 0, .int .i64 (if keyN kn = true then 16 else 1)]) ∧ Below w.heap.size w w' := by
  obtain ⟨p, hp⟩ : ∃ p, w.heap.size = p := ⟨_, rfl⟩
  obtain ⟨W1, hW1⟩ : ∃ W1, w.alloc (.cells #[.slice PA np pc, .int .i64 r0, .slice FA m fc, .slice LA ln lc, .int .i64 last, .slice A n c] 48) = W1 := ⟨_, rfl⟩
  have bw : Below w.heap.size w W1 := hW1 ▸ bal _ _
  have X : Hid (Bx W1 p [.slice PA np pc, .int .i64 r0, .slice FA m fc, .slice LA ln lc, .int .i64 last, .slice A n c]) := hW1 ▸ Lib.hid (Bx.put _ hp #[.slice PA np pc, .int .i64 r0, .slice FA m fc, .slice LA ln lc, .int .i64 last, .slice A n c] 48)
  have TX : Hid (Ty W1 p 48) := hW1 ▸ hp ▸ Lib.hid (Ty.new _ _ _)
  have HW1 := Lib.hid hW1
  clear hW1
  have x0 := X.out.at_ 0 (by simp)
  have x1 := X.out.at_ 1 (by simp)
  have x2 := X.out.at_ 2 (by simp)
  have x3 := X.out.at_ 3 (by simp)
  have x4 := X.out.at_ 4 (by simp)
  have x5 := X.out.at_ 5 (by simp)
  simp only [List.getElem?_cons_succ, List.getElem?_cons_zero] at x0 x1 x2 x3 x4 x5
  have K1 := isKey_any (A := K) (n := kn) (c := kc) W1
  have SW := Lib.hid (sWork_any (last := last) W1 (Lib.hid (G.out.nx bw)) (Lib.hid (H.out.nx bw)) (Lib.hid (C.out.nx bw)))
  have h := Lib.hid h.out
  cases hk : keyN kn with
  | false =>
    rw [hk] at K1
    clear hk h
    rw [if_neg (by simp)]
    go_enter Tryd.func21, Tryd.ntmps21
    go_upto_region 1 with fail
    rw [HW1.out]
    go_wp2_with fail
    go_at_call 39
    refine K1.mono ?_
    rintro e w' ⟨rfl, rfl⟩
    go_wp2_with fail
    go_ret2
    exact ⟨rfl, bw⟩
  | true =>
    rw [hk] at K1
    have h := Lib.hid (h.out hk)
    clear hk
    rw [if_pos (by rfl)]
    go_enter Tryd.func21, Tryd.ntmps21
    go_upto_region 1 with fail
    rw [HW1.out]
    go_wp2_with fail
    go_at_call 39
    refine K1.mono ?_
    rintro e w' ⟨rfl, rfl⟩
    clear K1
    go_wp2_with fail
    go_at_call 46
    refine SW.out.mono ?_
    rintro e w2 ⟨b, rfl, hb, b2⟩
    have hbf : b = false := by
      cases b with
      | false => rfl
      | true => exact absurd (hb.1 rfl) h.out
    subst hbf
    have bF := bw.trans (b2.mono bw.size)
    clear hb
    go_wp2_with fail
    go_ret2
    exact ⟨rfl, bF⟩
set_option maxHeartbeats 3200000 in
theorem sGet_ok {A K : Option Addr} {n c kn kc : Nat} {l : List CV} {key : List UInt8} {b : Ent} {L : List (List Ch)} (w : World) (G : Hid (Gl w)) (H : Hid (Sto w f log PA np pc r0 FA m fc LA ln lc)) (HE : Hid (Fent f.f b)) (HT : Hid (trx log last = some L)) (C : Hid (Cr w A n c l)) (V : Hid (Wvd f log last l))
    (hk : Hid (Rd w 1 K kn kc (bv key))) (h : keyN kn = true) :
    Calls Tryd.prog 21 #[.agg #[.slice PA np pc, .int .i64 r0, .slice FA m fc, .slice LA ln lc, .int .i64 last, .slice A n c], .slice K kn kc] w (FdPost w (app b (L.flatten ++ l.map CV.ch) key)) := by
  obtain ⟨i0, hi, hz0, hz1, hz2⟩ := info_parts info_change
  obtain ⟨p, hp⟩ : ∃ p, w.heap.size = p := ⟨_, rfl⟩
  obtain ⟨W1, hW1⟩ : ∃ W1, w.alloc (.cells #[.slice PA np pc, .int .i64 r0, .slice FA m fc, .slice LA ln lc, .int .i64 last, .slice A n c] 48) = W1 := ⟨_, rfl⟩
  have bw : Below w.heap.size w W1 := hW1 ▸ bal _ _
  have X : Hid (Bx W1 p [.slice PA np pc, .int .i64 r0, .slice FA m fc, .slice LA ln lc, .int .i64 last, .slice A n c]) := hW1 ▸ Lib.hid (Bx.put _ hp #[.slice PA np pc, .int .i64 r0, .slice FA m fc, .slice LA ln lc, .int .i64 last, .slice A n c] 48)
  have TX : Hid (Ty W1 p 48) := hW1 ▸ hp ▸ Lib.hid (Ty.new _ _ _)
  have HW1 := Lib.hid hW1
  clear hW1
  have x0 := X.out.at_ 0 (by simp)
  have x1 := X.out.at_ 1 (by simp)
  have x2 := X.out.at_ 2 (by simp)
  have x3 := X.out.at_ 3 (by simp)
  have x4 := X.out.at_ 4 (by simp)
  have x5 := X.out.at_ 5 (by simp)
  simp only [List.getElem?_cons_succ, List.getElem?_cons_zero] at x0 x1 x2 x3 x4 x5
  have KN := Lib.hid (rd_bytes hk.out)
  have LK : Hid (lenK key) := Lib.hid ((lenK_keyN KN.out).2 h)
  have NL := Lib.hid C.out.len
  have n1 : n ≤ 100 := by have := V.out.1; have := NL.out; omega
  have K1 := isKey_any (A := K) (n := kn) (c := kc) W1
  rw [h] at K1
  clear h
  have SW := Lib.hid (sWork_any (last := last) W1 (Lib.hid (G.out.nx bw)) (Lib.hid (H.out.nx bw)) (Lib.hid (C.out.nx bw)))
  go_enter Tryd.func21, Tryd.ntmps21
  go_upto_region 1 with fail
  rw [HW1.out]
  go_wp2_with fail
  go_at_call 39
  refine K1.mono ?_
  rintro e w' ⟨rfl, rfl⟩
  clear K1
  go_wp2_with fail
  go_at_call 46
  refine SW.out.mono ?_
  rintro e w2 ⟨bb, rfl, hb, b2⟩
  obtain rfl : bb = true := hb.2 V.out
  clear hb x0 x1 x2 x3 x4 x5 SW
  replace bw := bw.trans (b2.mono bw.size)
  replace X := Lib.hid (X.out.nx b2)
  have C2 := Lib.hid (C.out.nx bw)
  have H2 := Lib.hid (H.out.nx bw)
  have G2 := Lib.hid (G.out.nx bw)
  have K2 := Lib.hid (hk.out.nx bw)
  have KK : Hid (∀ U, Below w2.heap.size w2 U → U.cell? ⟨p, 0, none⟩ = some (.slice PA np pc) ∧ U.cell? ⟨p, 1, none⟩ = some (.int .i64 r0) ∧ U.cell? ⟨p, 2, none⟩ = some (.slice FA m fc) ∧ U.cell? ⟨p, 3, none⟩ = some (.slice LA ln lc) ∧ U.cell? ⟨p, 4, none⟩ = some (.int .i64 last) ∧ U.cell? ⟨p, 5, none⟩ = some (.slice A n c)) := Lib.hid fun U hU => by
    have X := Lib.hid (X.out.nx hU)
    have x0 := X.out.at_ 0 (by simp)
    have x1 := X.out.at_ 1 (by simp)
    have x2 := X.out.at_ 2 (by simp)
    have x3 := X.out.at_ 3 (by simp)
    have x4 := X.out.at_ 4 (by simp)
    have x5 := X.out.at_ 5 (by simp)
    simp only [List.getElem?_cons_succ, List.getElem?_cons_zero] at x0 x1 x2 x3 x4 x5
    exact ⟨x0, x1, x2, x3, x4, x5⟩
  have vd : Below w2.heap.size w2 w2.drew := (Below.refl _ _).drew
  have l0 := V.out.2.1.1
  have l1 := V.out.2.1.2.1
  have CH : Hid (∀ U, Below w2.heap.size w2 U → Calls Tryd.prog 41 #[.agg #[.slice PA np pc, .int .i64 r0, .slice FA m fc, .slice LA ln lc, .int .i64 last]] U (CsPost U L.flatten)) := Lib.hid fun U hU => changes_any U (Lib.hid (H2.out.nx hU)) l0 l1 HT
  have CF : Hid (∀ U (A' : Option Addr) (n' c' : Nat) (l' : List CV), Below w2.heap.size w2 U → Hid (l'.map CV.ch = L.flatten) → Hid (Cr U A' n' c' (l' ++ l)) → n' ≤ 1000000 → Calls Tryd.prog 40 #[.agg #[.slice PA np pc, .int .i64 r0, .slice FA m fc], .slice A' n' c', .slice K kn kc] U (FdPost U (app b (L.flatten ++ l.map CV.ch) key))) := Lib.hid fun U A' n' c' l' hU hl hC hn => by
    have := sfind_any H2.out.cs U (Lib.hid (G2.out.nx hU)) (Lib.hid (H2.out.fl.below hU)) HE hC (by omega) (Lib.hid fun x hx => by
      rcases List.mem_append.1 hx with hx | hx
      · exact flat_ok HT.out hl.out x hx
      · exact V.out.2.2 x hx) (Lib.hid (K2.out.nx hU)) LK
    rwa [List.map_append, hl.out] at this
  clear l0 l1
  go_wp2_with fail
  go_region_held3 (fun w' => w'.cell? ⟨p, 0, none⟩ = some (.slice PA np pc) ∧ w'.cell? ⟨p, 1, none⟩ = some (.int .i64 r0) ∧ w'.cell? ⟨p, 2, none⟩ = some (.slice FA m fc) ∧ w'.cell? ⟨p, 3, none⟩ = some (.slice LA ln lc) ∧ w'.cell? ⟨p, 4, none⟩ = some (.int .i64 last) ∧ w'.cell? ⟨p, 5, none⟩ = some (.slice A n c))
    (first | exact kk1 | exact kk2 | exact kk3 | exact KK.out _ vd)
    (first
      | (go_at_call 41; refine (CH.out _ vd).mono ?_; rintro e w3 ⟨A3, n3, c3, l3, rfl, hl3, co3, hn3, b3, u, bu, bu3, ow3⟩; have v3 := vd.trans (b3.mono vd.size); have kk1 := KK.out _ v3; have vu := vd.trans (bu.mono vd.size))
      | (refine step_app (news := cvs l) _ (by rfl) (.tmp 19) (.tmp 21) 36 (by rfl) u.heap.size 45 i0 (.agg #[.slice none 0 0, .slice none 0 0, .bool false]) 3 56 Tryd.underlying36 hi hz0 hz1 hz2 rfl (by omega) (by rfl) ow3.out.1 (by rfl) (C2.out.nx v3).row (cvs_one _) (by omega) (by omega) bu3.size ?_
         intro A4 c4 W4 own4 g4
         have bu4 : Below u.heap.size u W4 := g4.low bu3 bu3.size fun g e => (own_blk_le ow3.out.1 e).1
         have v4 : Below w2.heap.size w2 W4 := vu.trans (bu4.mono vu.size)
         have kk2 := KK.out _ v4
         have C4 : Hid (Cr W4 A4 (n3 + n) c4 (l3 ++ l)) := Lib.hid ⟨by rw [cvs_app]; exact Rd.of_own own4, fun y hy => by
           rcases List.mem_append.1 hy with hy | hy
           · exact (ow3.out.2 y hy).nx bu4
           · exact (C2.out.dat y hy).nx v4⟩
         clear own4 g4)
      | (go_at_call 40; refine (CF.out _ _ _ _ _ v4 hl3 C4 (by omega)).mono ?_; rintro e w5 ⟨A5, n5, c5, er5, rfl, res5, b5⟩; have v5 := v4.trans (b5.mono v4.size); have kk3 := KK.out _ v5))
  have bF := bw.trans (v5.mono bw.size)
  clear kk1 kk2 kk3
  go_wp2_with fail
  go_ret2
  exact ⟨A5, n5, c5, er5, rfl, res5, bF⟩
end
end Go.Proofs.YtpmkohnljngbhaaDoor.Sr
/- Walks: Delete. -/
namespace Go.Proofs.YtpmkohnljngbhaaDoor.Sr
set_option maxRecDepth 1000000
open Go.RowKit Wl Pg
section
variable {PA FA LA : Option Addr} {np pc m fc ln lc : Nat} {r0 last : Int} {f : FV} {log : List UInt8}
theorem sDel_no {A K : Option Addr} {n c kn kc : Nat} {l : List CV} (w : World) (G : Hid (Gl w)) (H : Hid (Sto w f log PA np pc r0 FA m fc LA ln lc)) (C : Hid (Cr w A n c l)) (h : Hid (keyN kn = true → ¬ Wvd f log last l)) :
    Calls Tryd.prog 18 #[.agg #[.slice PA np pc, .int .i64 r0, .slice FA m fc, .slice LA ln lc, .int .i64 last, .slice A n c], .slice K kn kc] w fun e w' => e = .returned (.tuple #[.agg #[.slice none 0 0, .int .i64 0, .slice none 0 0, .slice none 0 0, .int .i64 0, .slice none 0 0], .int .i64 (if keyN kn = true then 16 else 1)]) ∧ Below w.heap.size w w' := by
  obtain ⟨p, hp⟩ : ∃ p, w.heap.size = p := ⟨_, rfl⟩
  obtain ⟨W1, hW1⟩ : ∃ W1, w.alloc (.cells #[.slice PA np pc, .int .i64 r0, .slice FA m fc, .slice LA ln lc, .int .i64 last, .slice A n c] 48) = W1 := ⟨_, rfl⟩
  have bw : Below w.heap.size w W1 := hW1 ▸ bal _ _
  have X : Hid (Bx W1 p [.slice PA np pc, .int .i64 r0, .slice FA m fc, .slice LA ln lc, .int .i64 last, .slice A n c]) := hW1 ▸ Lib.hid (Bx.put _ hp #[.slice PA np pc, .int .i64 r0, .slice FA m fc, .slice LA ln lc, .int .i64 last, .slice A n c] 48)
  have TX : Hid (Ty W1 p 48) := hW1 ▸ hp ▸ Lib.hid (Ty.new _ _ _)
  have HW1 := Lib.hid hW1
  clear hW1
  obtain ⟨R, hR⟩ : ∃ R, W1.heap.size = R := ⟨_, rfl⟩
  obtain ⟨W2, hW2⟩ : ∃ W2, W1.alloc (.cells #[.slice none 0 0, .int .i64 0, .slice none 0 0, .slice none 0 0, .int .i64 0, .slice none 0 0] 48) = W2 := ⟨_, rfl⟩
  have v2 : Below W1.heap.size W1 W2 := hW2 ▸ bal _ _
  have Y : Hid (Bx W2 R [.slice none 0 0, .int .i64 0, .slice none 0 0, .slice none 0 0, .int .i64 0, .slice none 0 0]) := hW2 ▸ Lib.hid (Bx.put _ hR #[.slice none 0 0, .int .i64 0, .slice none 0 0, .slice none 0 0, .int .i64 0, .slice none 0 0] 48)
  have TY : Hid (Ty W2 R 48) := hW2 ▸ hR ▸ Lib.hid (Ty.new _ _ _)
  have HW2 := Lib.hid hW2
  clear hW2
  have hR' : w.heap.size ≤ R := by rw [← hR]; exact bw.size
  have eR : R = p + 1 := by rw [← hR, ← HW1.out, ← hp]; simp
  subst eR
  have X := Lib.hid (X.out.nx v2)
  have bw := bw.trans (v2.mono bw.size)
  have x0 := X.out.at_ 0 (by simp)
  have x1 := X.out.at_ 1 (by simp)
  have x2 := X.out.at_ 2 (by simp)
  have x3 := X.out.at_ 3 (by simp)
  have x4 := X.out.at_ 4 (by simp)
  have x5 := X.out.at_ 5 (by simp)
  simp only [List.getElem?_cons_succ, List.getElem?_cons_zero] at x0 x1 x2 x3 x4 x5
  have GT := Lib.hid (sGet_no (last := last) (K := K) (kc := kc) W2 (Lib.hid (G.out.nx bw)) (Lib.hid (H.out.nx bw)) (Lib.hid (C.out.nx bw)) h)
  obtain ⟨er, her⟩ : ∃ er : Int, (if keyN kn = true then (16 : Int) else 1) = er := ⟨_, rfl⟩
  have hne : (er != 0) = true := by rw [← her]; split <;> rfl
  rw [her] at GT ⊢
  clear her h
  go_enter Tryd.func18, Tryd.ntmps18
  go_upto_region 1 with fail
  rw [HW1.out, HW2.out]
  go_wp2_with fail
  go_at_call 21
  refine GT.out.mono ?_
  rintro e w2 ⟨rfl, b2⟩
  clear x0 x1 x2 x3 x4 x5 GT
  replace bw := bw.trans (b2.mono bw.size)
  replace X := Lib.hid (X.out.nx b2)
  replace Y := Lib.hid (Y.out.nx b2)
  have y0 := Y.out.at_ 0 (by simp)
  have y1 := Y.out.at_ 1 (by simp)
  have y2 := Y.out.at_ 2 (by simp)
  have y3 := Y.out.at_ 3 (by simp)
  have y4 := Y.out.at_ 4 (by simp)
  have y5 := Y.out.at_ 5 (by simp)
  simp only [List.getElem?_cons_succ, List.getElem?_cons_zero] at y0 y1 y2 y3 y4 y5
  have f0 := Y.out.fz 0 (by simp)
  have f1 := Y.out.fz 1 (by simp)
  have f2 := Y.out.fz 2 (by simp)
  have f3 := Y.out.fz 3 (by simp)
  have f4 := Y.out.fz 4 (by simp)
  have f5 := Y.out.fz 5 (by simp)
  have Q := Lib.hid (res6_cells Y.out rfl (.slice none 0 0) (.int .i64 0) (.slice none 0 0) (.slice none 0 0) (.int .i64 0) (.slice none 0 0))
  have bF := res6_below (a := .slice none 0 0) (b := .int .i64 0) (c := .slice none 0 0) (d := .slice none 0 0) (e := .int .i64 0) (g := .slice none 0 0) bw hR'
  go_wp2_with fail
  obtain ⟨W9, hW9⟩ : ∃ u, ((((((w2.setCell ⟨p + 1, 0, none⟩ (.slice none 0 0)).setCell ⟨p + 1, 1, none⟩ (.int .i64 0)).setCell ⟨p + 1, 2, none⟩ (.slice none 0 0)).setCell ⟨p + 1, 3, none⟩ (.slice none 0 0)).setCell ⟨p + 1, 4, none⟩ (.int .i64 0)).setCell ⟨p + 1, 5, none⟩ (.slice none 0 0)) = u := ⟨_, rfl⟩
  rw [hW9] at Q bF ⊢
  have q0 := Q.out.at_ 0 (by simp)
  have q1 := Q.out.at_ 1 (by simp)
  have q2 := Q.out.at_ 2 (by simp)
  have q3 := Q.out.at_ 3 (by simp)
  have q4 := Q.out.at_ 4 (by simp)
  have q5 := Q.out.at_ 5 (by simp)
  simp only [List.getElem?_cons_succ, List.getElem?_cons_zero] at q0 q1 q2 q3 q4 q5
  refine bodyPost_ret (v := .tuple #[.agg #[.slice none 0 0, .int .i64 0, .slice none 0 0, .slice none 0 0, .int .i64 0, .slice none 0 0], .int .i64 er]) (by simp [results, Tryd.results18, go_sem, q0, q1, q2, q3, q4, q5]) rfl ?_
  exact ⟨rfl, bF⟩
def DlPost (w : World) (PA : Option Addr) (np pc : Nat) (r0 : Int) (FA : Option Addr) (m fc : Nat) (LA : Option Addr) (ln lc : Nat) (last : Int) (n : Nat) (l : List CV) (key : List UInt8) (o : Option (List UInt8)) (e : Ending) (w' : World) : Prop :=
  (o = none ∧ e = .returned (.tuple #[.agg #[.slice none 0 0, .int .i64 0, .slice none 0 0, .slice none 0 0, .int .i64 0, .slice none 0 0], .int .i64 7]) ∧ Below w.heap.size w w') ∨ (o ≠ none ∧ PtPost w PA np pc r0 FA m fc LA ln lc last n l ⟨key, [], true⟩ e w')
set_option maxHeartbeats 3200000 in
theorem sDel_ok {A K : Option Addr} {n c kn kc : Nat} {l : List CV} {key : List UInt8} {b : Ent} {L : List (List Ch)} (w : World) (G : Hid (Gl w)) (H : Hid (Sto w f log PA np pc r0 FA m fc LA ln lc)) (HE : Hid (Fent f.f b)) (HT : Hid (trx log last = some L)) (C : Hid (Cr w A n c l)) (V : Hid (Wvd f log last l))
    (hk : Hid (Rd w 1 K kn kc (bv key))) (h : keyN kn = true) :
    Calls Tryd.prog 18 #[.agg #[.slice PA np pc, .int .i64 r0, .slice FA m fc, .slice LA ln lc, .int .i64 last, .slice A n c], .slice K kn kc] w (DlPost w PA np pc r0 FA m fc LA ln lc last n l key (app b (L.flatten ++ l.map CV.ch) key)) := by
  obtain ⟨p, hp⟩ : ∃ p, w.heap.size = p := ⟨_, rfl⟩
  obtain ⟨W1, hW1⟩ : ∃ W1, w.alloc (.cells #[.slice PA np pc, .int .i64 r0, .slice FA m fc, .slice LA ln lc, .int .i64 last, .slice A n c] 48) = W1 := ⟨_, rfl⟩
  have bw : Below w.heap.size w W1 := hW1 ▸ bal _ _
  have X : Hid (Bx W1 p [.slice PA np pc, .int .i64 r0, .slice FA m fc, .slice LA ln lc, .int .i64 last, .slice A n c]) := hW1 ▸ Lib.hid (Bx.put _ hp #[.slice PA np pc, .int .i64 r0, .slice FA m fc, .slice LA ln lc, .int .i64 last, .slice A n c] 48)
  have TX : Hid (Ty W1 p 48) := hW1 ▸ hp ▸ Lib.hid (Ty.new _ _ _)
  have HW1 := Lib.hid hW1
  clear hW1
  obtain ⟨R, hR⟩ : ∃ R, W1.heap.size = R := ⟨_, rfl⟩
  obtain ⟨W2, hW2⟩ : ∃ W2, W1.alloc (.cells #[.slice none 0 0, .int .i64 0, .slice none 0 0, .slice none 0 0, .int .i64 0, .slice none 0 0] 48) = W2 := ⟨_, rfl⟩
  have v2 : Below W1.heap.size W1 W2 := hW2 ▸ bal _ _
  have Y : Hid (Bx W2 R [.slice none 0 0, .int .i64 0, .slice none 0 0, .slice none 0 0, .int .i64 0, .slice none 0 0]) := hW2 ▸ Lib.hid (Bx.put _ hR #[.slice none 0 0, .int .i64 0, .slice none 0 0, .slice none 0 0, .int .i64 0, .slice none 0 0] 48)
  have TY : Hid (Ty W2 R 48) := hW2 ▸ hR ▸ Lib.hid (Ty.new _ _ _)
  have HW2 := Lib.hid hW2
  clear hW2
  have hR' : w.heap.size ≤ R := by rw [← hR]; exact bw.size
  have eR : R = p + 1 := by rw [← hR, ← HW1.out, ← hp]; simp
  subst eR
  have X := Lib.hid (X.out.nx v2)
  have bw := bw.trans (v2.mono bw.size)
  have KN := Lib.hid (rd_bytes hk.out)
  have NL := Lib.hid C.out.len
  have n1 : n ≤ 100 := by have := V.out.1; have := NL.out; omega
  have k1 : kn ≤ 40 := by have := h; unfold keyN at this; have := of_decide_eq_true this; omega
  have x0 := X.out.at_ 0 (by simp)
  have x1 := X.out.at_ 1 (by simp)
  have x2 := X.out.at_ 2 (by simp)
  have x3 := X.out.at_ 3 (by simp)
  have x4 := X.out.at_ 4 (by simp)
  have x5 := X.out.at_ 5 (by simp)
  simp only [List.getElem?_cons_succ, List.getElem?_cons_zero] at x0 x1 x2 x3 x4 x5
  have GT := Lib.hid (sGet_ok (last := last) W2 (Lib.hid (G.out.nx bw)) (Lib.hid (H.out.nx bw)) HE HT (Lib.hid (C.out.nx bw)) V (Lib.hid (hk.out.nx bw)) h)
  obtain ⟨o, ho⟩ : ∃ o, app b (L.flatten ++ l.map CV.ch) key = o := ⟨_, rfl⟩
  rw [ho] at GT ⊢
  clear h ho
  go_enter Tryd.func18, Tryd.ntmps18
  go_upto_region 1 with fail
  rw [HW1.out, HW2.out]
  go_wp2_with fail
  go_at_call 21
  refine GT.out.mono ?_
  rintro e w2 ⟨A5, n5, c5, er, rfl, hres, b2⟩
  clear x0 x1 x2 x3 x4 x5 GT
  replace bw := bw.trans (b2.mono bw.size)
  replace X := Lib.hid (X.out.nx b2)
  replace Y := Lib.hid (Y.out.nx b2)
  have C2 := Lib.hid (C.out.nx bw)
  have x0 := X.out.at_ 0 (by simp)
  have x1 := X.out.at_ 1 (by simp)
  have x2 := X.out.at_ 2 (by simp)
  have x3 := X.out.at_ 3 (by simp)
  have x4 := X.out.at_ 4 (by simp)
  have x5 := X.out.at_ 5 (by simp)
  simp only [List.getElem?_cons_succ, List.getElem?_cons_zero] at x0 x1 x2 x3 x4 x5
  have y0 := Y.out.at_ 0 (by simp)
  have y1 := Y.out.at_ 1 (by simp)
  have y2 := Y.out.at_ 2 (by simp)
  have y3 := Y.out.at_ 3 (by simp)
  have y4 := Y.out.at_ 4 (by simp)
  have y5 := Y.out.at_ 5 (by simp)
  simp only [List.getElem?_cons_succ, List.getElem?_cons_zero] at y0 y1 y2 y3 y4 y5
  have f0 := Y.out.fz 0 (by simp)
  have f1 := Y.out.fz 1 (by simp)
  have f2 := Y.out.fz 2 (by simp)
  have f3 := Y.out.fz 3 (by simp)
  have f4 := Y.out.fz 4 (by simp)
  have f5 := Y.out.fz 5 (by simp)
  rcases hres with ⟨rfl, ho, _⟩ | ⟨rfl, d5, ho, _, _⟩
  · have HR := Lib.hid ho
    have Q := Lib.hid (res6_cells Y.out rfl (.slice none 0 0) (.int .i64 0) (.slice none 0 0) (.slice none 0 0) (.int .i64 0) (.slice none 0 0))
    have bF := res6_below (a := .slice none 0 0) (b := .int .i64 0) (c := .slice none 0 0) (d := .slice none 0 0) (e := .int .i64 0) (g := .slice none 0 0) bw hR'
    clear ho
    go_wp2_with fail
    obtain ⟨W9, hW9⟩ : ∃ u, ((((((w2.setCell ⟨p + 1, 0, none⟩ (.slice none 0 0)).setCell ⟨p + 1, 1, none⟩ (.int .i64 0)).setCell ⟨p + 1, 2, none⟩ (.slice none 0 0)).setCell ⟨p + 1, 3, none⟩ (.slice none 0 0)).setCell ⟨p + 1, 4, none⟩ (.int .i64 0)).setCell ⟨p + 1, 5, none⟩ (.slice none 0 0)) = u := ⟨_, rfl⟩
    rw [hW9] at Q bF ⊢
    have q0 := Q.out.at_ 0 (by simp)
    have q1 := Q.out.at_ 1 (by simp)
    have q2 := Q.out.at_ 2 (by simp)
    have q3 := Q.out.at_ 3 (by simp)
    have q4 := Q.out.at_ 4 (by simp)
    have q5 := Q.out.at_ 5 (by simp)
    simp only [List.getElem?_cons_succ, List.getElem?_cons_zero] at q0 q1 q2 q3 q4 q5
    refine bodyPost_ret (v := .tuple #[.agg #[.slice none 0 0, .int .i64 0, .slice none 0 0, .slice none 0 0, .int .i64 0, .slice none 0 0], .int .i64 7]) (by simp [results, Tryd.results18, go_sem, q0, q1, q2, q3, q4, q5]) rfl ?_
    exact .inl ⟨HR.out, rfl, bF⟩
  have HR := Lib.hid ho
  clear ho
  have KK : Hid (∀ U, Below w2.heap.size w2 U → Bx U p [.slice PA np pc, .int .i64 r0, .slice FA m fc, .slice LA ln lc, .int .i64 last, .slice A n c] ∧ Bx U (p + 1) [.slice none 0 0, .int .i64 0, .slice none 0 0, .slice none 0 0, .int .i64 0, .slice none 0 0]) := Lib.hid fun U hU => ⟨X.out.nx hU, Y.out.nx hU⟩
  have xl := X.out.lt
  have yl := Y.out.lt
  have VD : Hid (Below w2.heap.size w2 w2.drew) := Lib.hid (Below.refl _ _).drew
  have CK : Hid (∀ U, Below w2.heap.size w2 U → Calls Tryd.prog 44 #[.slice K kn kc] U (fun e w' => ∃ A' c', e = .returned (.slice A' kn c') ∧ Hid (w'.ownsRow w2.heap.size 5 1 (.slice A' kn c') kn (bv key)) ∧ Below U.heap.size U w' ∧ Below w2.heap.size w2 w')) := Lib.hid fun U hU =>
    (bclone_any U (Lib.hid ((hk.out.nx bw).nx hU)) (bv_one _) (by omega)).mono fun e w' ⟨A', c', he, ho, hb⟩ => ⟨A', c', he, Lib.hid (own_base ho.out hU.size), hb, hU.trans (hb.mono hU.size)⟩
  by_cases hc : 100 ≤ n
  · have CM : Hid (∀ U KA kc', Below w2.heap.size w2 U → Dt U ⟨KA, kc', key, none, 0, [], true⟩ → Calls Tryd.prog 43 #[.agg #[.slice PA np pc, .int .i64 r0, .slice FA m fc, .slice LA ln lc, .int .i64 last, .slice A n c], .agg #[.slice KA kn kc', .slice none 0 0, .bool true]] U (fun e w' => e = .returned (.tuple #[.agg #[.slice none 0 0, .int .i64 0, .slice none 0 0, .slice none 0 0, .int .i64 0, .slice none 0 0], .int .i64 5]) ∧ Below w2.heap.size w2 w')) := Lib.hid fun U KA kc' hU hD =>
      (smore_any U (Lib.hid (C2.out.nx hU)) (Lib.hid hD) KN (Lib.hid rfl) (by omega)).mono fun e w' ⟨h1, h2⟩ => by
        rcases h1 with ⟨_, he⟩ | ⟨h1, _⟩
        · exact ⟨he, hU.trans (h2.mono hU.size)⟩
        · omega
    go_wp2_with fail
    go_region_law
      (first
        | (go_simp
           go_at_call 44
           refine (CK.out _ VD.out).mono ?_
           rintro e w3 ⟨A3, c3, rfl, own3, b3, v3⟩
           obtain ⟨X3, _⟩ := KK.out _ v3
           have s0 := X3.at_ 0 (by simp)
           have s1 := X3.at_ 1 (by simp)
           have s2 := X3.at_ 2 (by simp)
           have s3 := X3.at_ 3 (by simp)
           have s4 := X3.at_ 4 (by simp)
           have s5 := X3.at_ 5 (by simp)
           simp only [List.getElem?_cons_succ, List.getElem?_cons_zero] at s0 s1 s2 s3 s4 s5
           have V3 := Lib.hid v3
           have w3l := v3.size
           clear b3 v3 X3
           dsimp only)
        | (go_simp
           go_at_call 43
           refine (CM.out _ _ _ V3.out ⟨by rw [← KN.out]; exact Rd.of_own own3.out, Rd.nil_ _ _⟩).mono ?_
           rintro e w5 ⟨rfl, v5⟩
           obtain ⟨_, Y5⟩ := KK.out _ v5
           have z0 := Y5.at_ 0 (by simp)
           have z1 := Y5.at_ 1 (by simp)
           have z2 := Y5.at_ 2 (by simp)
           have z3 := Y5.at_ 3 (by simp)
           have z4 := Y5.at_ 4 (by simp)
           have z5 := Y5.at_ 5 (by simp)
           simp only [List.getElem?_cons_succ, List.getElem?_cons_zero] at z0 z1 z2 z3 z4 z5
           have g0 := Y5.fz 0 (by simp)
           have g1 := Y5.fz 1 (by simp)
           have g2 := Y5.fz 2 (by simp)
           have g3 := Y5.fz 3 (by simp)
           have g4 := Y5.fz 4 (by simp)
           have g5 := Y5.fz 5 (by simp)
           have V5 := Lib.hid v5
           have Y5 := Lib.hid Y5
           clear v5
           dsimp only))
    all_goals
      have bw9 := bw.trans (V5.out.mono bw.size)
      have Q := Lib.hid (res6_cells Y5.out rfl (.slice none 0 0) (.int .i64 0) (.slice none 0 0) (.slice none 0 0) (.int .i64 0) (.slice none 0 0))
      have bF := res6_below (a := .slice none 0 0) (b := .int .i64 0) (c := .slice none 0 0) (d := .slice none 0 0) (e := .int .i64 0) (g := .slice none 0 0) bw9 hR'
      obtain ⟨W9, hW9⟩ : ∃ u, ((((((w5.setCell ⟨p + 1, 0, none⟩ (.slice none 0 0)).setCell ⟨p + 1, 1, none⟩ (.int .i64 0)).setCell ⟨p + 1, 2, none⟩ (.slice none 0 0)).setCell ⟨p + 1, 3, none⟩ (.slice none 0 0)).setCell ⟨p + 1, 4, none⟩ (.int .i64 0)).setCell ⟨p + 1, 5, none⟩ (.slice none 0 0)) = u := ⟨_, rfl⟩
      rw [hW9] at Q bF ⊢
      have q0 := Q.out.at_ 0 (by simp)
      have q1 := Q.out.at_ 1 (by simp)
      have q2 := Q.out.at_ 2 (by simp)
      have q3 := Q.out.at_ 3 (by simp)
      have q4 := Q.out.at_ 4 (by simp)
      have q5 := Q.out.at_ 5 (by simp)
      simp only [List.getElem?_cons_succ, List.getElem?_cons_zero] at q0 q1 q2 q3 q4 q5
      go_wp2_with fail
      refine bodyPost_ret (v := .tuple #[.agg #[.slice none 0 0, .int .i64 0, .slice none 0 0, .slice none 0 0, .int .i64 0, .slice none 0 0], .int .i64 5]) (by simp [results, Tryd.results18, go_sem, q0, q1, q2, q3, q4, q5]) rfl ?_
      exact .inr ⟨by rw [HR.out]; simp, .inl ⟨hc, rfl⟩, bF⟩
  · have CM : Hid (∀ U KA kc', Below w2.heap.size w2 U → Dt U ⟨KA, kc', key, none, 0, [], true⟩ → Calls Tryd.prog 43 #[.agg #[.slice PA np pc, .int .i64 r0, .slice FA m fc, .slice LA ln lc, .int .i64 last, .slice A n c], .agg #[.slice KA kn kc', .slice none 0 0, .bool true]] U (fun e w' => ∃ A' c', e = .returned (.tuple #[.agg #[.slice PA np pc, .int .i64 r0, .slice FA m fc, .slice LA ln lc, .int .i64 last, .slice A' (n + 1) c'], .int .i64 0]) ∧ Hid (w'.ownsRow w2.heap.size 45 3 (.slice A' (n + 1) c') (n + 1) (cvs (l ++ [⟨KA, kc', key, none, 0, [], true⟩]))) ∧ Below U.heap.size U w' ∧ Below w2.heap.size w2 w')) := Lib.hid fun U KA kc' hU hD =>
      (smore_any U (Lib.hid (C2.out.nx hU)) (Lib.hid hD) KN (Lib.hid rfl) (by omega)).mono fun e w' ⟨h1, h2⟩ => by
        rcases h1 with ⟨h1, _⟩ | ⟨_, A', c', he, ho⟩
        · omega
        · exact ⟨A', c', he, Lib.hid (own_base ho.out hU.size), h2, hU.trans (h2.mono hU.size)⟩
    go_wp2_with fail
    go_region_law
      (first
        | (go_simp
           go_at_call 44
           refine (CK.out _ VD.out).mono ?_
           rintro e w3 ⟨A3, c3, rfl, own3, b3, v3⟩
           obtain ⟨X3, _⟩ := KK.out _ v3
           have s0 := X3.at_ 0 (by simp)
           have s1 := X3.at_ 1 (by simp)
           have s2 := X3.at_ 2 (by simp)
           have s3 := X3.at_ 3 (by simp)
           have s4 := X3.at_ 4 (by simp)
           have s5 := X3.at_ 5 (by simp)
           simp only [List.getElem?_cons_succ, List.getElem?_cons_zero] at s0 s1 s2 s3 s4 s5
           have V3 := Lib.hid v3
           have w3l := v3.size
           clear b3 v3 X3
           dsimp only)
        | (go_simp
           go_at_call 43
           refine (CM.out _ _ _ V3.out ⟨by rw [← KN.out]; exact Rd.of_own own3.out, Rd.nil_ _ _⟩).mono ?_
           rintro e w5 ⟨A5, c5, rfl, own5, b5, v5⟩
           obtain ⟨_, Y5⟩ := KK.out _ v5
           have z0 := Y5.at_ 0 (by simp)
           have z1 := Y5.at_ 1 (by simp)
           have z2 := Y5.at_ 2 (by simp)
           have z3 := Y5.at_ 3 (by simp)
           have z4 := Y5.at_ 4 (by simp)
           have z5 := Y5.at_ 5 (by simp)
           simp only [List.getElem?_cons_succ, List.getElem?_cons_zero] at z0 z1 z2 z3 z4 z5
           have g0 := Y5.fz 0 (by simp)
           have g1 := Y5.fz 1 (by simp)
           have g2 := Y5.fz 2 (by simp)
           have g3 := Y5.fz 3 (by simp)
           have g4 := Y5.fz 4 (by simp)
           have g5 := Y5.fz 5 (by simp)
           have own3 := Lib.hid (own_below own3.out b5)
           have V5 := Lib.hid v5
           have Y5 := Lib.hid Y5
           clear v5 b5
           dsimp only))
    all_goals
      have bw9 := bw.trans (V5.out.mono bw.size)
      have Q := Lib.hid (res6_cells Y5.out rfl (.slice PA np pc) (.int .i64 r0) (.slice FA m fc) (.slice LA ln lc) (.int .i64 last) (.slice A5 (n + 1) c5))
      have bF := res6_below (a := .slice PA np pc) (b := .int .i64 r0) (c := .slice FA m fc) (d := .slice LA ln lc) (e := .int .i64 last) (g := .slice A5 (n + 1) c5) bw9 hR'
      have OF := Lib.hid (own_res6 (R := p + 1) (a := .slice PA np pc) (b := .int .i64 r0) (d := .slice FA m fc) (e := .slice LA ln lc) (f := .int .i64 last) (g := .slice A5 (n + 1) c5) own5.out (by omega))
      have O3 := Lib.hid (own_res6 (R := p + 1) (a := .slice PA np pc) (b := .int .i64 r0) (d := .slice FA m fc) (e := .slice LA ln lc) (f := .int .i64 last) (g := .slice A5 (n + 1) c5) own3.out (by omega))
      obtain ⟨W9, hW9⟩ : ∃ u, ((((((w5.setCell ⟨p + 1, 0, none⟩ (.slice PA np pc)).setCell ⟨p + 1, 1, none⟩ (.int .i64 r0)).setCell ⟨p + 1, 2, none⟩ (.slice FA m fc)).setCell ⟨p + 1, 3, none⟩ (.slice LA ln lc)).setCell ⟨p + 1, 4, none⟩ (.int .i64 last)).setCell ⟨p + 1, 5, none⟩ (.slice A5 (n + 1) c5)) = u := ⟨_, rfl⟩
      rw [hW9] at Q bF OF O3 ⊢
      have q0 := Q.out.at_ 0 (by simp)
      have q1 := Q.out.at_ 1 (by simp)
      have q2 := Q.out.at_ 2 (by simp)
      have q3 := Q.out.at_ 3 (by simp)
      have q4 := Q.out.at_ 4 (by simp)
      have q5 := Q.out.at_ 5 (by simp)
      simp only [List.getElem?_cons_succ, List.getElem?_cons_zero] at q0 q1 q2 q3 q4 q5
      go_wp2_with fail
      refine bodyPost_ret (v := .tuple #[.agg #[.slice PA np pc, .int .i64 r0, .slice FA m fc, .slice LA ln lc, .int .i64 last, .slice A5 (n + 1) c5], .int .i64 0]) (by simp [results, Tryd.results18, go_sem, q0, q1, q2, q3, q4, q5]) rfl ?_
      have hz := bw.size
      exact .inr ⟨by rw [HR.out]; simp, .inr ⟨by omega, A5, c5, _, rfl, Lib.hid rfl, Lib.hid ⟨own_base OF.out hz, fun y hy => by
        rcases List.mem_append.1 hy with hy | hy
        · exact (C.out.dat y hy).nx bF
        · obtain rfl := List.mem_singleton.1 hy
          exact ⟨by rw [← KN.out]; exact Rd.of_own O3.out, Rd.nil_ _ _⟩⟩, Lib.hid fun g e => by
        rcases e with e | e
        · exact Nat.le_trans hz (own_blk_le O3.out e).1
        · cases e⟩, bF⟩
end
end Go.Proofs.YtpmkohnljngbhaaDoor.Sr
