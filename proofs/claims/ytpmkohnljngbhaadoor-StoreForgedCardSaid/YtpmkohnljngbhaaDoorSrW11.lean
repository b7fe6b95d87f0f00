/- Walks: Delete. -/
import Derived.Test.YtpmkohnljngbhaaDoorSrW9
import Derived.Test.YtpmkohnljngbhaaDoorSrW10
namespace Go.Proofs.YtpmkohnljngbhaaDoor.Sr
set_option linter.unusedVariables false
set_option linter.unusedSimpArgs false
set_option maxRecDepth 1000000
open Go.RowKit Wl Pg
section
variable {PA FA LA : Option Addr} {np pc m fc ln lc : Nat} {r0 last : Int} {f : FV} {log : List UInt8}
theorem sDel_no {A K : Option Addr} {n c kn kc : Nat} {l : List CV} (w : World) (G : Hid (Gl w)) (H : Hid (Sto w f log PA np pc r0 FA m fc LA ln lc)) (C : Hid (Cr w A n c l)) (h : Hid (keyN kn = true → ¬ Wvd f log last l)) :
    Calls Tryd.prog 18 #[.agg #[.slice PA np pc, .int .i64 r0, .slice FA m fc, .slice LA ln lc, .int .i64 last, .slice A n c], .slice K kn kc] w fun e w' => e = .returned (.tuple #[.agg #[.slice none 0 0, .int .i64 0, .slice none 0 0, .slice none 0 0, .int .i64 0, .slice none 0 0], .int .i64 (if keyN kn = true then 16 else 1)]) ∧ Below w.heap.size w w' := by
  obtain ⟨p, hp⟩ : ∃ p, w.heap.size = p := ⟨_, rfl⟩
  obtain ⟨W1, hW1⟩ : ∃ W1, w.alloc (.cells #[.slice PA np pc, .int .i64 r0, .slice FA m fc, .slice LA ln lc, .int .i64 last, .slice A n c] 48) = W1 := ⟨_, rfl⟩
  have bw : Below w.heap.size w W1 := hW1 ▸ bal _ _
  have X : Hid (Bx W1 p [.slice PA np pc, .int .i64 r0, .slice FA m fc, .slice LA ln lc, .int .i64 last, .slice A n c]) := hW1 ▸ Lib.hid (Bx.put _ hp #[.slice PA np pc, .int .i64 r0, .slice FA m fc, .slice LA ln lc, .int .i64 last, .slice A n c] 48)
  have TX : Hid (Ty W1 p 48) := hW1 ▸ hp ▸ Lib.hid (Ty.new _ _ _)
  have HW1 := Lib.hid hW1
  clear hW1
  obtain ⟨R, hR⟩ : ∃ R, W1.heap.size = R := ⟨_, rfl⟩
  obtain ⟨W2, hW2⟩ : ∃ W2, W1.alloc (.cells #[.slice none 0 0, .int .i64 0, .slice none 0 0, .slice none 0 0, .int .i64 0, .slice none 0 0] 48) = W2 := ⟨_, rfl⟩
  have v2 : Below W1.heap.size W1 W2 := hW2 ▸ bal _ _
  have Y : Hid (Bx W2 R [.slice none 0 0, .int .i64 0, .slice none 0 0, .slice none 0 0, .int .i64 0, .slice none 0 0]) := hW2 ▸ Lib.hid (Bx.put _ hR #[.slice none 0 0, .int .i64 0, .slice none 0 0, .slice none 0 0, .int .i64 0, .slice none 0 0] 48)
  have TY : Hid (Ty W2 R 48) := hW2 ▸ hR ▸ Lib.hid (Ty.new _ _ _)
  have HW2 := Lib.hid hW2
  clear hW2
  have hR' : w.heap.size ≤ R := by rw [← hR]; exact bw.size
  have eR : R = p + 1 := by rw [← hR, ← HW1.out, ← hp]; simp
  subst eR
  have X := Lib.hid (X.out.nx v2)
  have bw := bw.trans (v2.mono bw.size)
  have x0 := X.out.at_ 0 (by simp)
  have x1 := X.out.at_ 1 (by simp)
  have x2 := X.out.at_ 2 (by simp)
  have x3 := X.out.at_ 3 (by simp)
  have x4 := X.out.at_ 4 (by simp)
  have x5 := X.out.at_ 5 (by simp)
  simp only [List.getElem?_cons_succ, List.getElem?_cons_zero] at x0 x1 x2 x3 x4 x5
  have GT := Lib.hid (sGet_no (last := last) (K := K) (kc := kc) W2 (Lib.hid (G.out.nx bw)) (Lib.hid (H.out.nx bw)) (Lib.hid (C.out.nx bw)) h)
  obtain ⟨er, her⟩ : ∃ er : Int, (if keyN kn = true then (16 : Int) else 1) = er := ⟨_, rfl⟩
  have hne : (er != 0) = true := by rw [← her]; split <;> rfl
  rw [her] at GT ⊢
  clear her h
  go_enter Tryd.func18, Tryd.ntmps18
  go_upto_region 1 with fail
  rw [HW1.out, HW2.out]
  go_wp2_with fail
  go_at_call 21
  refine GT.out.mono ?_
  rintro e w2 ⟨rfl, b2⟩
  clear x0 x1 x2 x3 x4 x5 GT
  replace bw := bw.trans (b2.mono bw.size)
  replace X := Lib.hid (X.out.nx b2)
  replace Y := Lib.hid (Y.out.nx b2)
  have y0 := Y.out.at_ 0 (by simp)
  have y1 := Y.out.at_ 1 (by simp)
  have y2 := Y.out.at_ 2 (by simp)
  have y3 := Y.out.at_ 3 (by simp)
  have y4 := Y.out.at_ 4 (by simp)
  have y5 := Y.out.at_ 5 (by simp)
  simp only [List.getElem?_cons_succ, List.getElem?_cons_zero] at y0 y1 y2 y3 y4 y5
  have f0 := Y.out.fz 0 (by simp)
  have f1 := Y.out.fz 1 (by simp)
  have f2 := Y.out.fz 2 (by simp)
  have f3 := Y.out.fz 3 (by simp)
  have f4 := Y.out.fz 4 (by simp)
  have f5 := Y.out.fz 5 (by simp)
  have Q := Lib.hid (res6_cells Y.out rfl (.slice none 0 0) (.int .i64 0) (.slice none 0 0) (.slice none 0 0) (.int .i64 0) (.slice none 0 0))
  have bF := res6_below (a := .slice none 0 0) (b := .int .i64 0) (c := .slice none 0 0) (d := .slice none 0 0) (e := .int .i64 0) (g := .slice none 0 0) bw hR'
  go_wp2_with fail
  obtain ⟨W9, hW9⟩ : ∃ u, ((((((w2.setCell ⟨p + 1, 0, none⟩ (.slice none 0 0)).setCell ⟨p + 1, 1, none⟩ (.int .i64 0)).setCell ⟨p + 1, 2, none⟩ (.slice none 0 0)).setCell ⟨p + 1, 3, none⟩ (.slice none 0 0)).setCell ⟨p + 1, 4, none⟩ (.int .i64 0)).setCell ⟨p + 1, 5, none⟩ (.slice none 0 0)) = u := ⟨_, rfl⟩
  rw [hW9] at Q bF ⊢
  have q0 := Q.out.at_ 0 (by simp)
  have q1 := Q.out.at_ 1 (by simp)
  have q2 := Q.out.at_ 2 (by simp)
  have q3 := Q.out.at_ 3 (by simp)
  have q4 := Q.out.at_ 4 (by simp)
  have q5 := Q.out.at_ 5 (by simp)
  simp only [List.getElem?_cons_succ, List.getElem?_cons_zero] at q0 q1 q2 q3 q4 q5
  refine bodyPost_ret (v := .tuple #[.agg #[.slice none 0 0, .int .i64 0, .slice none 0 0, .slice none 0 0, .int .i64 0, .slice none 0 0], .int .i64 er]) (by simp [results, Tryd.results18, go_sem, q0, q1, q2, q3, q4, q5]) rfl ?_
  exact ⟨rfl, bF⟩
def DlPost (w : World) (PA : Option Addr) (np pc : Nat) (r0 : Int) (FA : Option Addr) (m fc : Nat) (LA : Option Addr) (ln lc : Nat) (last : Int) (n : Nat) (l : List CV) (key : List UInt8) (o : Option (List UInt8)) (e : Ending) (w' : World) : Prop :=
  (o = none ∧ e = .returned (.tuple #[.agg #[.slice none 0 0, .int .i64 0, .slice none 0 0, .slice none 0 0, .int .i64 0, .slice none 0 0], .int .i64 7]) ∧ Below w.heap.size w w') ∨ (o ≠ none ∧ PtPost w PA np pc r0 FA m fc LA ln lc last n l ⟨key, [], true⟩ e w')
set_option maxHeartbeats 3200000 in
theorem sDel_ok {A K : Option Addr} {n c kn kc : Nat} {l : List CV} {key : List UInt8} {b : Ent} {L : List (List Ch)} (w : World) (G : Hid (Gl w)) (H : Hid (Sto w f log PA np pc r0 FA m fc LA ln lc)) (HE : Hid (Fent f.f b)) (HT : Hid (trx log last = some L)) (C : Hid (Cr w A n c l)) (V : Hid (Wvd f log last l))
    (hk : Hid (Rd w 1 K kn kc (bv key))) (h : keyN kn = true) :
    Calls Tryd.prog 18 #[.agg #[.slice PA np pc, .int .i64 r0, .slice FA m fc, .slice LA ln lc, .int .i64 last, .slice A n c], .slice K kn kc] w (DlPost w PA np pc r0 FA m fc LA ln lc last n l key (app b (L.flatten ++ l.map CV.ch) key)) := by
  obtain ⟨p, hp⟩ : ∃ p, w.heap.size = p := ⟨_, rfl⟩
  obtain ⟨W1, hW1⟩ : ∃ W1, w.alloc (.cells #[.slice PA np pc, .int .i64 r0, .slice FA m fc, .slice LA ln lc, .int .i64 last, .slice A n c] 48) = W1 := ⟨_, rfl⟩
  have bw : Below w.heap.size w W1 := hW1 ▸ bal _ _
  have X : Hid (Bx W1 p [.slice PA np pc, .int .i64 r0, .slice FA m fc, .slice LA ln lc, .int .i64 last, .slice A n c]) := hW1 ▸ Lib.hid (Bx.put _ hp #[.slice PA np pc, .int .i64 r0, .slice FA m fc, .slice LA ln lc, .int .i64 last, .slice A n c] 48)
  have TX : Hid (Ty W1 p 48) := hW1 ▸ hp ▸ Lib.hid (Ty.new _ _ _)
  have HW1 := Lib.hid hW1
  clear hW1
  obtain ⟨R, hR⟩ : ∃ R, W1.heap.size = R := ⟨_, rfl⟩
  obtain ⟨W2, hW2⟩ : ∃ W2, W1.alloc (.cells #[.slice none 0 0, .int .i64 0, .slice none 0 0, .slice none 0 0, .int .i64 0, .slice none 0 0] 48) = W2 := ⟨_, rfl⟩
  have v2 : Below W1.heap.size W1 W2 := hW2 ▸ bal _ _
  have Y : Hid (Bx W2 R [.slice none 0 0, .int .i64 0, .slice none 0 0, .slice none 0 0, .int .i64 0, .slice none 0 0]) := hW2 ▸ Lib.hid (Bx.put _ hR #[.slice none 0 0, .int .i64 0, .slice none 0 0, .slice none 0 0, .int .i64 0, .slice none 0 0] 48)
  have TY : Hid (Ty W2 R 48) := hW2 ▸ hR ▸ Lib.hid (Ty.new _ _ _)
  have HW2 := Lib.hid hW2
  clear hW2
  have hR' : w.heap.size ≤ R := by rw [← hR]; exact bw.size
  have eR : R = p + 1 := by rw [← hR, ← HW1.out, ← hp]; simp
  subst eR
  have X := Lib.hid (X.out.nx v2)
  have bw := bw.trans (v2.mono bw.size)
  have KN := Lib.hid (rd_bytes hk.out)
  have NL := Lib.hid C.out.len
  have n1 : n ≤ 100 := by have := V.out.1; have := NL.out; omega
  have k1 : kn ≤ 40 := by have := h; unfold keyN at this; have := of_decide_eq_true this; omega
  have x0 := X.out.at_ 0 (by simp)
  have x1 := X.out.at_ 1 (by simp)
  have x2 := X.out.at_ 2 (by simp)
  have x3 := X.out.at_ 3 (by simp)
  have x4 := X.out.at_ 4 (by simp)
  have x5 := X.out.at_ 5 (by simp)
  simp only [List.getElem?_cons_succ, List.getElem?_cons_zero] at x0 x1 x2 x3 x4 x5
  have GT := Lib.hid (sGet_ok (last := last) W2 (Lib.hid (G.out.nx bw)) (Lib.hid (H.out.nx bw)) HE HT (Lib.hid (C.out.nx bw)) V (Lib.hid (hk.out.nx bw)) h)
  obtain ⟨o, ho⟩ : ∃ o, app b (L.flatten ++ l.map CV.ch) key = o := ⟨_, rfl⟩
  rw [ho] at GT ⊢
  clear h ho
  go_enter Tryd.func18, Tryd.ntmps18
  go_upto_region 1 with fail
  rw [HW1.out, HW2.out]
  go_wp2_with fail
  go_at_call 21
  refine GT.out.mono ?_
  rintro e w2 ⟨A5, n5, c5, er, rfl, hres, b2⟩
  clear x0 x1 x2 x3 x4 x5 GT
  replace bw := bw.trans (b2.mono bw.size)
  replace X := Lib.hid (X.out.nx b2)
  replace Y := Lib.hid (Y.out.nx b2)
  have C2 := Lib.hid (C.out.nx bw)
  have x0 := X.out.at_ 0 (by simp)
  have x1 := X.out.at_ 1 (by simp)
  have x2 := X.out.at_ 2 (by simp)
  have x3 := X.out.at_ 3 (by simp)
  have x4 := X.out.at_ 4 (by simp)
  have x5 := X.out.at_ 5 (by simp)
  simp only [List.getElem?_cons_succ, List.getElem?_cons_zero] at x0 x1 x2 x3 x4 x5
  have y0 := Y.out.at_ 0 (by simp)
  have y1 := Y.out.at_ 1 (by simp)
  have y2 := Y.out.at_ 2 (by simp)
  have y3 := Y.out.at_ 3 (by simp)
  have y4 := Y.out.at_ 4 (by simp)
  have y5 := Y.out.at_ 5 (by simp)
  simp only [List.getElem?_cons_succ, List.getElem?_cons_zero] at y0 y1 y2 y3 y4 y5
  have f0 := Y.out.fz 0 (by simp)
  have f1 := Y.out.fz 1 (by simp)
  have f2 := Y.out.fz 2 (by simp)
  have f3 := Y.out.fz 3 (by simp)
  have f4 := Y.out.fz 4 (by simp)
  have f5 := Y.out.fz 5 (by simp)
  rcases hres with ⟨rfl, ho, _⟩ | ⟨rfl, d5, ho, _, _⟩
  · have HR := Lib.hid ho
    have Q := Lib.hid (res6_cells Y.out rfl (.slice none 0 0) (.int .i64 0) (.slice none 0 0) (.slice none 0 0) (.int .i64 0) (.slice none 0 0))
    have bF := res6_below (a := .slice none 0 0) (b := .int .i64 0) (c := .slice none 0 0) (d := .slice none 0 0) (e := .int .i64 0) (g := .slice none 0 0) bw hR'
    clear ho
    go_wp2_with fail
    obtain ⟨W9, hW9⟩ : ∃ u, ((((((w2.setCell ⟨p + 1, 0, none⟩ (.slice none 0 0)).setCell ⟨p + 1, 1, none⟩ (.int .i64 0)).setCell ⟨p + 1, 2, none⟩ (.slice none 0 0)).setCell ⟨p + 1, 3, none⟩ (.slice none 0 0)).setCell ⟨p + 1, 4, none⟩ (.int .i64 0)).setCell ⟨p + 1, 5, none⟩ (.slice none 0 0)) = u := ⟨_, rfl⟩
    rw [hW9] at Q bF ⊢
    have q0 := Q.out.at_ 0 (by simp)
    have q1 := Q.out.at_ 1 (by simp)
    have q2 := Q.out.at_ 2 (by simp)
    have q3 := Q.out.at_ 3 (by simp)
    have q4 := Q.out.at_ 4 (by simp)
    have q5 := Q.out.at_ 5 (by simp)
    simp only [List.getElem?_cons_succ, List.getElem?_cons_zero] at q0 q1 q2 q3 q4 q5
    refine bodyPost_ret (v := .tuple #[.agg #[.slice none 0 0, .int .i64 0, .slice none 0 0, .slice none 0 0, .int .i64 0, .slice none 0 0], .int .i64 7]) (by simp [results, Tryd.results18, go_sem, q0, q1, q2, q3, q4, q5]) rfl ?_
    exact .inl ⟨HR.out, rfl, bF⟩
  have HR := Lib.hid ho
  clear ho
  have KK : Hid (∀ U, Below w2.heap.size w2 U → Bx U p [.slice PA np pc, .int .i64 r0, .slice FA m fc, .slice LA ln lc, .int .i64 last, .slice A n c] ∧ Bx U (p + 1) [.slice none 0 0, .int .i64 0, .slice none 0 0, .slice none 0 0, .int .i64 0, .slice none 0 0]) := Lib.hid fun U hU => ⟨X.out.nx hU, Y.out.nx hU⟩
  have xl := X.out.lt
  have yl := Y.out.lt
  have VD : Hid (Below w2.heap.size w2 w2.drew) := Lib.hid (Below.refl _ _).drew
  have CK : Hid (∀ U, Below w2.heap.size w2 U → Calls Tryd.prog 44 #[.slice K kn kc] U (fun e w' => ∃ A' c', e = .returned (.slice A' kn c') ∧ Hid (w'.ownsRow w2.heap.size 5 1 (.slice A' kn c') kn (bv key)) ∧ Below U.heap.size U w' ∧ Below w2.heap.size w2 w')) := Lib.hid fun U hU =>
    (bclone_any U (Lib.hid ((hk.out.nx bw).nx hU)) (bv_one _) (by omega)).mono fun e w' ⟨A', c', he, ho, hb⟩ => ⟨A', c', he, Lib.hid (own_base ho.out hU.size), hb, hU.trans (hb.mono hU.size)⟩
  by_cases hc : 100 ≤ n
  · have CM : Hid (∀ U KA kc', Below w2.heap.size w2 U → Dt U ⟨KA, kc', key, none, 0, [], true⟩ → Calls Tryd.prog 43 #[.agg #[.slice PA np pc, .int .i64 r0, .slice FA m fc, .slice LA ln lc, .int .i64 last, .slice A n c], .agg #[.slice KA kn kc', .slice none 0 0, .bool true]] U (fun e w' => e = .returned (.tuple #[.agg #[.slice none 0 0, .int .i64 0, .slice none 0 0, .slice none 0 0, .int .i64 0, .slice none 0 0], .int .i64 5]) ∧ Below w2.heap.size w2 w')) := Lib.hid fun U KA kc' hU hD =>
      (smore_any U (Lib.hid (C2.out.nx hU)) (Lib.hid hD) KN (Lib.hid rfl) (by omega)).mono fun e w' ⟨h1, h2⟩ => by
        rcases h1 with ⟨_, he⟩ | ⟨h1, _⟩
        · exact ⟨he, hU.trans (h2.mono hU.size)⟩
        · omega
    go_wp2_with fail
    go_region_law
      (first
        | (go_simp
           go_at_call 44
           refine (CK.out _ VD.out).mono ?_
           rintro e w3 ⟨A3, c3, rfl, own3, b3, v3⟩
           obtain ⟨X3, _⟩ := KK.out _ v3
           have s0 := X3.at_ 0 (by simp)
           have s1 := X3.at_ 1 (by simp)
           have s2 := X3.at_ 2 (by simp)
           have s3 := X3.at_ 3 (by simp)
           have s4 := X3.at_ 4 (by simp)
           have s5 := X3.at_ 5 (by simp)
           simp only [List.getElem?_cons_succ, List.getElem?_cons_zero] at s0 s1 s2 s3 s4 s5
           have V3 := Lib.hid v3
           have w3l := v3.size
           clear b3 v3 X3
           dsimp only)
        | (go_simp
           go_at_call 43
           refine (CM.out _ _ _ V3.out ⟨by rw [← KN.out]; exact Rd.of_own own3.out, Rd.nil_ _ _⟩).mono ?_
           rintro e w5 ⟨rfl, v5⟩
           obtain ⟨_, Y5⟩ := KK.out _ v5
           have z0 := Y5.at_ 0 (by simp)
           have z1 := Y5.at_ 1 (by simp)
           have z2 := Y5.at_ 2 (by simp)
           have z3 := Y5.at_ 3 (by simp)
           have z4 := Y5.at_ 4 (by simp)
           have z5 := Y5.at_ 5 (by simp)
           simp only [List.getElem?_cons_succ, List.getElem?_cons_zero] at z0 z1 z2 z3 z4 z5
           have g0 := Y5.fz 0 (by simp)
           have g1 := Y5.fz 1 (by simp)
           have g2 := Y5.fz 2 (by simp)
           have g3 := Y5.fz 3 (by simp)
           have g4 := Y5.fz 4 (by simp)
           have g5 := Y5.fz 5 (by simp)
           have V5 := Lib.hid v5
           have Y5 := Lib.hid Y5
           clear v5
           dsimp only))
    all_goals
      have bw9 := bw.trans (V5.out.mono bw.size)
      have Q := Lib.hid (res6_cells Y5.out rfl (.slice none 0 0) (.int .i64 0) (.slice none 0 0) (.slice none 0 0) (.int .i64 0) (.slice none 0 0))
      have bF := res6_below (a := .slice none 0 0) (b := .int .i64 0) (c := .slice none 0 0) (d := .slice none 0 0) (e := .int .i64 0) (g := .slice none 0 0) bw9 hR'
      obtain ⟨W9, hW9⟩ : ∃ u, ((((((w5.setCell ⟨p + 1, 0, none⟩ (.slice none 0 0)).setCell ⟨p + 1, 1, none⟩ (.int .i64 0)).setCell ⟨p + 1, 2, none⟩ (.slice none 0 0)).setCell ⟨p + 1, 3, none⟩ (.slice none 0 0)).setCell ⟨p + 1, 4, none⟩ (.int .i64 0)).setCell ⟨p + 1, 5, none⟩ (.slice none 0 0)) = u := ⟨_, rfl⟩
      rw [hW9] at Q bF ⊢
      have q0 := Q.out.at_ 0 (by simp)
      have q1 := Q.out.at_ 1 (by simp)
      have q2 := Q.out.at_ 2 (by simp)
      have q3 := Q.out.at_ 3 (by simp)
      have q4 := Q.out.at_ 4 (by simp)
      have q5 := Q.out.at_ 5 (by simp)
      simp only [List.getElem?_cons_succ, List.getElem?_cons_zero] at q0 q1 q2 q3 q4 q5
      go_wp2_with fail
      refine bodyPost_ret (v := .tuple #[.agg #[.slice none 0 0, .int .i64 0, .slice none 0 0, .slice none 0 0, .int .i64 0, .slice none 0 0], .int .i64 5]) (by simp [results, Tryd.results18, go_sem, q0, q1, q2, q3, q4, q5]) rfl ?_
      exact .inr ⟨by rw [HR.out]; simp, .inl ⟨hc, rfl⟩, bF⟩
  · have CM : Hid (∀ U KA kc', Below w2.heap.size w2 U → Dt U ⟨KA, kc', key, none, 0, [], true⟩ → Calls Tryd.prog 43 #[.agg #[.slice PA np pc, .int .i64 r0, .slice FA m fc, .slice LA ln lc, .int .i64 last, .slice A n c], .agg #[.slice KA kn kc', .slice none 0 0, .bool true]] U (fun e w' => ∃ A' c', e = .returned (.tuple #[.agg #[.slice PA np pc, .int .i64 r0, .slice FA m fc, .slice LA ln lc, .int .i64 last, .slice A' (n + 1) c'], .int .i64 0]) ∧ Hid (w'.ownsRow w2.heap.size 45 3 (.slice A' (n + 1) c') (n + 1) (cvs (l ++ [⟨KA, kc', key, none, 0, [], true⟩]))) ∧ Below U.heap.size U w' ∧ Below w2.heap.size w2 w')) := Lib.hid fun U KA kc' hU hD =>
      (smore_any U (Lib.hid (C2.out.nx hU)) (Lib.hid hD) KN (Lib.hid rfl) (by omega)).mono fun e w' ⟨h1, h2⟩ => by
        rcases h1 with ⟨h1, _⟩ | ⟨_, A', c', he, ho⟩
        · omega
        · exact ⟨A', c', he, Lib.hid (own_base ho.out hU.size), h2, hU.trans (h2.mono hU.size)⟩
    go_wp2_with fail
    go_region_law
      (first
        | (go_simp
           go_at_call 44
           refine (CK.out _ VD.out).mono ?_
           rintro e w3 ⟨A3, c3, rfl, own3, b3, v3⟩
           obtain ⟨X3, _⟩ := KK.out _ v3
           have s0 := X3.at_ 0 (by simp)
           have s1 := X3.at_ 1 (by simp)
           have s2 := X3.at_ 2 (by simp)
           have s3 := X3.at_ 3 (by simp)
           have s4 := X3.at_ 4 (by simp)
           have s5 := X3.at_ 5 (by simp)
           simp only [List.getElem?_cons_succ, List.getElem?_cons_zero] at s0 s1 s2 s3 s4 s5
           have V3 := Lib.hid v3
           have w3l := v3.size
           clear b3 v3 X3
           dsimp only)
        | (go_simp
           go_at_call 43
           refine (CM.out _ _ _ V3.out ⟨by rw [← KN.out]; exact Rd.of_own own3.out, Rd.nil_ _ _⟩).mono ?_
           rintro e w5 ⟨A5, c5, rfl, own5, b5, v5⟩
           obtain ⟨_, Y5⟩ := KK.out _ v5
           have z0 := Y5.at_ 0 (by simp)
           have z1 := Y5.at_ 1 (by simp)
           have z2 := Y5.at_ 2 (by simp)
           have z3 := Y5.at_ 3 (by simp)
           have z4 := Y5.at_ 4 (by simp)
           have z5 := Y5.at_ 5 (by simp)
           simp only [List.getElem?_cons_succ, List.getElem?_cons_zero] at z0 z1 z2 z3 z4 z5
           have g0 := Y5.fz 0 (by simp)
           have g1 := Y5.fz 1 (by simp)
           have g2 := Y5.fz 2 (by simp)
           have g3 := Y5.fz 3 (by simp)
           have g4 := Y5.fz 4 (by simp)
           have g5 := Y5.fz 5 (by simp)
           have own3 := Lib.hid (own_below own3.out b5)
           have V5 := Lib.hid v5
           have Y5 := Lib.hid Y5
           clear v5 b5
           dsimp only))
    all_goals
      have bw9 := bw.trans (V5.out.mono bw.size)
      have Q := Lib.hid (res6_cells Y5.out rfl (.slice PA np pc) (.int .i64 r0) (.slice FA m fc) (.slice LA ln lc) (.int .i64 last) (.slice A5 (n + 1) c5))
      have bF := res6_below (a := .slice PA np pc) (b := .int .i64 r0) (c := .slice FA m fc) (d := .slice LA ln lc) (e := .int .i64 last) (g := .slice A5 (n + 1) c5) bw9 hR'
      have OF := Lib.hid (own_res6 (R := p + 1) (a := .slice PA np pc) (b := .int .i64 r0) (d := .slice FA m fc) (e := .slice LA ln lc) (f := .int .i64 last) (g := .slice A5 (n + 1) c5) own5.out (by omega))
      have O3 := Lib.hid (own_res6 (R := p + 1) (a := .slice PA np pc) (b := .int .i64 r0) (d := .slice FA m fc) (e := .slice LA ln lc) (f := .int .i64 last) (g := .slice A5 (n + 1) c5) own3.out (by omega))
      obtain ⟨W9, hW9⟩ : ∃ u, ((((((w5.setCell ⟨p + 1, 0, none⟩ (.slice PA np pc)).setCell ⟨p + 1, 1, none⟩ (.int .i64 r0)).setCell ⟨p + 1, 2, none⟩ (.slice FA m fc)).setCell ⟨p + 1, 3, none⟩ (.slice LA ln lc)).setCell ⟨p + 1, 4, none⟩ (.int .i64 last)).setCell ⟨p + 1, 5, none⟩ (.slice A5 (n + 1) c5)) = u := ⟨_, rfl⟩
      rw [hW9] at Q bF OF O3 ⊢
      have q0 := Q.out.at_ 0 (by simp)
      have q1 := Q.out.at_ 1 (by simp)
      have q2 := Q.out.at_ 2 (by simp)
      have q3 := Q.out.at_ 3 (by simp)
      have q4 := Q.out.at_ 4 (by simp)
      have q5 := Q.out.at_ 5 (by simp)
      simp only [List.getElem?_cons_succ, List.getElem?_cons_zero] at q0 q1 q2 q3 q4 q5
      go_wp2_with fail
      refine bodyPost_ret (v := .tuple #[.agg #[.slice PA np pc, .int .i64 r0, .slice FA m fc, .slice LA ln lc, .int .i64 last, .slice A5 (n + 1) c5], .int .i64 0]) (by simp [results, Tryd.results18, go_sem, q0, q1, q2, q3, q4, q5]) rfl ?_
      have hz := bw.size
      exact .inr ⟨by rw [HR.out]; simp, .inr ⟨by omega, A5, c5, _, rfl, Lib.hid rfl, Lib.hid ⟨own_base OF.out hz, fun y hy => by
        rcases List.mem_append.1 hy with hy | hy
        · exact (C.out.dat y hy).nx bF
        · obtain rfl := List.mem_singleton.1 hy
          exact ⟨by rw [← KN.out]; exact Rd.of_own O3.out, Rd.nil_ _ _⟩⟩, Lib.hid fun g e => by
        rcases e with e | e
        · exact Nat.le_trans hz (own_blk_le O3.out e).1
        · cases e⟩, bF⟩
end
end Go.Proofs.YtpmkohnljngbhaaDoor.Sr
