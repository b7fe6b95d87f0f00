/- Walks: Get. -/
import Derived.Test.YtpmkohnljngbhaaDoorSrW7
namespace Go.Proofs.YtpmkohnljngbhaaDoor.Sr
set_option linter.unusedVariables false
set_option linter.unusedSimpArgs false
set_option maxRecDepth 1000000
open Go.RowKit Wl Pg
section
variable {PA FA LA : Option Addr} {np pc m fc ln lc : Nat} {r0 last : Int} {f : FV} {log : List UInt8}
theorem sGet_no {A K : Option Addr} {n c kn kc : Nat} {l : List CV} (w : World) (G : Hid (Gl w)) (H : Hid (Sto w f log PA np pc r0 FA m fc LA ln lc)) (C : Hid (Cr w A n c l)) (h : Hid (keyN kn = true → ¬ Wvd f log last l)) :
    Calls Tryd.prog 21 #[.agg #[.slice PA np pc, .int .i64 r0, .slice FA m fc, .slice LA ln lc, .int .i64 last, .slice A n c], .slice K kn kc] w fun e w' => e = .returned (.tuple #[.slice none 0 0, .int .i64 (if keyN kn = true then 16 else 1)]) ∧ Below w.heap.size w w' := by
  obtain ⟨p, hp⟩ : ∃ p, w.heap.size = p := ⟨_, rfl⟩
  obtain ⟨W1, hW1⟩ : ∃ W1, w.alloc (.cells #[.slice PA np pc, .int .i64 r0, .slice FA m fc, .slice LA ln lc, .int .i64 last, .slice A n c] 48) = W1 := ⟨_, rfl⟩
  have bw : Below w.heap.size w W1 := hW1 ▸ bal _ _
  have X : Hid (Bx W1 p [.slice PA np pc, .int .i64 r0, .slice FA m fc, .slice LA ln lc, .int .i64 last, .slice A n c]) := hW1 ▸ Lib.hid (Bx.put _ hp #[.slice PA np pc, .int .i64 r0, .slice FA m fc, .slice LA ln lc, .int .i64 last, .slice A n c] 48)
  have TX : Hid (Ty W1 p 48) := hW1 ▸ hp ▸ Lib.hid (Ty.new _ _ _)
  have HW1 := Lib.hid hW1
  clear hW1
  have x0 := X.out.at_ 0 (by simp)
  have x1 := X.out.at_ 1 (by simp)
  have x2 := X.out.at_ 2 (by simp)
  have x3 := X.out.at_ 3 (by simp)
  have x4 := X.out.at_ 4 (by simp)
  have x5 := X.out.at_ 5 (by simp)
  simp only [List.getElem?_cons_succ, List.getElem?_cons_zero] at x0 x1 x2 x3 x4 x5
  have K1 := isKey_any (A := K) (n := kn) (c := kc) W1
  have SW := Lib.hid (sWork_any (last := last) W1 (Lib.hid (G.out.nx bw)) (Lib.hid (H.out.nx bw)) (Lib.hid (C.out.nx bw)))
  have h := Lib.hid h.out
  cases hk : keyN kn with
  | false =>
    rw [hk] at K1
    clear hk h
    rw [if_neg (by simp)]
    go_enter Tryd.func21, Tryd.ntmps21
    go_upto_region 1 with fail
    rw [HW1.out]
    go_wp2_with fail
    go_at_call 39
    refine K1.mono ?_
    rintro e w' ⟨rfl, rfl⟩
    go_wp2_with fail
    go_ret2
    exact ⟨rfl, bw⟩
  | true =>
    rw [hk] at K1
    have h := Lib.hid (h.out hk)
    clear hk
    rw [if_pos (by rfl)]
    go_enter Tryd.func21, Tryd.ntmps21
    go_upto_region 1 with fail
    rw [HW1.out]
    go_wp2_with fail
    go_at_call 39
    refine K1.mono ?_
    rintro e w' ⟨rfl, rfl⟩
    clear K1
    go_wp2_with fail
    go_at_call 46
    refine SW.out.mono ?_
    rintro e w2 ⟨b, rfl, hb, b2⟩
    have hbf : b = false := by
      cases b with
      | false => rfl
      | true => exact absurd (hb.1 rfl) h.out
    subst hbf
    have bF := bw.trans (b2.mono bw.size)
    clear hb
    go_wp2_with fail
    go_ret2
    exact ⟨rfl, bF⟩
set_option maxHeartbeats 3200000 in
theorem sGet_ok {A K : Option Addr} {n c kn kc : Nat} {l : List CV} {key : List UInt8} {b : Ent} {L : List (List Ch)} (w : World) (G : Hid (Gl w)) (H : Hid (Sto w f log PA np pc r0 FA m fc LA ln lc)) (HE : Hid (Fent f.f b)) (HT : Hid (trx log last = some L)) (C : Hid (Cr w A n c l)) (V : Hid (Wvd f log last l))
    (hk : Hid (Rd w 1 K kn kc (bv key))) (h : keyN kn = true) :
    Calls Tryd.prog 21 #[.agg #[.slice PA np pc, .int .i64 r0, .slice FA m fc, .slice LA ln lc, .int .i64 last, .slice A n c], .slice K kn kc] w (FdPost w (app b (L.flatten ++ l.map CV.ch) key)) := by
  obtain ⟨i0, hi, hz0, hz1, hz2⟩ := info_parts info_change
  obtain ⟨p, hp⟩ : ∃ p, w.heap.size = p := ⟨_, rfl⟩
  obtain ⟨W1, hW1⟩ : ∃ W1, w.alloc (.cells #[.slice PA np pc, .int .i64 r0, .slice FA m fc, .slice LA ln lc, .int .i64 last, .slice A n c] 48) = W1 := ⟨_, rfl⟩
  have bw : Below w.heap.size w W1 := hW1 ▸ bal _ _
  have X : Hid (Bx W1 p [.slice PA np pc, .int .i64 r0, .slice FA m fc, .slice LA ln lc, .int .i64 last, .slice A n c]) := hW1 ▸ Lib.hid (Bx.put _ hp #[.slice PA np pc, .int .i64 r0, .slice FA m fc, .slice LA ln lc, .int .i64 last, .slice A n c] 48)
  have TX : Hid (Ty W1 p 48) := hW1 ▸ hp ▸ Lib.hid (Ty.new _ _ _)
  have HW1 := Lib.hid hW1
  clear hW1
  have x0 := X.out.at_ 0 (by simp)
  have x1 := X.out.at_ 1 (by simp)
  have x2 := X.out.at_ 2 (by simp)
  have x3 := X.out.at_ 3 (by simp)
  have x4 := X.out.at_ 4 (by simp)
  have x5 := X.out.at_ 5 (by simp)
  simp only [List.getElem?_cons_succ, List.getElem?_cons_zero] at x0 x1 x2 x3 x4 x5
  have KN := Lib.hid (rd_bytes hk.out)
  have LK : Hid (lenK key) := Lib.hid ((lenK_keyN KN.out).2 h)
  have NL := Lib.hid C.out.len
  have n1 : n ≤ 100 := by have := V.out.1; have := NL.out; omega
  have K1 := isKey_any (A := K) (n := kn) (c := kc) W1
  rw [h] at K1
  clear h
  have SW := Lib.hid (sWork_any (last := last) W1 (Lib.hid (G.out.nx bw)) (Lib.hid (H.out.nx bw)) (Lib.hid (C.out.nx bw)))
  go_enter Tryd.func21, Tryd.ntmps21
  go_upto_region 1 with fail
  rw [HW1.out]
  go_wp2_with fail
  go_at_call 39
  refine K1.mono ?_
  rintro e w' ⟨rfl, rfl⟩
  clear K1
  go_wp2_with fail
  go_at_call 46
  refine SW.out.mono ?_
  rintro e w2 ⟨bb, rfl, hb, b2⟩
  obtain rfl : bb = true := hb.2 V.out
  clear hb x0 x1 x2 x3 x4 x5 SW
  replace bw := bw.trans (b2.mono bw.size)
  replace X := Lib.hid (X.out.nx b2)
  have C2 := Lib.hid (C.out.nx bw)
  have H2 := Lib.hid (H.out.nx bw)
  have G2 := Lib.hid (G.out.nx bw)
  have K2 := Lib.hid (hk.out.nx bw)
  have KK : Hid (∀ U, Below w2.heap.size w2 U → U.cell? ⟨p, 0, none⟩ = some (.slice PA np pc) ∧ U.cell? ⟨p, 1, none⟩ = some (.int .i64 r0) ∧ U.cell? ⟨p, 2, none⟩ = some (.slice FA m fc) ∧ U.cell? ⟨p, 3, none⟩ = some (.slice LA ln lc) ∧ U.cell? ⟨p, 4, none⟩ = some (.int .i64 last) ∧ U.cell? ⟨p, 5, none⟩ = some (.slice A n c)) := Lib.hid fun U hU => by
    have X := Lib.hid (X.out.nx hU)
    have x0 := X.out.at_ 0 (by simp)
    have x1 := X.out.at_ 1 (by simp)
    have x2 := X.out.at_ 2 (by simp)
    have x3 := X.out.at_ 3 (by simp)
    have x4 := X.out.at_ 4 (by simp)
    have x5 := X.out.at_ 5 (by simp)
    simp only [List.getElem?_cons_succ, List.getElem?_cons_zero] at x0 x1 x2 x3 x4 x5
    exact ⟨x0, x1, x2, x3, x4, x5⟩
  have vd : Below w2.heap.size w2 w2.drew := (Below.refl _ _).drew
  have l0 := V.out.2.1.1
  have l1 := V.out.2.1.2.1
  have CH : Hid (∀ U, Below w2.heap.size w2 U → Calls Tryd.prog 41 #[.agg #[.slice PA np pc, .int .i64 r0, .slice FA m fc, .slice LA ln lc, .int .i64 last]] U (CsPost U L.flatten)) := Lib.hid fun U hU => changes_any U (Lib.hid (H2.out.nx hU)) l0 l1 HT
  have CF : Hid (∀ U (A' : Option Addr) (n' c' : Nat) (l' : List CV), Below w2.heap.size w2 U → Hid (l'.map CV.ch = L.flatten) → Hid (Cr U A' n' c' (l' ++ l)) → n' ≤ 1000000 → Calls Tryd.prog 40 #[.agg #[.slice PA np pc, .int .i64 r0, .slice FA m fc], .slice A' n' c', .slice K kn kc] U (FdPost U (app b (L.flatten ++ l.map CV.ch) key))) := Lib.hid fun U A' n' c' l' hU hl hC hn => by
    have := sfind_any H2.out.cs U (Lib.hid (G2.out.nx hU)) (Lib.hid (H2.out.fl.below hU)) HE hC (by omega) (Lib.hid fun x hx => by
      rcases List.mem_append.1 hx with hx | hx
      · exact flat_ok HT.out hl.out x hx
      · exact V.out.2.2 x hx) (Lib.hid (K2.out.nx hU)) LK
    rwa [List.map_append, hl.out] at this
  clear l0 l1
  go_wp2_with fail
  go_region_held3 (fun w' => w'.cell? ⟨p, 0, none⟩ = some (.slice PA np pc) ∧ w'.cell? ⟨p, 1, none⟩ = some (.int .i64 r0) ∧ w'.cell? ⟨p, 2, none⟩ = some (.slice FA m fc) ∧ w'.cell? ⟨p, 3, none⟩ = some (.slice LA ln lc) ∧ w'.cell? ⟨p, 4, none⟩ = some (.int .i64 last) ∧ w'.cell? ⟨p, 5, none⟩ = some (.slice A n c))
    (first | exact kk1 | exact kk2 | exact kk3 | exact KK.out _ vd)
    (first
      | (go_at_call 41; refine (CH.out _ vd).mono ?_; rintro e w3 ⟨A3, n3, c3, l3, rfl, hl3, co3, hn3, b3, u, bu, bu3, ow3⟩; have v3 := vd.trans (b3.mono vd.size); have kk1 := KK.out _ v3; have vu := vd.trans (bu.mono vd.size))
      | (refine step_app (news := cvs l) _ (by rfl) (.tmp 19) (.tmp 21) 36 (by rfl) u.heap.size 45 i0 (.agg #[.slice none 0 0, .slice none 0 0, .bool false]) 3 56 Tryd.underlying36 hi hz0 hz1 hz2 rfl (by omega) (by rfl) ow3.out.1 (by rfl) (C2.out.nx v3).row (cvs_one _) (by omega) (by omega) bu3.size ?_
         intro A4 c4 W4 own4 g4
         have bu4 : Below u.heap.size u W4 := g4.low bu3 bu3.size fun g e => (own_blk_le ow3.out.1 e).1
         have v4 : Below w2.heap.size w2 W4 := vu.trans (bu4.mono vu.size)
         have kk2 := KK.out _ v4
         have C4 : Hid (Cr W4 A4 (n3 + n) c4 (l3 ++ l)) := Lib.hid ⟨by rw [cvs_app]; exact Rd.of_own own4, fun y hy => by
           rcases List.mem_append.1 hy with hy | hy
           · exact (ow3.out.2 y hy).nx bu4
           · exact (C2.out.dat y hy).nx v4⟩
         clear own4 g4)
      | (go_at_call 40; refine (CF.out _ _ _ _ _ v4 hl3 C4 (by omega)).mono ?_; rintro e w5 ⟨A5, n5, c5, er5, rfl, res5, b5⟩; have v5 := v4.trans (b5.mono v4.size); have kk3 := KK.out _ v5))
  have bF := bw.trans (v5.mono bw.size)
  clear kk1 kk2 kk3
  go_wp2_with fail
  go_ret2
  exact ⟨A5, n5, c5, er5, rfl, res5, bF⟩
end
end Go.Proofs.YtpmkohnljngbhaaDoor.Sr
