/- Plain facts about the transactions of a log; the entries of the empty file. -/
import Derived.Test.YtpmkohnljngbhaaDoorSrW6
import Derived.Test.YtpmkohnljngbhaaDoorSrF2
set_option linter.all false
namespace Go.Proofs.YtpmkohnljngbhaaDoor.Sr
set_option linter.unusedVariables false
set_option linter.unusedSimpArgs false
set_option maxRecDepth 1000000
open Go.RowKit Wl Pg

theorem tfold_okT {tx : Int} (l : List Rec) : ∀ {L : List (List Ch)} {op : List Ch} {t : Int}, tfold tx l = some (L, op, t) → (∀ cs ∈ L, okT cs) ∧ okT op := by
  refine snoc_ind (P := fun l => ∀ {L : List (List Ch)} {op : List Ch} {t : Int}, tfold tx l = some (L, op, t) → (∀ cs ∈ L, okT cs) ∧ okT op) ?_ ?_ l
  · intro L op t h
    simp only [tfold, List.foldl_nil, Option.some.injEq, Prod.mk.injEq] at h
    obtain ⟨rfl, rfl, _⟩ := h
    exact ⟨by simp, fun c hc => by cases hc⟩
  · intro l r ih L op t h
    rw [tfold_snoc] at h
    rcases hf : tfold tx l with _ | ⟨L0, o0, t0⟩
    · rw [hf] at h; cases h
    · have := ih hf
      rw [hf] at h
      unfold tstp at h
      simp only [Option.bind_some] at h
      split at h
      · cases h
      · split at h
        · simp only [Option.some.injEq, Prod.mk.injEq] at h
          obtain ⟨rfl, rfl, _⟩ := h
          refine ⟨fun cs hcs => ?_, fun c hc => by cases hc⟩
          rcases List.mem_append.1 hcs with h | h
          · exact this.1 cs h
          · obtain rfl : cs = o0 := by simpa using h
            exact this.2
        · rcases hc : chR r with _ | c
          · rw [hc] at h; cases h
          · rw [hc] at h
            simp only [Option.map_some, Option.some.injEq, Prod.mk.injEq] at h
            obtain ⟨rfl, rfl, _⟩ := h
            refine ⟨this.1, fun x hx => ?_⟩
            rcases List.mem_append.1 hx with h | h
            · exact this.2 x h
            · obtain rfl : x = c := by simpa using h
              exact chR_ok hc
theorem trx_okT {log : List UInt8} {last : Int} {L : List (List Ch)} (h : trx log last = some L) : ∀ cs ∈ L, okT cs := by
  obtain ⟨_, _, _, op, tx, hf⟩ := trx_ok h
  exact (tfold_okT _ hf).1
theorem flat_ok {log : List UInt8} {last : Int} {L : List (List Ch)} {l : List CV} (h : trx log last = some L) (hl : l.map CV.ch = L.flatten) : ∀ x ∈ l, x.ch.ok = true := by
  intro x hx
  have : x.ch ∈ L.flatten := by rw [← hl]; exact List.mem_map_of_mem hx
  obtain ⟨cs, hcs, hx⟩ := List.mem_flatten.1 this
  exact trx_okT h cs hcs _ hx
theorem lenK_keyN {key : List UInt8} {kn : Nat} (h : kn = key.length) : lenK key ↔ keyN kn = true := by
  unfold lenK keyN; rw [decide_eq_true_iff, h]
theorem rd_bytes {w : World} {A : Option Addr} {n c : Nat} {l : List UInt8} (h : Rd w 1 A n c (bv l)) : n = l.length := by have := h.len; rw [bv_len] at this; omega
/-- The empty file. -/
def nil0 : FV := ⟨none, 0, [], -1, none, 0, []⟩
theorem fent0 : Fent nil0.f (fun _ => none) := by
  refine ⟨⟨by simp [nil0, FV.f], by simp [nil0, FV.f], by simp [nil0, FV.f], by simp [nil0, FV.f], ?_⟩, ([], []), .no (by simp [nil0, FV.f]), ?_⟩
  · intro i x h; simp [nil0, FV.f] at h
  · funext key; rfl
theorem fl0 (w : World) : Fl w nil0 := ⟨⟨Rd.nil_ _ _, by simp [nil0]⟩, Rd.nil_ _ _⟩
end Go.Proofs.YtpmkohnljngbhaaDoor.Sr
/- Walks: Read, Begin. -/
namespace Go.Proofs.YtpmkohnljngbhaaDoor.Sr
set_option maxRecDepth 1000000
open Go.RowKit Wl Pg
section
variable {PA FA LA : Option Addr} {np pc m fc ln lc : Nat} {r0 last : Int} {f : FV} {log : List UInt8}
def RdPost (w : World) (key : List UInt8) (o : Option (List UInt8)) (e : Ending) (w' : World) : Prop :=
  (¬ lenK key ∧ e = .returned (.tuple #[.slice none 0 0, .int .i64 1]) ∧ Below w.heap.size w w') ∨ (lenK key ∧ FdPost w o e w')
set_option maxHeartbeats 1600000 in
theorem sRead_any {K : Option Addr} {kn kc : Nat} {key : List UInt8} {b : Ent} {L : List (List Ch)} (w : World) (G : Hid (Gl w)) (H : Hid (Sto w f log PA np pc r0 FA m fc LA ln lc)) (HE : Hid (Fent f.f b)) (l0 : 0 ≤ last) (l1 : last ≤ 2147483648) (HT : Hid (trx log last = some L)) (hk : Hid (Rd w 1 K kn kc (bv key))) :
    Calls Tryd.prog 13 #[.agg #[.slice PA np pc, .int .i64 r0, .slice FA m fc, .slice LA ln lc, .int .i64 last], .slice K kn kc] w (RdPost w key (app b L.flatten key)) := by
  have KN := Lib.hid (rd_bytes hk.out)
  obtain ⟨p, hp⟩ : ∃ p, w.heap.size = p := ⟨_, rfl⟩
  obtain ⟨W1, hW1⟩ : ∃ W1, w.alloc (.cells #[.slice PA np pc, .int .i64 r0, .slice FA m fc, .slice LA ln lc, .int .i64 last] 31) = W1 := ⟨_, rfl⟩
  have bw : Below w.heap.size w W1 := hW1 ▸ bal _ _
  have X : Hid (Bx W1 p [.slice PA np pc, .int .i64 r0, .slice FA m fc, .slice LA ln lc, .int .i64 last]) := hW1 ▸ Lib.hid (Bx.put _ hp #[.slice PA np pc, .int .i64 r0, .slice FA m fc, .slice LA ln lc, .int .i64 last] 31)
  have TX : Hid (Ty W1 p 31) := hW1 ▸ hp ▸ Lib.hid (Ty.new _ _ _)
  have HW1 := Lib.hid hW1
  clear hW1
  have x0 := X.out.at_ 0 (by simp)
  have x1 := X.out.at_ 1 (by simp)
  have x2 := X.out.at_ 2 (by simp)
  have x3 := X.out.at_ 3 (by simp)
  have x4 := X.out.at_ 4 (by simp)
  simp only [List.getElem?_cons_succ, List.getElem?_cons_zero] at x0 x1 x2 x3 x4
  have H1 := Lib.hid (H.out.nx bw)
  have G1 := Lib.hid (G.out.nx bw)
  have K1 := Lib.hid (hk.out.nx bw)
  have V : Hid (Svd f log last) := Lib.hid ⟨l0, l1, HE.out.vld, _, HT.out⟩
  cases hkn : keyN kn with
  | false =>
    have NK : Hid (¬ lenK key) := Lib.hid fun h => by have := (lenK_keyN KN.out).1 h; rw [hkn] at this; cases this
    have C := isKey_any (A := K) (n := kn) (c := kc) W1
    rw [hkn] at C
    clear hkn
    go_enter Tryd.func13, Tryd.ntmps13
    go_upto_region 1 with fail
    rw [HW1.out]
    go_wp2_with fail
    go_at_call 39
    refine C.mono ?_
    rintro e w' ⟨rfl, rfl⟩
    go_wp2_with fail
    go_ret2
    exact .inl ⟨NK.out, rfl, bw⟩
  | true =>
    have LK : Hid (lenK key) := Lib.hid ((lenK_keyN KN.out).2 hkn)
    have C := isKey_any (A := K) (n := kn) (c := kc) W1
    rw [hkn] at C
    clear hkn
    go_enter Tryd.func13, Tryd.ntmps13
    go_upto_region 1 with fail
    rw [HW1.out]
    go_wp2_with fail
    go_at_call 39
    refine C.mono ?_
    rintro e w' ⟨rfl, rfl⟩
    clear C
    go_wp2_with fail
    go_at_call 10
    refine (sValid_any W1 G1 H1).mono ?_
    rintro e w2 ⟨bb, rfl, hb, b2⟩
    obtain rfl : bb = true := hb.2 V.out
    clear hb x0 x1 x2 x3 x4
    replace bw := bw.trans (b2.mono bw.size)
    replace X := Lib.hid (X.out.nx b2)
    replace H1 := Lib.hid (H1.out.nx b2)
    replace G1 := Lib.hid (G1.out.nx b2)
    replace K1 := Lib.hid (K1.out.nx b2)
    have KK : Hid (∀ U, Below w2.heap.size w2 U → U.cell? ⟨p, 0, none⟩ = some (.slice PA np pc) ∧ U.cell? ⟨p, 1, none⟩ = some (.int .i64 r0) ∧ U.cell? ⟨p, 2, none⟩ = some (.slice FA m fc) ∧ U.cell? ⟨p, 3, none⟩ = some (.slice LA ln lc) ∧ U.cell? ⟨p, 4, none⟩ = some (.int .i64 last)) := Lib.hid fun U hU => by
      have X := Lib.hid (X.out.nx hU)
      have x0 := X.out.at_ 0 (by simp)
      have x1 := X.out.at_ 1 (by simp)
      have x2 := X.out.at_ 2 (by simp)
      have x3 := X.out.at_ 3 (by simp)
      have x4 := X.out.at_ 4 (by simp)
      simp only [List.getElem?_cons_succ, List.getElem?_cons_zero] at x0 x1 x2 x3 x4
      exact ⟨x0, x1, x2, x3, x4⟩
    have vd : Below w2.heap.size w2 w2.drew := (Below.refl _ _).drew
    have CH : Hid (∀ U, Below w2.heap.size w2 U → Calls Tryd.prog 41 #[.agg #[.slice PA np pc, .int .i64 r0, .slice FA m fc, .slice LA ln lc, .int .i64 last]] U (CsPost U L.flatten)) := Lib.hid fun U hU => changes_any U (Lib.hid (H1.out.nx hU)) l0 l1 HT
    have CF : Hid (∀ U (A : Option Addr) (n c : Nat) (l : List CV), Below w2.heap.size w2 U → Hid (l.map CV.ch = L.flatten) → Hid (Cr U A n c l) → n ≤ 100000 → Calls Tryd.prog 40 #[.agg #[.slice PA np pc, .int .i64 r0, .slice FA m fc], .slice A n c, .slice K kn kc] U (FdPost U (app b L.flatten key))) := Lib.hid fun U A n c l hU hl hC hn => by
      have := sfind_any H1.out.cs U (Lib.hid (G1.out.nx hU)) (Lib.hid (H1.out.fl.below hU)) HE hC (by omega) (Lib.hid (flat_ok HT.out hl.out)) (Lib.hid (K1.out.nx hU)) LK
      rwa [hl.out] at this
    go_wp2_with fail
    go_region_held3 (fun w' => w'.cell? ⟨p, 0, none⟩ = some (.slice PA np pc) ∧ w'.cell? ⟨p, 1, none⟩ = some (.int .i64 r0) ∧ w'.cell? ⟨p, 2, none⟩ = some (.slice FA m fc) ∧ w'.cell? ⟨p, 3, none⟩ = some (.slice LA ln lc) ∧ w'.cell? ⟨p, 4, none⟩ = some (.int .i64 last))
      (first | exact kk1 | exact kk2 | exact KK.out _ vd)
      (first
        | (go_at_call 41; refine (CH.out _ vd).mono ?_; rintro e w3 ⟨A3, n3, c3, l3, rfl, hl3, co3, hn3, b3, _⟩; have v3 := vd.trans (b3.mono vd.size); have kk1 := KK.out _ v3)
        | (go_at_call 40; refine (CF.out _ _ _ _ _ v3 hl3 (Lib.hid co3.out.cr) hn3).mono ?_; rintro e w4 ⟨A4, n4, c4, er4, rfl, res4, b4⟩; have v4 := v3.trans (b4.mono v3.size); have kk2 := KK.out _ v4))
    have bF := bw.trans (v4.mono bw.size)
    clear kk1 kk2
    go_wp2_with fail
    go_ret2
    exact .inr ⟨LK.out, A4, n4, c4, er4, rfl, res4, bF⟩
/-- What Begin answers. -/
def BgPost (w : World) (V : Prop) (cs : Array Value) (e : Ending) (w' : World) : Prop :=
  ((V ∧ e = .returned (.tuple #[.agg (cs.push (.slice none 0 0)), .int .i64 0])) ∨ (¬ V ∧ e = .returned (.tuple #[.agg #[.slice none 0 0, .int .i64 0, .slice none 0 0, .slice none 0 0, .int .i64 0, .slice none 0 0], .int .i64 16]))) ∧ Below w.heap.size w w'
theorem res6_cells {W : World} {R : Nat} {l : List Value} (h : Bx W R l) (hl : l.length = 6) (a b c d e g : Value) : Bx ((((((W.setCell ⟨R, 0, none⟩ a).setCell ⟨R, 1, none⟩ b).setCell ⟨R, 2, none⟩ c).setCell ⟨R, 3, none⟩ d).setCell ⟨R, 4, none⟩ e).setCell ⟨R, 5, none⟩ g) R [a, b, c, d, e, g] := by
  obtain ⟨l0, l1, l2, l3, l4, l5, rfl⟩ : ∃ l0 l1 l2 l3 l4 l5, l = [l0, l1, l2, l3, l4, l5] := by
    match l, hl with
    | [l0, l1, l2, l3, l4, l5], _ => exact ⟨_, _, _, _, _, _, rfl⟩
  exact (((((h.set (j := 0) (by simp) a).set (j := 1) (by simp) b).set (j := 2) (by simp) c).set (j := 3) (by simp) d).set (j := 4) (by simp) e).set (j := 5) (by simp) g
theorem res6_below {w W : World} {R : Nat} {a b c d e g : Value} (h : Below w.heap.size w W) (hR : w.heap.size ≤ R) : Below w.heap.size w ((((((W.setCell ⟨R, 0, none⟩ a).setCell ⟨R, 1, none⟩ b).setCell ⟨R, 2, none⟩ c).setCell ⟨R, 3, none⟩ d).setCell ⟨R, 4, none⟩ e).setCell ⟨R, 5, none⟩ g) :=
  (((((h.setCell (p := ⟨R, 0, none⟩) hR a).setCell (p := ⟨R, 1, none⟩) hR b).setCell (p := ⟨R, 2, none⟩) hR c).setCell (p := ⟨R, 3, none⟩) hR d).setCell (p := ⟨R, 4, none⟩) hR e).setCell (p := ⟨R, 5, none⟩) hR g
theorem res5_cells {W : World} {R : Nat} {l : List Value} (h : Bx W R l) (hl : l.length = 5) (a b c d e : Value) : Bx (((((W.setCell ⟨R, 0, none⟩ a).setCell ⟨R, 1, none⟩ b).setCell ⟨R, 2, none⟩ c).setCell ⟨R, 3, none⟩ d).setCell ⟨R, 4, none⟩ e) R [a, b, c, d, e] := by
  obtain ⟨l0, l1, l2, l3, l4, rfl⟩ : ∃ l0 l1 l2 l3 l4, l = [l0, l1, l2, l3, l4] := by
    match l, hl with
    | [l0, l1, l2, l3, l4], _ => exact ⟨_, _, _, _, _, rfl⟩
  exact ((((h.set (j := 0) (by simp) a).set (j := 1) (by simp) b).set (j := 2) (by simp) c).set (j := 3) (by simp) d).set (j := 4) (by simp) e
theorem res5_below {w W : World} {R : Nat} {a b c d e : Value} (h : Below w.heap.size w W) (hR : w.heap.size ≤ R) : Below w.heap.size w (((((W.setCell ⟨R, 0, none⟩ a).setCell ⟨R, 1, none⟩ b).setCell ⟨R, 2, none⟩ c).setCell ⟨R, 3, none⟩ d).setCell ⟨R, 4, none⟩ e) :=
  ((((h.setCell (p := ⟨R, 0, none⟩) hR a).setCell (p := ⟨R, 1, none⟩) hR b).setCell (p := ⟨R, 2, none⟩) hR c).setCell (p := ⟨R, 3, none⟩) hR d).setCell (p := ⟨R, 4, none⟩) hR e
set_option maxHeartbeats 1600000 in
theorem sBegin_any (w : World) (G : Hid (Gl w)) (H : Hid (Sto w f log PA np pc r0 FA m fc LA ln lc)) : Calls Tryd.prog 17 #[.agg #[.slice PA np pc, .int .i64 r0, .slice FA m fc, .slice LA ln lc, .int .i64 last]] w (BgPost w (Svd f log last) #[.slice PA np pc, .int .i64 r0, .slice FA m fc, .slice LA ln lc, .int .i64 last]) := by
  obtain ⟨p, hp⟩ : ∃ p, w.heap.size = p := ⟨_, rfl⟩
  obtain ⟨W1, hW1⟩ : ∃ W1, w.alloc (.cells #[.slice PA np pc, .int .i64 r0, .slice FA m fc, .slice LA ln lc, .int .i64 last] 31) = W1 := ⟨_, rfl⟩
  have bw : Below w.heap.size w W1 := hW1 ▸ bal _ _
  have X : Hid (Bx W1 p [.slice PA np pc, .int .i64 r0, .slice FA m fc, .slice LA ln lc, .int .i64 last]) := hW1 ▸ Lib.hid (Bx.put _ hp #[.slice PA np pc, .int .i64 r0, .slice FA m fc, .slice LA ln lc, .int .i64 last] 31)
  have TX : Hid (Ty W1 p 31) := hW1 ▸ hp ▸ Lib.hid (Ty.new _ _ _)
  have HW1 := Lib.hid hW1
  clear hW1
  obtain ⟨R, hR⟩ : ∃ R, W1.heap.size = R := ⟨_, rfl⟩
  obtain ⟨W2, hW2⟩ : ∃ W2, W1.alloc (.cells #[.slice none 0 0, .int .i64 0, .slice none 0 0, .slice none 0 0, .int .i64 0, .slice none 0 0] 48) = W2 := ⟨_, rfl⟩
  have v2 : Below W1.heap.size W1 W2 := hW2 ▸ bal _ _
  have Y : Hid (Bx W2 R [.slice none 0 0, .int .i64 0, .slice none 0 0, .slice none 0 0, .int .i64 0, .slice none 0 0]) := hW2 ▸ Lib.hid (Bx.put _ hR #[.slice none 0 0, .int .i64 0, .slice none 0 0, .slice none 0 0, .int .i64 0, .slice none 0 0] 48)
  have TY : Hid (Ty W2 R 48) := hW2 ▸ hR ▸ Lib.hid (Ty.new _ _ _)
  have HW2 := Lib.hid hW2
  clear hW2
  have hR' : w.heap.size ≤ R := by rw [← hR]; exact bw.size
  have eR : R = p + 1 := by rw [← hR, ← HW1.out, ← hp]; simp
  subst eR
  have bw := bw.trans (v2.mono bw.size)
  have X := Lib.hid (X.out.nx v2)
  have H1 := Lib.hid (H.out.nx bw)
  have G1 := Lib.hid (G.out.nx bw)
  have x0 := X.out.at_ 0 (by simp)
  have x1 := X.out.at_ 1 (by simp)
  have x2 := X.out.at_ 2 (by simp)
  have x3 := X.out.at_ 3 (by simp)
  have x4 := X.out.at_ 4 (by simp)
  simp only [List.getElem?_cons_succ, List.getElem?_cons_zero] at x0 x1 x2 x3 x4
  go_enter Tryd.func17, Tryd.ntmps17
  go_upto_region 1 with fail
  rw [HW1.out, HW2.out]
  go_wp2_with fail
  go_at_call 10
  refine (sValid_any W2 G1 H1).mono ?_
  rintro e w2 ⟨b, rfl, hb, b2⟩
  clear x0 x1 x2 x3 x4
  replace bw := bw.trans (b2.mono bw.size)
  replace X := Lib.hid (X.out.nx b2)
  replace Y := Lib.hid (Y.out.nx b2)
  have x0 := X.out.at_ 0 (by simp)
  have x1 := X.out.at_ 1 (by simp)
  have x2 := X.out.at_ 2 (by simp)
  have x3 := X.out.at_ 3 (by simp)
  have x4 := X.out.at_ 4 (by simp)
  simp only [List.getElem?_cons_succ, List.getElem?_cons_zero] at x0 x1 x2 x3 x4
  have y0 := Y.out.at_ 0 (by simp)
  have y1 := Y.out.at_ 1 (by simp)
  have y2 := Y.out.at_ 2 (by simp)
  have y3 := Y.out.at_ 3 (by simp)
  have y4 := Y.out.at_ 4 (by simp)
  have y5 := Y.out.at_ 5 (by simp)
  simp only [List.getElem?_cons_succ, List.getElem?_cons_zero] at y0 y1 y2 y3 y4 y5
  have f0 := Y.out.fz 0 (by simp)
  have f1 := Y.out.fz 1 (by simp)
  have f2 := Y.out.fz 2 (by simp)
  have f3 := Y.out.fz 3 (by simp)
  have f4 := Y.out.fz 4 (by simp)
  have f5 := Y.out.fz 5 (by simp)
  cases b with
  | true =>
    have V := Lib.hid (hb.1 rfl)
    have Q := Lib.hid (res6_cells Y.out rfl (.slice PA np pc) (.int .i64 r0) (.slice FA m fc) (.slice LA ln lc) (.int .i64 last) (.slice none 0 0))
    have bF : Below w.heap.size w ((((((w2.setCell ⟨p + 1, 0, none⟩ (.slice PA np pc)).setCell ⟨p + 1, 1, none⟩ (.int .i64 r0)).setCell ⟨p + 1, 2, none⟩ (.slice FA m fc)).setCell ⟨p + 1, 3, none⟩ (.slice LA ln lc)).setCell ⟨p + 1, 4, none⟩ (.int .i64 last)).setCell ⟨p + 1, 5, none⟩ (.slice none 0 0)) := res6_below bw hR'
    clear hb
    go_wp2_with fail
    obtain ⟨W9, hW9⟩ : ∃ u, ((((((w2.setCell ⟨p + 1, 0, none⟩ (.slice PA np pc)).setCell ⟨p + 1, 1, none⟩ (.int .i64 r0)).setCell ⟨p + 1, 2, none⟩ (.slice FA m fc)).setCell ⟨p + 1, 3, none⟩ (.slice LA ln lc)).setCell ⟨p + 1, 4, none⟩ (.int .i64 last)).setCell ⟨p + 1, 5, none⟩ (.slice none 0 0)) = u := ⟨_, rfl⟩
    rw [hW9] at Q bF ⊢
    have q0 := Q.out.at_ 0 (by simp)
    have q1 := Q.out.at_ 1 (by simp)
    have q2 := Q.out.at_ 2 (by simp)
    have q3 := Q.out.at_ 3 (by simp)
    have q4 := Q.out.at_ 4 (by simp)
    have q5 := Q.out.at_ 5 (by simp)
    simp only [List.getElem?_cons_succ, List.getElem?_cons_zero] at q0 q1 q2 q3 q4 q5
    refine bodyPost_ret (v := .tuple #[.agg #[.slice PA np pc, .int .i64 r0, .slice FA m fc, .slice LA ln lc, .int .i64 last, .slice none 0 0], .int .i64 0]) (by simp [results, Tryd.results17, go_sem, q0, q1, q2, q3, q4, q5]) rfl ?_
    exact ⟨.inl ⟨V.out, rfl⟩, bF⟩
  | false =>
    have V : Hid (¬ Svd f log last) := Lib.hid fun h => by have := hb.2 h; cases this
    have Q := Lib.hid (res6_cells Y.out rfl (.slice none 0 0) (.int .i64 0) (.slice none 0 0) (.slice none 0 0) (.int .i64 0) (.slice none 0 0))
    have bF : Below w.heap.size w ((((((w2.setCell ⟨p + 1, 0, none⟩ (.slice none 0 0)).setCell ⟨p + 1, 1, none⟩ (.int .i64 0)).setCell ⟨p + 1, 2, none⟩ (.slice none 0 0)).setCell ⟨p + 1, 3, none⟩ (.slice none 0 0)).setCell ⟨p + 1, 4, none⟩ (.int .i64 0)).setCell ⟨p + 1, 5, none⟩ (.slice none 0 0)) := res6_below bw hR'
    clear hb
    go_wp2_with fail
    obtain ⟨W9, hW9⟩ : ∃ u, ((((((w2.setCell ⟨p + 1, 0, none⟩ (.slice none 0 0)).setCell ⟨p + 1, 1, none⟩ (.int .i64 0)).setCell ⟨p + 1, 2, none⟩ (.slice none 0 0)).setCell ⟨p + 1, 3, none⟩ (.slice none 0 0)).setCell ⟨p + 1, 4, none⟩ (.int .i64 0)).setCell ⟨p + 1, 5, none⟩ (.slice none 0 0)) = u := ⟨_, rfl⟩
    rw [hW9] at Q bF ⊢
    have q0 := Q.out.at_ 0 (by simp)
    have q1 := Q.out.at_ 1 (by simp)
    have q2 := Q.out.at_ 2 (by simp)
    have q3 := Q.out.at_ 3 (by simp)
    have q4 := Q.out.at_ 4 (by simp)
    have q5 := Q.out.at_ 5 (by simp)
    simp only [List.getElem?_cons_succ, List.getElem?_cons_zero] at q0 q1 q2 q3 q4 q5
    refine bodyPost_ret (v := .tuple #[.agg #[.slice none 0 0, .int .i64 0, .slice none 0 0, .slice none 0 0, .int .i64 0, .slice none 0 0], .int .i64 16]) (by simp [results, Tryd.results17, go_sem, q0, q1, q2, q3, q4, q5]) rfl ?_
    exact ⟨.inr ⟨V.out, rfl⟩, bF⟩
end
end Go.Proofs.YtpmkohnljngbhaaDoor.Sr
