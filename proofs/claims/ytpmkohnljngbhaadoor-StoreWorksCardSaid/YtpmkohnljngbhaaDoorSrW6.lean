/- Walks: changes, Valid, validWork. -/
import Derived.Test.YtpmkohnljngbhaaDoorSrW5
import Derived.Test.YtpmkohnljngbhaaDoorSrCf
import Derived.Test.YtpmkohnljngbhaaDoorPgW9
namespace Go.Proofs.YtpmkohnljngbhaaDoor.Pg
set_option linter.unusedVariables false
set_option linter.unusedSimpArgs false
set_option maxRecDepth 1000000
open Go.RowKit Wl
theorem Gl.nx {w w' : World} (h : Gl w) (b : Below w.heap.size w w') : Gl w' := h.below b
end Go.Proofs.YtpmkohnljngbhaaDoor.Pg
namespace Go.Proofs.YtpmkohnljngbhaaDoor.Sr
set_option maxRecDepth 1000000
set_option linter.unusedVariables false
set_option linter.unusedSimpArgs false
open Go.RowKit Wl Pg

/-- A store, in memory. -/
structure Sto (w : World) (f : FV) (log : List UInt8) (PA : Option Addr) (np pc : Nat) (r0 : Int) (FA : Option Addr) (m fc : Nat) (LA : Option Addr) (ln lc : Nat) : Prop where
  cs : CsOf f PA np pc r0 FA m fc
  fl : Fl w f
  ll : ln = log.length
  lg : Rd w 1 LA ln lc (bv log)
  l2 : ln ≤ 2000000
/-- A store is valid. -/
def Svd (f : FV) (log : List UInt8) (last : Int) : Prop := 0 ≤ last ∧ last ≤ 2147483648 ∧ Vld f.f ∧ ∃ L, trx log last = some L
section
variable {PA FA LA : Option Addr} {np pc m fc ln lc : Nat} {r0 last : Int} {f : FV} {log : List UInt8}
theorem Sto.nx {w w' : World} (h : Sto w f log PA np pc r0 FA m fc LA ln lc) (b : Below w.heap.size w w') : Sto w' f log PA np pc r0 FA m fc LA ln lc := ⟨h.cs, h.fl.below b, h.ll, h.lg.below b, h.l2⟩
/-- As many changes as records at most. -/
theorem tfold_le {tx : Int} (l : List Rec) : ∀ {L : List (List Ch)} {op : List Ch} {t : Int}, tfold tx l = some (L, op, t) → L.flatten.length + op.length ≤ l.length := by
  refine snoc_ind (P := fun l => ∀ {L : List (List Ch)} {op : List Ch} {t : Int}, tfold tx l = some (L, op, t) → L.flatten.length + op.length ≤ l.length) ?_ ?_ l
  · intro L op t h
    simp only [tfold, List.foldl_nil, Option.some.injEq, Prod.mk.injEq] at h
    obtain ⟨rfl, rfl, _⟩ := h; simp
  · intro l r ih L op t h
    rw [tfold_snoc] at h
    rcases hf : tfold tx l with _ | ⟨L0, o0, t0⟩
    · rw [hf] at h; cases h
    · have := ih hf
      rw [hf] at h
      unfold tstp at h
      simp only [Option.bind_some] at h
      split at h
      · cases h
      · split at h
        · simp only [Option.some.injEq, Prod.mk.injEq] at h
          obtain ⟨rfl, rfl, _⟩ := h
          simp at this ⊢; omega
        · rcases hc : chR r with _ | c
          · rw [hc] at h; cases h
          · rw [hc] at h
            simp only [Option.map_some, Option.some.injEq, Prod.mk.injEq] at h
            obtain ⟨rfl, rfl, _⟩ := h
            simp at this ⊢; omega
theorem trx_le {log : List UInt8} {last : Int} {L : List (List Ch)} (h : trx log last = some L) : L.flatten.length * 21 ≤ log.length := by
  obtain ⟨hg, _, _, op, tx, hf⟩ := trx_ok h
  have h1 := tfold_le _ hf
  have h2 : ∀ q : List Rec, q.length * 21 ≤ (encs q).length := fun q => by
    induction q with
    | nil => simp
    | cons a q ih => rw [encs_cons, List.length_append, Wl.enc_len, List.length_cons]; omega
  have h3 := h2 (rd log)
  have h4 := glen_le log
  unfold glen at h4
  omega
/-- The changes of a valid store. -/
def CsPost (w : World) (cs : List Ch) (e : Ending) (w' : World) : Prop :=
  ∃ (A : Option Addr) (n c : Nat) (l : List CV), e = .returned (.slice A n c) ∧ Hid (l.map CV.ch = cs) ∧ Hid (Co w' w.heap.size A n c l) ∧ n ≤ 100000 ∧ Below w.heap.size w w' ∧
    ∃ u, Below w.heap.size w u ∧ Below u.heap.size u w' ∧ Hid (w'.ownsRow u.heap.size 45 3 (.slice A n c) n (cvs l) ∧ ∀ x ∈ l, Dt u x)
theorem changes_any {L : List (List Ch)} (w : World) (H : Hid (Sto w f log PA np pc r0 FA m fc LA ln lc)) (l0 : 0 ≤ last) (l1 : last ≤ 2147483648) (HT : Hid (trx log last = some L)) :
    Calls Tryd.prog 41 #[.agg #[.slice PA np pc, .int .i64 r0, .slice FA m fc, .slice LA ln lc, .int .i64 last]] w (CsPost w L.flatten) := by
  obtain ⟨p, hp⟩ : ∃ p, w.heap.size = p := ⟨_, rfl⟩
  obtain ⟨W1, hW1⟩ : ∃ W1, w.alloc (.cells #[.slice PA np pc, .int .i64 r0, .slice FA m fc, .slice LA ln lc, .int .i64 last] 31) = W1 := ⟨_, rfl⟩
  have bw : Below w.heap.size w W1 := hW1 ▸ bal _ _
  have X : Hid (Bx W1 p [.slice PA np pc, .int .i64 r0, .slice FA m fc, .slice LA ln lc, .int .i64 last]) := hW1 ▸ Lib.hid (Bx.put _ hp #[.slice PA np pc, .int .i64 r0, .slice FA m fc, .slice LA ln lc, .int .i64 last] 31)
  have TX : Hid (Ty W1 p 31) := hW1 ▸ hp ▸ Lib.hid (Ty.new _ _ _)
  have HW1 := Lib.hid hW1
  clear hW1
  have x0 := X.out.at_ 0 (by simp)
  have x1 := X.out.at_ 1 (by simp)
  have x2 := X.out.at_ 2 (by simp)
  have x3 := X.out.at_ 3 (by simp)
  have x4 := X.out.at_ 4 (by simp)
  simp only [List.getElem?_cons_succ, List.getElem?_cons_zero] at x0 x1 x2 x3 x4
  have H1 := Lib.hid (H.out.nx bw)
  have TX := strx_any (PA := PA) (FA := FA) (np := np) (pc := pc) (m := m) (fc := fc) (r0 := r0) W1 (Lib.hid H1.out.ll) (Lib.hid H1.out.lg) H1.out.l2 l0 l1
  have TL := Lib.hid (trx_le HT.out)
  have LL := Lib.hid H1.out.ll
  have L2 := H1.out.l2
  rw [HT.out] at TX
  have TX := Lib.hid TX
  go_enter Tryd.func41, Tryd.ntmps41
  go_upto_region 1 with fail
  rw [HW1.out]
  go_wp2_with fail
  go_at_call 38
  refine TX.out.mono ?_
  rintro e w2 ⟨A, n, c, b, rfl, hres, b2⟩
  rcases hres with ⟨_, hno⟩ | ⟨rfl, M, hM, R⟩
  · cases hno
  · have bw2 := bw.trans (b2.mono bw.size)
    have HM : Hid (L = M.map XV.t) := Lib.hid (by injection hM)
    have SS : Hid (cconc_sum M = L.flatten.length) := Lib.hid (by rw [HM.out, ← cconc_join_len]; simp [cconc_join, List.length_flatten, Function.comp_def, XV.t])
    have s5 : cconc_sum M ≤ 100000 := by rw [SS.out]; have := TL.out; have := LL.out; omega
    clear hM
    go_wp2_with fail
    go_at_call 59
    refine (cconc (L := M) w2 (Lib.hid R.out.row) (Lib.hid fun x hx => (R.out.dat x hx).row) s5).mono ?_
    rintro e w3 ⟨A3, c3, rfl, own, b3⟩
    have bw3 := bw2.trans (b3.mono bw2.size)
    have D0 : Hid (∀ x ∈ cconc_join M, Dt w2 x) := Lib.hid fun x hx => by
      unfold cconc_join at hx
      obtain ⟨y, hy, hx⟩ := List.mem_flatten.1 hx
      obtain ⟨z, hz, rfl⟩ := List.mem_map.1 hy
      exact (R.out.dat z hz).dat x hx
    have D : Hid (∀ x ∈ cconc_join M, Dt w3 x) := Lib.hid fun x hx => (D0.out x hx).nx b3
    have E : Hid ((cconc_join M).map CV.ch = L.flatten) := Lib.hid (by rw [HM.out]; unfold cconc_join; rw [List.map_flatten, List.map_map]; rfl)
    go_wp2_with fail
    go_ret
    exact ⟨A3, _, c3, cconc_join M, rfl, E, Lib.hid ⟨own_base own.out bw2.size, D.out⟩, s5, bw3, w2, bw2, b3, Lib.hid ⟨own.out, D0.out⟩⟩
def SvPost (w : World) (f : FV) (log : List UInt8) (last : Int) (e : Ending) (w' : World) : Prop := ∃ b, e = .returned (.bool b) ∧ (b = true ↔ Svd f log last) ∧ Below w.heap.size w w'
set_option maxHeartbeats 1600000 in
theorem sValid_any (w : World) (G : Hid (Gl w)) (H : Hid (Sto w f log PA np pc r0 FA m fc LA ln lc)) : Calls Tryd.prog 10 #[.agg #[.slice PA np pc, .int .i64 r0, .slice FA m fc, .slice LA ln lc, .int .i64 last]] w (SvPost w f log last) := by
  obtain ⟨p, hp⟩ : ∃ p, w.heap.size = p := ⟨_, rfl⟩
  obtain ⟨W1, hW1⟩ : ∃ W1, w.alloc (.cells #[.slice PA np pc, .int .i64 r0, .slice FA m fc, .slice LA ln lc, .int .i64 last] 31) = W1 := ⟨_, rfl⟩
  have bw : Below w.heap.size w W1 := hW1 ▸ bal _ _
  have X : Hid (Bx W1 p [.slice PA np pc, .int .i64 r0, .slice FA m fc, .slice LA ln lc, .int .i64 last]) := hW1 ▸ Lib.hid (Bx.put _ hp #[.slice PA np pc, .int .i64 r0, .slice FA m fc, .slice LA ln lc, .int .i64 last] 31)
  have TX : Hid (Ty W1 p 31) := hW1 ▸ hp ▸ Lib.hid (Ty.new _ _ _)
  have HW1 := Lib.hid hW1
  clear hW1
  have x0 := X.out.at_ 0 (by simp)
  have x1 := X.out.at_ 1 (by simp)
  have x2 := X.out.at_ 2 (by simp)
  have x3 := X.out.at_ 3 (by simp)
  have x4 := X.out.at_ 4 (by simp)
  simp only [List.getElem?_cons_succ, List.getElem?_cons_zero] at x0 x1 x2 x3 x4
  have H1 := Lib.hid (H.out.nx bw)
  have G1 := Lib.hid (G.out.nx bw)
  have LL := Lib.hid H1.out.ll
  have L2 := H1.out.l2
  by_cases h0 : last < 0
  · have e0 : decide (last < 0) = true := decide_eq_true h0
    have NN : Hid (¬ Svd f log last) := Lib.hid fun h => by have := h.1; omega
    clear h0
    go_enter Tryd.func10, Tryd.ntmps10
    go_upto_region 1 with fail
    rw [HW1.out]
    go_wp2_with fail
    go_ret
    exact ⟨false, rfl, ⟨fun e => (by cases e), fun h => absurd h NN.out⟩, bw⟩
  · have e0 : decide (last < 0) = false := decide_eq_false h0
    by_cases h1 : 2147483648 < last
    · have e1 : decide (2147483648 < last) = true := decide_eq_true h1
      have NN : Hid (¬ Svd f log last) := Lib.hid fun h => by have := h.2.1; omega
      clear h0 h1
      go_enter Tryd.func10, Tryd.ntmps10
      go_upto_region 1 with fail
      rw [HW1.out]
      go_wp2_with fail
      go_ret
      exact ⟨false, rfl, ⟨fun e => (by cases e), fun h => absurd h NN.out⟩, bw⟩
    · have e1 : decide (2147483648 < last) = false := decide_eq_false h1
      go_enter Tryd.func10, Tryd.ntmps10
      go_upto_region 1 with fail
      rw [HW1.out]
      go_wp2_with fail
      go_at_call 37
      refine (Valid_cs H1.out.cs W1 G1 (Lib.hid H1.out.fl)).mono ?_
      rintro e w2 ⟨b, rfl, hb, b2⟩
      have bw2 := bw.trans (b2.mono bw.size)
      cases b with
      | false =>
        have NN : Hid (¬ Svd f log last) := Lib.hid fun h => by have := hb.2 h.2.2.1; cases this
        clear h0 h1 hb
        go_wp2_with fail
        go_ret
        exact ⟨false, rfl, ⟨fun e => (by cases e), fun h => absurd h NN.out⟩, bw2⟩
      | true =>
        have VL := Lib.hid (hb.1 rfl)
        have H2 := Lib.hid (H1.out.nx b2)
        have X := Lib.hid (X.out.nx b2)
        have TX := Lib.hid (strx_any (PA := PA) (FA := FA) (np := np) (pc := pc) (m := m) (fc := fc) (r0 := r0) w2 LL (Lib.hid H2.out.lg) L2 (by omega) (by omega))
        clear hb x0 x1 x2 x3 x4
        have x0 := X.out.at_ 0 (by simp)
        have x1 := X.out.at_ 1 (by simp)
        have x2 := X.out.at_ 2 (by simp)
        have x3 := X.out.at_ 3 (by simp)
        have x4 := X.out.at_ 4 (by simp)
        simp only [List.getElem?_cons_succ, List.getElem?_cons_zero] at x0 x1 x2 x3 x4
        go_wp2_with fail
        go_at_call 38
        refine TX.out.mono ?_
        rintro e w3 ⟨A, n, c, b, rfl, hres, b3⟩
        have bw3 := bw2.trans (b3.mono bw2.size)
        have Y : Hid (b = true ↔ Svd f log last) := Lib.hid (by
          rcases hres with ⟨rfl, hno⟩ | ⟨rfl, M, hM, R⟩
          · exact ⟨fun e => (by cases e), fun h => by obtain ⟨L, hL⟩ := h.2.2.2; rw [hno] at hL; cases hL⟩
          · exact ⟨fun _ => ⟨by omega, by omega, VL.out, _, hM⟩, fun _ => rfl⟩)
        clear hres h0 h1
        go_wp2_with fail
        go_ret
        exact ⟨b, rfl, Y.out, bw3⟩
/-- A piece of work is valid. -/
def Wvd (f : FV) (log : List UInt8) (last : Int) (l : List CV) : Prop := l.length ≤ 100 ∧ Svd f log last ∧ ∀ x ∈ l, x.ch.ok = true
theorem any_bad {l : List CV} : l.any CV.bad = false ↔ ∀ x ∈ l, x.ch.ok = true := by
  rw [List.any_eq_false]
  exact ⟨fun h x hx => by have := h x hx; unfold CV.bad at this; simpa using this, fun h x hx => by unfold CV.bad; simp [h x hx]⟩
def SwPost (w : World) (f : FV) (log : List UInt8) (last : Int) (l : List CV) (e : Ending) (w' : World) : Prop := ∃ b, e = .returned (.bool b) ∧ (b = true ↔ Wvd f log last l) ∧ Below w.heap.size w w'
set_option maxHeartbeats 1600000 in
theorem sWork_any {A : Option Addr} {n c : Nat} {l : List CV} (w : World) (G : Hid (Gl w)) (H : Hid (Sto w f log PA np pc r0 FA m fc LA ln lc)) (C : Hid (Cr w A n c l)) :
    Calls Tryd.prog 46 #[.agg #[.slice PA np pc, .int .i64 r0, .slice FA m fc, .slice LA ln lc, .int .i64 last, .slice A n c]] w (SwPost w f log last l) := by
  obtain ⟨p, hp⟩ : ∃ p, w.heap.size = p := ⟨_, rfl⟩
  obtain ⟨W1, hW1⟩ : ∃ W1, w.alloc (.cells #[.slice PA np pc, .int .i64 r0, .slice FA m fc, .slice LA ln lc, .int .i64 last, .slice A n c] 48) = W1 := ⟨_, rfl⟩
  have bw : Below w.heap.size w W1 := hW1 ▸ bal _ _
  have X : Hid (Bx W1 p [.slice PA np pc, .int .i64 r0, .slice FA m fc, .slice LA ln lc, .int .i64 last, .slice A n c]) := hW1 ▸ Lib.hid (Bx.put _ hp #[.slice PA np pc, .int .i64 r0, .slice FA m fc, .slice LA ln lc, .int .i64 last, .slice A n c] 48)
  have TX : Hid (Ty W1 p 48) := hW1 ▸ hp ▸ Lib.hid (Ty.new _ _ _)
  have HW1 := Lib.hid hW1
  clear hW1
  have x0 := X.out.at_ 0 (by simp)
  have x1 := X.out.at_ 1 (by simp)
  have x2 := X.out.at_ 2 (by simp)
  have x3 := X.out.at_ 3 (by simp)
  have x4 := X.out.at_ 4 (by simp)
  have x5 := X.out.at_ 5 (by simp)
  simp only [List.getElem?_cons_succ, List.getElem?_cons_zero] at x0 x1 x2 x3 x4 x5
  have H1 := Lib.hid (H.out.nx bw)
  have G1 := Lib.hid (G.out.nx bw)
  have C1 := Lib.hid (C.out.nx bw)
  have NL := Lib.hid C.out.len
  by_cases h0 : n ≤ 100
  · have e0 : decide ((n : Int) ≤ 100) = true := decide_eq_true (by omega)
    go_enter Tryd.func46, Tryd.ntmps46
    go_upto_region 1 with fail
    rw [HW1.out]
    go_wp2_with fail
    go_at_call 10
    refine (sValid_any W1 G1 H1).mono ?_
    rintro e w2 ⟨b, rfl, hb, b2⟩
    have bw2 := bw.trans (b2.mono bw.size)
    cases b with
    | false =>
      have NN : Hid (¬ Wvd f log last l) := Lib.hid fun h => by have := hb.2 h.2.1; cases this
      clear hb
      go_wp2_with fail
      go_ret
      exact ⟨false, rfl, ⟨fun e => (by cases e), fun h => absurd h NN.out⟩, bw2⟩
    | true =>
      have VL := Lib.hid (hb.1 rfl)
      have C2 := Lib.hid (C1.out.nx b2)
      have X := Lib.hid (X.out.nx b2)
      clear hb x0 x1 x2 x3 x4 x5
      have x0 := X.out.at_ 0 (by simp)
      have x1 := X.out.at_ 1 (by simp)
      have x2 := X.out.at_ 2 (by simp)
      have x3 := X.out.at_ 3 (by simp)
      have x4 := X.out.at_ 4 (by simp)
      have x5 := X.out.at_ 5 (by simp)
      simp only [List.getElem?_cons_succ, List.getElem?_cons_zero] at x0 x1 x2 x3 x4 x5
      go_wp2_with fail
      go_at_call 32
      refine (vw_any CV.bad w2 C2 (Lib.hid fun U _ x _ => vw1_any x U)).mono ?_
      rintro e w3 ⟨rfl, b3⟩
      have bw3 := bw2.trans (b3.mono bw2.size)
      cases hb : l.any CV.bad with
      | false =>
        have Y : Hid (Wvd f log last l) := Lib.hid ⟨by rw [← NL.out]; exact h0, VL.out, any_bad.1 hb⟩
        clear hb
        go_wp2_with fail
        go_ret
        exact ⟨true, rfl, ⟨fun _ => Y.out, fun _ => rfl⟩, bw3⟩
      | true =>
        have NN : Hid (¬ Wvd f log last l) := Lib.hid fun h => by have := any_bad.2 h.2.2; rw [hb] at this; cases this
        clear hb
        go_wp2_with fail
        go_ret
        exact ⟨false, rfl, ⟨fun e => (by cases e), fun h => absurd h NN.out⟩, bw3⟩
  · have e0 : decide ((n : Int) ≤ 100) = false := decide_eq_false (by omega)
    have NN : Hid (¬ Wvd f log last l) := Lib.hid fun h => by have := h.1; rw [← NL.out] at this; omega
    go_enter Tryd.func46, Tryd.ntmps46
    go_upto_region 1 with fail
    rw [HW1.out]
    go_wp2_with fail
    go_ret
    exact ⟨false, rfl, ⟨fun e => (by cases e), fun h => absurd h NN.out⟩, bw⟩
end
end Go.Proofs.YtpmkohnljngbhaaDoor.Sr
