/- The walk of the writer's done. -/
import Derived.Test.YtphiblmkgbkdmaaDoorPgX5
namespace Go.Proofs.YtphiblmkgbkdmaaDoor.Pg
set_option linter.unusedVariables false
set_option linter.unusedSimpArgs false
open Go.RowKit Wl

/-- Of what type the blocks of a file are. -/
structure FlT (W : World) (f : FV) : Prop where
  fl : Fl W f
  pa : ∀ g, blk f.PA = some g → Ty W g 22
  da : ∀ x ∈ f.ps, ∀ g, blk x.A = some g → Ty W g 5
  fa : ∀ g, 0 < f.free.length → blk f.FA = some g → Ty W g 3
/-- What done answers. -/
def DnPost (W : World) (base : Nat) (r : List It × Ws) (e : Ending) (W' : World) : Prop :=
  ((r.2.full = true ∧ e = .returned (.tuple #[.agg #[.slice none 0 0, .int .i64 0, .slice none 0 0], .int .i64 5])) ∨
    (r.2.full = false ∧ ∃ f : FV, e = .returned (.tuple #[f.val, .int .i64 0]) ∧ f.f = ⟨r.2.pg, rootOf r.1, r.2.fr.map (fun (x : Nat) => (x : Int))⟩ ∧ Hid (FlT W' f))) ∧ Below base W W'
theorem Wm.root {W : World} {base q : Nat} {root r2 : Int} {v : WV} {s : Ws} (M : Wm W base q root v s) : Wm (W.setCell ⟨q, 1, none⟩ (.int .i64 r2)) base q r2 v s := by
  have k1 : Kp W (W.setCell ⟨q, 1, none⟩ (.int .i64 r2)) (· = q) := Kp.of_set W ⟨q, 1, none⟩ _ rfl
  have nq : ∀ i, i = q → ¬ Sf W base i := fun i e => M.nsf i (.inl e)
  have g1 : ¬ 1 = q := by have := M.q1; have := M.b3; omega
  have g2 : ¬ 2 = q := by have := M.q1; have := M.b3; omega
  have hz := M.gl.sz
  refine ⟨⟨Nat.le_trans hz k1.size, fun i hi => by rw [World.cell?_of_block (k1.block 1 (by omega) g1)]; exact M.gl.first i hi, fun i hi => by rw [World.cell?_of_block (k1.block 2 (by omega) g2)]; exact M.gl.acc i hi⟩, M.b3, M.q1, ?_, Ty.set (show Ty W q 104 from M.qt) q 1 _,
    own_kp M.own k1 (fun g e e' => M.apq (e' ▸ e)), M.pgs, fun x hx => (M.dat x hx).wr (Wr.of_kp k1 nq), M.p256, fun x hx g e => (M.dty x hx g e).kp k1 fun e' => nq g e' (.inr (M.dty x hx g e)), Rd.kp M.fr k1 fun g h e => (M.frb g h e).1, M.frb, fun g h e => (M.frt g h e).kp k1 (M.frb g h e).1, M.frl, M.apq, M.n4⟩
  have := M.bx.set (j := 1) (by simp) (.int .i64 r2)
  simpa using this
/-- A writer's file. -/
theorem Wm.file {W : World} {base q : Nat} {root : Int} {v : WV} {s : Ws} (M : Wm W base q root v s) : FlT W ⟨v.PA, v.pc, v.ps, root, v.FA, v.fc, s.fr.map (fun (x : Nat) => (x : Int))⟩ :=
  ⟨⟨⟨Rd.of_own M.own, fun x hx => (M.dat x hx).rd⟩, by simp only [List.length_map]; rw [iv_nat]; exact M.fr⟩, fun g e => own_type M.own e, M.dty, fun g h e => M.frt g (by simpa using h) e⟩
/-- The end of done. -/
theorem done_end {W W0 W1 W2 : World} {base q R0 : Nat} {root r2 : Int} {v v1 : WV} {s s1 : Ws} {l : List It} {a b c : Value} {e : Ending} (hR0 : W.heap.size = R0) (hb : base ≤ R0) (hb0 : Below W.heap.size W W0) (hs0 : W0.heap.size = R0 + 1) (M : Wm W base q root v s) (T0 : Ty W0 R0 30) (K1 : Kp W0 W1 (Xw q v)) (N1 : Nv W0 v v1) (M2 : Wm W2 base q r2 v1 s1) (K2 : Kp W1 W2 (· = q))
    (hr : r2 = rootOf l)
    (he : (s1.full = true ∧ e = .returned (.tuple #[.agg #[.slice none 0 0, .int .i64 0, .slice none 0 0], .int .i64 5])) ∨ (s1.full = false ∧ e = .returned (.tuple #[.agg #[.slice v1.PA v1.ps.length v1.pc, .int .i64 r2, .slice v1.FA s1.fr.length v1.fc], .int .i64 0]))) :
    DnPost W base (l, s1) e (((W2.setCell ⟨R0, 0, none⟩ a).setCell ⟨R0, 1, none⟩ b).setCell ⟨R0, 2, none⟩ c) := by
  have hqR : q < R0 := hR0 ▸ M.bx.lt
  have nR : ¬ Xw q v R0 := by
    rintro (e | e)
    · omega
    · have := (own_blk_le M.own e).2; omega
  have T2 : Ty W2 R0 30 := (T0.kp K1 nR).kp K2 (fun e => by omega)
  have k1 : Kp W2 (W2.setCell ⟨R0, 0, none⟩ a) (· = R0) := Kp.of_set W2 ⟨R0, 0, none⟩ _ rfl
  have k2 : Kp (W2.setCell ⟨R0, 0, none⟩ a) ((W2.setCell ⟨R0, 0, none⟩ a).setCell ⟨R0, 1, none⟩ b) (· = R0) := Kp.of_set _ ⟨R0, 1, none⟩ _ rfl
  have k3 : Kp ((W2.setCell ⟨R0, 0, none⟩ a).setCell ⟨R0, 1, none⟩ b) (((W2.setCell ⟨R0, 0, none⟩ a).setCell ⟨R0, 1, none⟩ b).setCell ⟨R0, 2, none⟩ c) (· = R0) := Kp.of_set _ ⟨R0, 2, none⟩ _ rfl
  have kk := (k1.trans k2 fun _ _ e => e).trans k3 fun _ _ e => e
  have hPA : blk v1.PA ≠ some R0 := fun e => by
    rcases N1 with h | ⟨g, h1, h2⟩
    · exact nR (.inr (h ▸ e))
    · rw [h1] at e; injection e with e; omega
  have M3 := M2.kp kk (fun e => by omega) (fun g e e' => hPA (e' ▸ e)) (fun g h0 e e' => by
      obtain ⟨x, h1⟩ := M2.frt g h0 e; obtain ⟨y, h2⟩ := T2
      rw [← (show g = R0 from e'), h1] at h2; injection h2 with h2; injection h2 with _ h2; cases h2) fun i e => e ▸ T2.nsf hb (by decide)
  have nl : ∀ i, Xw q v i → base ≤ i := by
    rintro i (e | e)
    · exact e ▸ M.q1
    · exact (own_blk_le M.own e).1
  have B1 : Below base W W1 := (hb0.mono (hR0 ▸ hb)).trans (K1.low (by omega) nl)
  have B2 : Below base W W2 := B1.trans (K2.low (Nat.le_trans (hR0 ▸ hb : base ≤ W.heap.size) B1.size) fun i e => e ▸ M.q1)
  have B3 := B2.trans (kk.low (B := base) (Nat.le_trans (hR0 ▸ hb : base ≤ W.heap.size) B2.size) fun i e => e ▸ hb)
  refine ⟨?_, B3⟩
  rcases he with ⟨h1, h2⟩ | ⟨h1, h2⟩
  · exact .inl ⟨h1, h2⟩
  · refine .inr ⟨h1, ⟨v1.PA, v1.pc, v1.ps, r2, v1.FA, v1.fc, s1.fr.map (fun (x : Nat) => (x : Int))⟩, ?_, ?_, Lib.hid M3.file⟩
    · rw [h2]; unfold FV.val; simp only [List.length_map]
    · unfold FV.f; simp only [M2.pgs, hr]
set_option maxRecDepth 20000 in
set_option maxHeartbeats 6400000 in
theorem done_any {base q F : Nat} {root : Int} {v : WV} {s : Ws} {A : Option Addr} {n c : Nat} {l : List IV} (W : World) (M : Hid (Wm W base q root v s)) (I : Hid (Ir W base A n c l)) (ap : Hid (∀ g, 0 < n → blk A = some g → ¬ Xw q v g)) (ok : Hid (∀ x ∈ its l, ItOk 2 x)) (hn : n ≤ 1000) (hF : n ≤ F) (hbW : base ≤ W.heap.size) :
    Calls Tryd.prog 51 #[.pointer (some ⟨q, 0, none⟩), .slice A n c] W (DnPost W base (dnF F (its l) s)) := by
  obtain ⟨r, hr⟩ : ∃ r, dnF F (its l) s = r := ⟨_, rfl⟩
  rw [hr]
  have HR := Lib.hid hr
  clear hr
  obtain ⟨R0, hR0⟩ : ∃ R0, W.heap.size = R0 := ⟨_, rfl⟩
  obtain ⟨W0, hW0⟩ : ∃ W0, W.alloc (.cells #[.slice none 0 0, .int .i64 0, .slice none 0 0] 30) = W0 := ⟨_, rfl⟩
  have hb0 : Below W.heap.size W W0 := hW0 ▸ bal _ _
  have X0 : Hid (Bx W0 R0 [.slice none 0 0, .int .i64 0, .slice none 0 0]) := hW0 ▸ Lib.hid (Bx.put W hR0 #[.slice none 0 0, .int .i64 0, .slice none 0 0] 30)
  have T0 : Hid (Ty W0 R0 30) := hW0 ▸ hR0 ▸ Lib.hid (Ty.new W _ _)
  have hs0 : W0.heap.size = R0 + 1 := by rw [← hW0, ← hR0]; simp
  have I0 := Lib.hid (I.out.below hb0)
  have M0 := Lib.hid (M.out.low hb0)
  have HW0 := Lib.hid hW0
  have hqR : q < R0 := hR0 ▸ M.out.bx.lt
  have nR : ¬ Xw q v R0 := by
    rintro (e | e)
    · omega
    · have := (own_blk_le M.out.own e).2; omega
  clear hW0
  go_enter Tryd.func51, Tryd.ntmps51
  go_wp2_with fail
  rw [HW0.out]
  go_loopw [1] (fun lv wr => ∃ (A1 : Option Addr) (n1 c1 : Nat) (l1 : List IV) (v1 : WV) (s1 : Ws) (F1 : Nat), lv = .slice A1 n1 c1 ∧ n1 ≤ 1000 ∧ n1 ≤ F1 ∧ Hid (dnF F1 (its l1) s1 = r) ∧ Hid (Wm wr base q root v1 s1) ∧ Hid (Ir wr base A1 n1 c1 l1) ∧ Hid (∀ g, 0 < n1 → blk A1 = some g → ¬ Xw q v1 g) ∧ Hid (∀ x ∈ its l1, ItOk 2 x) ∧ Hid (Kp W0 wr (Xw q v)) ∧ Hid (Nv W0 v v1)) (fun lv _ => match lv with | .slice _ n _ => n | _ => 0)
  case atStart => exact ⟨A, n, c, l, v, s, F, rfl, hn, hF, HR, M0, I0, ap, ok, Lib.hid (Kp.refl _ _), Lib.hid (.inl rfl)⟩
  case round =>
    obtain ⟨A1, n1, c1, l1, v1, s1, F1, rfl, hn1, hF1, hr1, M1, I1, ap1, ok1, K1, N1⟩ := hrel
    have HL1 := Lib.hid I1.out.len
    by_cases hlt : 1 < n1
    · obtain ⟨F2, rfl⟩ : ∃ F2, F1 = F2 + 1 := ⟨F1 - 1, by omega⟩
      have hb1 : base ≤ wr.heap.size := Nat.le_trans hbW (Nat.le_trans hb0.size K1.out.size)
      have ST := store_any (base := base) (q := q) (kind := 2) (root := root) (.inr rfl) (l1.length + 1) v1 s1 A1 n1 c1 l1 wr (by omega) M1 I1 ap1 ok1 (by omega) hb1
      have ST := Lib.hid ST
      have HD : Hid (dnF F2 (stoF 2 (its l1) s1).1 (stoF 2 (its l1) s1).2 = r) := Lib.hid (by
        have h := hr1.out
        unfold dnF at h
        rwa [if_neg (by rw [its_len, ← HL1.out]; omega)] at h)
      have LEN := Lib.hid ((sto_len (kind := 2) (f := l1.length + 1) (s := s1) ok1.out).2 rfl (by rw [its_len, ← HL1.out]; omega))
      have OK2 := Lib.hid (sto_ok (kind := 2) (f := l1.length + 1) (ows_ok M1.out) ok1.out).1
      go_wp2_with fail
      go_at_call 52
      refine ST.out.mono ?_
      rintro e w2 ⟨A2, n2, c2, l2, v2, rfl, S2⟩
      have hn2 : n2 < n1 := by have h := LEN.out; rw [← S2.out.it, its_len, its_len, ← S2.out.ir.len, ← HL1.out] at h; exact h
      have AP2 : Hid (∀ g, 0 < n2 → blk A2 = some g → ¬ Xw q v2 g) := Lib.hid fun g _ e => by
        rcases S2.out.ow with ⟨⟨_, h⟩, _⟩ | h
        · have := HL1.out; omega
        · exact own_apx h S2.out.wm g e
      have K2 := Lib.hid (K1.out.xw S2.out.kp N1.out)
      have N2 : Hid (Nv W0 v v2) := Lib.hid (Nw.trans N1.out S2.out.nv K1.out.size)
      have HD2 : Hid (dnF F2 (its l2) (stoF 2 (its l1) s1).2 = r) := Lib.hid (by rw [S2.out.it]; have h := HD.out; unfold stoF at h ⊢; rw [its_len] at h ⊢; exact h)
      have WM2 : Hid (Wm w2 base q root v2 (stoF 2 (its l1) s1).2) := Lib.hid (by unfold stoF; rw [its_len]; exact S2.out.wm)
      go_wp2_with fail
      go_roundw
      case rel => exact ⟨A2, n2, c2, l2, v2, _, F2, rfl, by omega, by omega, HD2, WM2, Lib.hid S2.out.ir, AP2, by rw [S2.out.it]; exact OK2, K2, N2⟩
      case measure => simp; omega
    · have HRR : Hid (r = (its l1, s1)) := Lib.hid (by rw [← hr1.out, dnF_stop (by rw [its_len, ← HL1.out]; omega)])
      have q0 := M1.out.bx.at_ 0 (by simp)
      have q1 := M1.out.bx.at_ 1 (by simp)
      have q2 := M1.out.bx.at_ 2 (by simp)
      have q3 := M1.out.bx.at_ 3 (by simp)
      simp only [List.getElem?_cons_succ, List.getElem?_cons_zero] at q0 q1 q2 q3
      have qf1 := M1.out.bx.fz 1 (by simp)
      have hc1 := I1.out.row.nc
      have hc163 := I1.out.row.c63
      have MR := fun r2 : Int => M1.out.root (r2 := r2)
      have MR := Lib.hid MR
      by_cases h0 : n1 = 0
      · subst h0
        obtain rfl : l1 = [] := List.eq_nil_of_length_eq_zero HL1.out.symm
        go_upto_region 6 with fail
        obtain ⟨W2, hW2⟩ : ∃ W2, wr.setCell ⟨q, 1, none⟩ (.int .i64 (-1)) = W2 := ⟨_, rfl⟩
        have M2 : Wm W2 base q (-1) v1 s1 := hW2 ▸ MR.out (-1)
        have K2 : Kp wr W2 (· = q) := hW2 ▸ Kp.of_set wr ⟨q, 1, none⟩ _ rfl
        rw [hW2]
        clear hW2 q0 q1 q2 q3 qf1
        have ROOT : Hid ((-1 : Int) = rootOf (its [])) := Lib.hid rfl
        have X2 := Lib.hid ((X0.out.kp K1.out nR).kp K2 (by omega))
        have q0 := M2.bx.at_ 0 (by simp)
        have q1 := M2.bx.at_ 1 (by simp)
        have q2 := M2.bx.at_ 2 (by simp)
        have q3 := M2.bx.at_ 3 (by simp)
        simp only [List.getElem?_cons_succ, List.getElem?_cons_zero] at q0 q1 q2 q3
        have r0 := X2.out.at_ 0 (by simp)
        have r1 := X2.out.at_ 1 (by simp)
        have r2 := X2.out.at_ 2 (by simp)
        simp only [List.getElem?_cons_succ, List.getElem?_cons_zero] at r0 r1 r2
        have g0 := X2.out.fz 0 (by simp)
        have g1 := X2.out.fz 1 (by simp)
        have g2 := X2.out.fz 2 (by simp)
        have c0 := fun a => World.cell?_setCell_same W2 ⟨R0, 0, none⟩ a r0
        have c1 := fun a b => World.cell?_setCell_same (W2.setCell ⟨R0, 0, none⟩ a) ⟨R0, 1, none⟩ b ((World.cell?_setCell_other _ _ _ _ (by simp)).trans r1)
        have c2 := fun a b c => World.cell?_setCell_same ((W2.setCell ⟨R0, 0, none⟩ a).setCell ⟨R0, 1, none⟩ b) ⟨R0, 2, none⟩ c ((World.cell?_setCell_other _ _ _ _ (by simp)).trans ((World.cell?_setCell_other _ _ _ _ (by simp)).trans r2))
        have C0 := Lib.hid c0
        have C1 := Lib.hid c1
        have C2 := Lib.hid c2
        clear c0 c1 c2
        have END := fun (e : Ending) (a b c : Value) he => (show DnPost W base r e _ by rw [HRR.out]; exact done_end (a := a) (b := b) (c := c) (e := e) hR0 (by omega) hb0 hs0 M.out T0.out K1.out N1.out M2 K2 (l := its []) ROOT.out he)
        have END := Lib.hid END
        obtain ⟨pn, hpn⟩ : ∃ pn, v1.ps.length = pn := ⟨_, rfl⟩
        obtain ⟨fn, hfn⟩ : ∃ fn, s1.fr.length = fn := ⟨_, rfl⟩
        rw [hpn] at q0 END
        rw [hfn] at q2 END
        clear hpn hfn M2 K2
        rcases hful : s1.full with _ | _
        · rw [hful] at q3
          have HF := Lib.hid hful
          clear hful
          go_wp2_with fail
          refine bodyPost_ret (v := .tuple #[.agg #[.slice v1.PA pn v1.pc, .int .i64 (-1), .slice v1.FA fn v1.fc], .int .i64 0]) (by simp [results, Tryd.results51, go_sem, C0.out, C1.out, C2.out]) rfl (END.out _ _ _ _ (.inr ⟨HF.out, rfl⟩))
        · rw [hful] at q3
          have HF := Lib.hid hful
          clear hful
          go_wp2_with fail
          refine bodyPost_ret (v := .tuple #[.agg #[.slice none 0 0, .int .i64 0, .slice none 0 0], .int .i64 5]) (by simp [results, Tryd.results51, go_sem, C0.out, C1.out, C2.out]) rfl (END.out _ _ _ _ (.inl ⟨HF.out, rfl⟩))
      · obtain rfl : n1 = 1 := by omega
        obtain ⟨g, o, x, rfl, hg, hx, _, _, x2⟩ := Rd.item I1.out.row (show 0 < 1 by omega)
        rw [Nat.zero_mul, Nat.add_zero] at x2
        have hgq : g ≠ q := fun e => ap1.out g (by omega) rfl (.inl e)
        have ROOT : Hid (((x.ch : Nat) : Int) = rootOf (its l1)) := by
          match l1, hx with
          | y :: m, hx => obtain rfl : y = x := by simpa using hx
                          exact Lib.hid rfl
        have x3 : (wr.setCell ⟨q, 1, none⟩ (.int .i64 (-1))).cell? ⟨g, o + 2, none⟩ = some (.int .i64 (x.ch : Int)) := (World.cell?_setCell_other _ _ _ _ (by first | (simp; done) | (simp; omega))).trans x2
        clear hx x2
        go_upto_region 6 with fail
        obtain ⟨W2, hW2⟩ : ∃ W2, (wr.setCell ⟨q, 1, none⟩ (.int .i64 (-1))).setCell ⟨q, 1, none⟩ (.int .i64 (x.ch : Int)) = W2 := ⟨_, rfl⟩
        have M2 : Wm W2 base q (x.ch : Int) v1 s1 := hW2 ▸ (MR.out (-1)).root
        have K2 : Kp wr W2 (· = q) := hW2 ▸ (Kp.of_set (X := fun i => i = q) wr ⟨q, 1, none⟩ (.int .i64 (-1)) rfl).trans (Kp.of_set (X := fun i => i = q) _ ⟨q, 1, none⟩ _ rfl) fun _ _ e => e
        rw [hW2]
        clear hW2 q0 q1 q2 q3 qf1 x3
        have X2 := Lib.hid ((X0.out.kp K1.out nR).kp K2 (by omega))
        have q0 := M2.bx.at_ 0 (by simp)
        have q1 := M2.bx.at_ 1 (by simp)
        have q2 := M2.bx.at_ 2 (by simp)
        have q3 := M2.bx.at_ 3 (by simp)
        simp only [List.getElem?_cons_succ, List.getElem?_cons_zero] at q0 q1 q2 q3
        have r0 := X2.out.at_ 0 (by simp)
        have r1 := X2.out.at_ 1 (by simp)
        have r2 := X2.out.at_ 2 (by simp)
        simp only [List.getElem?_cons_succ, List.getElem?_cons_zero] at r0 r1 r2
        have g0 := X2.out.fz 0 (by simp)
        have g1 := X2.out.fz 1 (by simp)
        have g2 := X2.out.fz 2 (by simp)
        have c0 := fun a => World.cell?_setCell_same W2 ⟨R0, 0, none⟩ a r0
        have c1 := fun a b => World.cell?_setCell_same (W2.setCell ⟨R0, 0, none⟩ a) ⟨R0, 1, none⟩ b ((World.cell?_setCell_other _ _ _ _ (by simp)).trans r1)
        have c2 := fun a b c => World.cell?_setCell_same ((W2.setCell ⟨R0, 0, none⟩ a).setCell ⟨R0, 1, none⟩ b) ⟨R0, 2, none⟩ c ((World.cell?_setCell_other _ _ _ _ (by simp)).trans ((World.cell?_setCell_other _ _ _ _ (by simp)).trans r2))
        have C0 := Lib.hid c0
        have C1 := Lib.hid c1
        have C2 := Lib.hid c2
        clear c0 c1 c2
        have END := fun (e : Ending) (a b c : Value) he => (show DnPost W base r e _ by rw [HRR.out]; exact done_end (a := a) (b := b) (c := c) (e := e) hR0 (by omega) hb0 hs0 M.out T0.out K1.out N1.out M2 K2 (l := its l1) ROOT.out he)
        have END := Lib.hid END
        obtain ⟨pn, hpn⟩ : ∃ pn, v1.ps.length = pn := ⟨_, rfl⟩
        obtain ⟨fn, hfn⟩ : ∃ fn, s1.fr.length = fn := ⟨_, rfl⟩
        rw [hpn] at q0 END
        rw [hfn] at q2 END
        clear hpn hfn M2 K2
        rcases hful : s1.full with _ | _
        · rw [hful] at q3
          have HF := Lib.hid hful
          clear hful
          go_wp2_with fail
          refine bodyPost_ret (v := .tuple #[.agg #[.slice v1.PA pn v1.pc, .int .i64 (x.ch : Int), .slice v1.FA fn v1.fc], .int .i64 0]) (by simp [results, Tryd.results51, go_sem, C0.out, C1.out, C2.out]) rfl (END.out _ _ _ _ (.inr ⟨HF.out, rfl⟩))
        · rw [hful] at q3
          have HF := Lib.hid hful
          clear hful
          go_wp2_with fail
          refine bodyPost_ret (v := .tuple #[.agg #[.slice none 0 0, .int .i64 0, .slice none 0 0], .int .i64 5]) (by simp [results, Tryd.results51, go_sem, C0.out, C1.out, C2.out]) rfl (END.out _ _ _ _ (.inl ⟨HF.out, rfl⟩))
end Go.Proofs.YtphiblmkgbkdmaaDoor.Pg
