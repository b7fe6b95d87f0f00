/- The walk of the writer's put. -/
import Derived.Test.YtphiblmkgbkdmaaDoorPgWm
import Derived.Deep.RegionHeld3
import Derived.Deep.DrawnRows
import Derived.Deep.Cut
namespace Go.Proofs.YtphiblmkgbkdmaaDoor.Pg
set_option linter.unusedVariables false
set_option linter.unusedSimpArgs false
open Go.RowKit Wl

theorem encode_any {kind : Nat} {A : Option Addr} {n c : Nat} {l : List IV} (hk : kind = 1 ∨ kind = 2) (w : World) (h : Hid (Rd w 3 A n c (ic l))) (hd1 : Hid (∀ x ∈ l, Rd w 1 x.kA x.k.length x.kc (bv x.k) ∧ Rd w 1 x.vA x.v.length x.vc (bv x.v)))
    (hl : Hid (∀ x ∈ its l, ItOk kind x)) (ht : Hid (tot kind (its l) ≤ 250)) (hn : n ≤ 250) :
    Calls Tryd.prog 86 #[.int .i64 (kind : Int), .slice A n c] w (EncPost w kind l) := by
  rcases hk with rfl | rfl
  · exact encode_1 w h hd1 hl ht hn
  · exact encode_2 w h hd1 hl ht hn
theorem putP_cons {kind : Nat} {l : List It} {s : Ws} {x : Nat} {fr : List Nat} (h : s.fr = x :: fr) : putP kind l s = (⟨hkey l, [], x⟩, ⟨s.pg.set x (enc kind l), fr, s.full⟩) := by unfold putP; rw [h]
theorem putP_full {kind : Nat} {l : List It} {s : Ws} (h : s.fr = []) (hp : s.pg.length = 4096) : putP kind l s = (⟨hkey l, [], 0⟩, ⟨s.pg, [], true⟩) := by unfold putP; rw [h]; simp only; rw [if_pos hp]
theorem putP_add {kind : Nat} {l : List It} {s : Ws} (h : s.fr = []) (hp : s.pg.length ≠ 4096) : putP kind l s = (⟨hkey l, [], s.pg.length⟩, ⟨s.pg ++ [enc kind l], [], s.full⟩) := by unfold putP; rw [h]; simp only; rw [if_neg hp]
/-- The free places but the first. -/
theorem fr_tail {W : World} {A : Option Addr} {n c x : Nat} {l : List Nat} (h : Rd W 1 A n c (nv (x :: l))) : ∃ g o o', A = some ⟨g, o, none⟩ ∧ g < W.heap.size ∧ W.cell? ⟨g, o, none⟩ = some (.int .i64 (x : Int)) ∧ (if c = 1 then o' = o else o' = o + 1) ∧ Rd W 1 (some ⟨g, o', none⟩) (n - 1) (c - 1) (nv l) := by
  have hn : n = l.length + 1 := by have := h.len; rw [nv_len] at this; simp at this; omega
  obtain ⟨g, o, e, hb, hc⟩ := h.at_ (by omega)
  have h63 := h.c63
  have hnc := h.nc
  refine ⟨g, o, if c = 1 then o else o + 1, e, hb, by have := hc 0 (by omega); simpa [nv] using this, by split <;> rfl, by rw [nv_len]; omega, by omega, fun e => (by cases e), by omega, fun hp => ?_⟩
  rw [if_neg (by omega)]
  refine ⟨g, o + 1, rfl, hb, fun j hj => ?_⟩
  rw [Nat.add_assoc, hc (1 + j) (by omega), Nat.add_comm 1 j]
  simp [nv]
def PuPost (W : World) (base q : Nat) (root : Int) (v : WV) (s : Ws) (kind : Nat) (l : List IV) (e : Ending) (W' : World) : Prop :=
  ∃ (x : IV) (v' : WV), e = .returned (.agg #[.slice x.kA x.k.length x.kc, .slice x.vA x.v.length x.vc, .int .i64 (x.ch : Int)]) ∧ x.it = (putP kind (its l) s).1 ∧ Hid (Wm W' base q root v' (putP kind (its l) s).2) ∧ Hid (Kp W W' (Xw q v)) ∧ Hid (Nv W v v') ∧ Hid (Iy W' base x)
/-- The end of put: its result is laid. -/
theorem put_end {W W6 : World} {base q kind R0 kn kc ch : Nat} {kA : Option Addr} {kd : List UInt8} {root : Int} {v v' : WV} {s s' : Ws} {l : List IV} {a b c : Value} (hR0 : W.heap.size = R0) (hb : base ≤ R0) (M : Wm W base q root v s) (M6 : Wm W6 base q root v' s') (k6 : Kp W W6 (Xw q v)) (n6 : Nv W v v') (ty : Ty W6 R0 86)
    (hkn : kd.length = kn) (key : By W base kA kc kd) (hA : blk v'.PA ≠ some R0) (hF : ∀ g, 0 < s'.fr.length → blk v'.FA = some g → g ≠ R0) (hP : putP kind (its l) s = (⟨kd, [], ch⟩, s')) :
    PuPost W base q root v s kind l (.returned (.agg #[.slice kA kn kc, .slice none 0 0, .int .i64 (ch : Int)])) (((W6.setCell ⟨R0, 0, none⟩ a).setCell ⟨R0, 1, none⟩ b).setCell ⟨R0, 2, none⟩ c) := by
  have k1 : Kp W6 (W6.setCell ⟨R0, 0, none⟩ a) (· = R0) := Kp.of_set W6 ⟨R0, 0, none⟩ _ rfl
  have k2 : Kp (W6.setCell ⟨R0, 0, none⟩ a) ((W6.setCell ⟨R0, 0, none⟩ a).setCell ⟨R0, 1, none⟩ b) (· = R0) := Kp.of_set _ ⟨R0, 1, none⟩ _ rfl
  have k3 : Kp ((W6.setCell ⟨R0, 0, none⟩ a).setCell ⟨R0, 1, none⟩ b) (((W6.setCell ⟨R0, 0, none⟩ a).setCell ⟨R0, 1, none⟩ b).setCell ⟨R0, 2, none⟩ c) (· = R0) := Kp.of_set _ ⟨R0, 2, none⟩ _ rfl
  have kk := (k1.trans k2 fun _ _ e => e).trans k3 fun _ _ e => e
  have hqR : q < R0 := hR0 ▸ M.bx.lt
  have M7 := M6.kp kk (fun e => by omega) (fun g e e' => hA (e' ▸ e)) (fun g h e e' => hF g h e e') fun i e => e ▸ ty.nsf hb (by decide)
  have K7 : Kp W _ (Xw q v) := (k6.mono (Y := fun i => Xw q v i ∨ i = R0) fun _ _ e => .inl e).trans kk (fun i _ e => .inr e) |>.mono fun i hi e => e.elim id fun e => by omega
  refine ⟨⟨kA, kc, kd, none, 0, [], ch⟩, v', by simp only [List.length_nil]; rw [hkn], by rw [hP]; rfl, by rw [hP]; exact Lib.hid M7, Lib.hid K7, Lib.hid n6, Lib.hid ⟨key.wr (Wr.of_kp K7 M.nsf), ⟨Rd.nil_ _ _, fun g h => by simp at h⟩⟩⟩
set_option maxRecDepth 20000 in
set_option maxHeartbeats 6400000 in
theorem put_any {base q kind : Nat} {root : Int} {v : WV} {s : Ws} {A : Option Addr} {n c : Nat} {l : List IV} {y : IV} (W : World) (hk : kind = 1 ∨ kind = 2) (M : Hid (Wm W base q root v s)) (hI : Hid (Ir W base A n c l)) (hy : Hid (l[0]? = some y))
    (hok : Hid (∀ x ∈ its l, ItOk kind x)) (ht : Hid (tot kind (its l) ≤ 250)) (hn : n ≤ 250) (hbW : base ≤ W.heap.size) :
    Calls Tryd.prog 74 #[.pointer (some ⟨q, 0, none⟩), .int .i64 (kind : Int), .slice A n c] W (PuPost W base q root v s kind l) := by
  obtain ⟨R0, hR0⟩ : ∃ R0, W.heap.size = R0 := ⟨_, rfl⟩
  obtain ⟨W0, hW0⟩ : ∃ W0, W.alloc (.cells #[.slice none 0 0, .slice none 0 0, .int .i64 0] 86) = W0 := ⟨_, rfl⟩
  have hb0 : Below W.heap.size W W0 := hW0 ▸ bal _ _
  have X0 : Hid (Bx W0 R0 [.slice none 0 0, .slice none 0 0, .int .i64 0]) := hW0 ▸ Lib.hid (Bx.put W hR0 #[.slice none 0 0, .slice none 0 0, .int .i64 0] 86)
  have hs0 : W0.heap.size = R0 + 1 := by rw [← hW0, ← hR0]; simp
  have I0 := Lib.hid (hI.out.below hb0)
  have M0 := Lib.hid (M.out.low hb0)
  have HW0 := Lib.hid hW0
  have hqR : q < R0 := hR0 ▸ M.out.bx.lt
  have D0 : Hid (∀ x ∈ l, Rd W0 1 x.kA x.k.length x.kc (bv x.k) ∧ Rd W0 1 x.vA x.v.length x.vc (bv x.v)) := Lib.hid fun x hx => ⟨(I0.out.dat x hx).k.rd, (I0.out.dat x hx).v.rd⟩
  have HLI : Hid ((its l)[0]? = some y.it) := Lib.hid (by unfold its; rw [List.getElem?_map, hy.out]; rfl)
  have HK : Hid (hkey (its l) = y.k) := Lib.hid (by
    have := HLI.out
    rcases he : its l with _ | ⟨a, m⟩
    · rw [he] at this; cases this
    · rw [he] at this; injection this with this; rw [this]; rfl)
  have hn1 : 1 ≤ n := by have := hI.out.len; have := (List.getElem?_eq_some_iff.1 hy.out).1; omega
  clear hW0
  go_enter Tryd.func74, Tryd.ntmps74
  go_wp2_with fail
  rw [HW0.out]
  go_at_call 86
  refine (encode_any hk _ (Lib.hid I0.out.row) D0 hok ht hn).mono ?_
  rintro e W1 ⟨rfl, RW, b1⟩
  rw [hs0] at RW ⊢
  have M1 := Lib.hid (M0.out.low b1)
  have I1 := Lib.hid (I0.out.below b1)
  have X1 := Lib.hid (X0.out.step b1)
  have hs1 : R0 + 2 ≤ W1.heap.size := by have := RW.out.lt; omega
  have KB1 : Hid (Below W.heap.size W W1) := Lib.hid (hb0.trans (b1.mono hb0.size))
  obtain ⟨g, o, y', hA, hg, hy', c0, c1, c2⟩ := Rd.item I1.out.row (show 0 < n by omega)
  obtain rfl : y = y' := by have := hy.out; rw [this] at hy'; injection hy'
  clear hy' c1 c2
  subst hA
  simp only [IV.kv, Nat.zero_mul, Nat.add_zero] at c0
  obtain ⟨X, hX⟩ : ∃ X, W1.heap.size = X := ⟨_, rfl⟩
  obtain ⟨kn, hkn⟩ : ∃ kn, y.k.length = kn := ⟨_, rfl⟩
  rw [hkn] at c0
  have hc := I1.out.row.nc
  have hc63 := I1.out.row.c63
  -- the writer's cells
  obtain ⟨W2, hW2⟩ : ∃ W2, W1.alloc (.cells #[.slice y.kA kn y.kc, .slice none 0 0, .int .i64 0] 86) = W2 := ⟨_, rfl⟩
  have b2 : Below W1.heap.size W1 W2 := hW2 ▸ bal _ _
  have M2 := Lib.hid (M1.out.low b2)
  have X2 := Lib.hid (X1.out.step b2)
  have RW2 := Lib.hid (RW.out.step b2)
  have IX2 : Hid (Bx W2 X [.slice y.kA kn y.kc, .slice none 0 0, .int .i64 0]) := hW2 ▸ Lib.hid (Bx.put W1 hX #[.slice y.kA kn y.kc, .slice none 0 0, .int .i64 0] 86)
  have KB2 : Hid (Below W.heap.size W W2) := Lib.hid (KB1.out.trans (b2.mono KB1.out.size))
  have YK2 := Lib.hid ((I1.out.dat y (List.mem_of_getElem? hy.out)).wr (Wr.of_below b2 base)).k
  have hs2 : W2.heap.size = X + 1 := by rw [← hW2, ← hX]; simp
  have HW2 := Lib.hid hW2
  clear hW2
  have z0 := M2.out.bx.at_ 0 (by simp)
  have z2 := M2.out.bx.at_ 2 (by simp)
  have z3 := M2.out.bx.at_ 3 (by simp)
  simp only [List.getElem?_cons_succ, List.getElem?_cons_zero] at z0 z2 z3
  have f0 := M2.out.bx.fz 0 (by simp)
  have f2 := M2.out.bx.fz 2 (by simp)
  have f3 := M2.out.bx.fz 3 (by simp)
  have x0 := IX2.out.at_ 0 (by simp)
  have x1 := IX2.out.at_ 1 (by simp)
  have x2 := IX2.out.at_ 2 (by simp)
  simp only [List.getElem?_cons_succ, List.getElem?_cons_zero] at x0 x1 x2
  have xf2 := IX2.out.fz 2 (by simp)
  have PN : Hid (v.ps.length = s.pg.length) := Lib.hid (by have := congrArg List.length M.out.pgs; simpa using this)
  have hpg4 := M.out.n4
  go_upto_region 5 with fail
  rw [HW2.out]
  rcases hfr : s.fr with _ | ⟨x9, fr9⟩
  · rw [hfr] at z2
    have KY := Lib.hid ((hI.out.dat y (List.mem_of_getElem? hy.out)).k)
    have HFR := Lib.hid hfr
    obtain ⟨pn, hpnn⟩ : ∃ pn, v.ps.length = pn := ⟨_, rfl⟩
    rw [hpnn] at z0
    have HPN := Lib.hid hpnn
    have hpn4 : pn ≤ 4096 := by have := PN.out; omega
    have PNN : Hid (s.pg.length = pn) := Lib.hid (by have := PN.out; omega)
    have TY2 : Hid (Ty W2 R0 86) := Lib.hid (((HW0.out ▸ hR0 ▸ Ty.new W _ _ : Ty W0 R0 86).step b1).step b2)
    have nRA : ¬ blk v.PA = some R0 := fun e => by have := (own_blk_le M.out.own e).2; omega
    have nXA : ¬ blk v.PA = some X := fun e => by have := (own_blk_le M.out.own e).2; omega
    have nX : ¬ Xw q v X := by rintro (e | e); omega; exact nXA e
    have nR : ¬ Xw q v R0 := by rintro (e | e); omega; exact nRA e
    clear hfr hpnn PN hpg4
    by_cases h4 : pn = 4096
    · subst h4
      have HP := Lib.hid (putP_full (kind := kind) (l := its l) HFR.out PNN.out)
      obtain ⟨M6, K6⟩ := M2.out.setFull
      rw [HFR.out] at M6
      obtain ⟨W6, hW6⟩ : ∃ W6, W2.setCell ⟨q, 3, none⟩ (.bool true) = W6 := ⟨_, rfl⟩
      rw [hW6] at M6 K6
      have HW6 := Lib.hid hW6
      clear hW6
      go_upto_region 11 with fail
      rw [HW6.out]
      have KX6 : Hid (Kp W W6 (Xw q v)) := Lib.hid ((Kp.of_below KB2.out (Xw q v)).trans K6 fun _ _ e => e)
      have NV6 : Nv W v v := .inl rfl
      have nRA2 : blk v.PA ≠ some R0 := nRA
      have IX6 := Lib.hid (IX2.out.kp K6 nX)
      have X6 := Lib.hid (X2.out.kp K6 nR)
      have TY6 := Lib.hid (TY2.out.kp K6 nR)
      have i0 := IX6.out.at_ 0 (by simp)
      have i1 := IX6.out.at_ 1 (by simp)
      have i2 := IX6.out.at_ 2 (by simp)
      have r0 := X6.out.at_ 0 (by simp)
      have r1 := X6.out.at_ 1 (by simp)
      have r2 := X6.out.at_ 2 (by simp)
      simp only [List.getElem?_cons_succ, List.getElem?_cons_zero] at i0 i1 i2 r0 r1 r2
      have g0 := X6.out.fz 0 (by simp)
      have g1 := X6.out.fz 1 (by simp)
      have g2 := X6.out.fz 2 (by simp)
      have PEND := fun a b c => put_end (kind := kind) (l := l) (kn := kn) (ch := 0) (a := a) (b := b) (c := c) hR0 (by omega) M.out M6 KX6.out NV6 TY6.out hkn KY.out nRA2 (fun g h e => by simp at h) (by rw [HP.out, HK.out])
      have PEND := Lib.hid PEND
      clear K6 M6
      go_wp2_with fail
      have h0 := World.cell?_setCell_same W6 ⟨R0, 0, none⟩ (.slice y.kA kn y.kc) r0
      have h1 := World.cell?_setCell_same (W6.setCell ⟨R0, 0, none⟩ (.slice y.kA kn y.kc)) ⟨R0, 1, none⟩ (.slice none 0 0) ((World.cell?_setCell_other _ _ _ _ (by simp)).trans r1)
      have h2 := World.cell?_setCell_same ((W6.setCell ⟨R0, 0, none⟩ (.slice y.kA kn y.kc)).setCell ⟨R0, 1, none⟩ (.slice none 0 0)) ⟨R0, 2, none⟩ (.int .i64 0) ((World.cell?_setCell_other _ _ _ _ (by simp)).trans ((World.cell?_setCell_other _ _ _ _ (by simp)).trans r2))
      exact bodyPost_ret (v := .agg #[.slice y.kA kn y.kc, .slice none 0 0, .int .i64 0]) (by simp [results, Tryd.results74, go_sem, h0, h1, h2]) rfl (PEND.out _ _ _)
    · have HP := Lib.hid (putP_add (kind := kind) (l := its l) HFR.out (by rw [PNN.out]; exact h4))
      obtain ⟨i0, hi, hz0, hz1, hz2⟩ := info_parts info_page
      obtain ⟨W3, hW3⟩ : ∃ W3, W2.setCell ⟨X, 2, none⟩ (.int .i64 (pn : Int)) = W3 := ⟨_, rfl⟩
      have k23 : Kp W2 W3 (· = X) := hW3 ▸ Kp.of_set W2 ⟨X, 2, none⟩ _ rfl
      have b13 : Below W1.heap.size W1 W3 := b2.trans (k23.low b2.size fun i e => by omega)
      have M3 := Lib.hid (M1.out.low b13)
      have RW3 := Lib.hid (RW.out.step b13)
      have X3 := Lib.hid (X1.out.step b13)
      have TY3 : Hid (Ty W3 R0 86) := Lib.hid (((HW0.out ▸ hR0 ▸ Ty.new W _ _ : Ty W0 R0 86).step b1).step b13)
      have IX3 : Hid (Bx W3 X [.slice y.kA kn y.kc, .slice none 0 0, .int .i64 (pn : Int)]) := hW3 ▸ Lib.hid (IX2.out.set (j := 2) (by simp) (.int .i64 (pn : Int)))
      have KB3 : Hid (Below W.heap.size W W3) := Lib.hid (KB1.out.trans (b13.mono KB1.out.size))
      have hs3 : W3.heap.size = X + 1 := by rw [← hW3]; simp; exact hs2
      have HW3 := Lib.hid hW3
      clear hW3
      go_upto_region 4 with fail
      rw [HW3.out]
      have z0 := M3.out.bx.at_ 0 (by simp)
      rw [HPN.out] at z0
      simp only [List.getElem?_cons_succ, List.getElem?_cons_zero] at z0
      obtain ⟨W4, hW4⟩ : ∃ W4, W3.alloc (.cells #[.slice (some ⟨R0 + 1, 0, none⟩) 256 256] 22) = W4 := ⟨_, rfl⟩
      have b34 : Below W3.heap.size W3 W4 := hW4 ▸ bal _ _
      have RL : Hid (Rd W4 1 (some ⟨W3.heap.size, 0, none⟩) 1 1 [.slice (some ⟨R0 + 1, 0, none⟩) 256 256]) := hW4 ▸ Lib.hid (Rd.lit W3 22 1 #[.slice (some ⟨R0 + 1, 0, none⟩) 256 256] 1 (by omega) rfl)
      rw [hs3] at RL
      have M4 := Lib.hid (M3.out.low b34)
      have RW4 := Lib.hid (RW3.out.step b34)
      have X4 := Lib.hid (X3.out.step b34)
      have IX4 := Lib.hid (IX3.out.step b34)
      have TY4 := Lib.hid (TY3.out.step b34)
      have KB4 : Hid (Below W.heap.size W W4) := Lib.hid (KB3.out.trans (b34.mono KB3.out.size))
      have OW := M4.out.own
      rw [HPN.out] at OW
      have hbW4 : base ≤ W4.heap.size := by have := KB4.out.size; omega
      have HW4 := Lib.hid hW4
      clear hW4
      go_wp2_with (at_builtin; apply hold)
      unfold Hold
      rw [HW4.out]
      refine wpList_app _ rfl (.tmp 29) (.tmp 31) 27 rfl base 22 i0 (.slice none 0 0) 1 24 Tryd.underlying27 hi hz0 hz1 hz2 rfl (by omega) (by rfl) OW (by rfl) RL.out (one1 _ rfl) (by omega) (by omega) hbW4 ?_
      intro A5 c5 W5 own5 g5
      have P := M4.out.push HFR.out (by rw [PNN.out]; exact h4) RW4.out (enc_len hok.out ht.out) (by rw [HPN.out]; exact own5) g5
      rw [HPN.out] at P
      obtain ⟨M6, K6, N6⟩ := P
      have BQ := M4.out.bx.kp (Kp.of_grew (X := fun i => blk v.PA = some i) g5 fun _ e => e) M4.out.apq
      have q0 := BQ.at_ 0 (by simp)
      simp only [List.getElem?_cons_zero] at q0
      have qf0 := BQ.fz 0 (by simp)
      obtain ⟨W6, hW6⟩ : ∃ W6, W5.setCell ⟨q, 0, none⟩ (.slice A5 (pn + 1) c5) = W6 := ⟨_, rfl⟩
      rw [hW6] at M6 K6
      have HW6 := Lib.hid hW6
      clear hW6 BQ own5 g5
      go_upto_region 11 with fail
      rw [HW6.out]
      have KX6 : Hid (Kp W W6 (Xw q v)) := Lib.hid ((Kp.of_below KB4.out (Xw q v)).trans K6 fun _ _ e => e)
      have NV6 : Nv W v ⟨A5, c5, v.ps ++ [⟨some ⟨R0 + 1, 0, none⟩, 256, enc kind (its l)⟩], v.FA, v.fc⟩ := by
        rcases N6 with h | ⟨g, h1, h2⟩
        · exact .inl h
        · exact .inr ⟨g, h1, by have := KB4.out.size; omega⟩
      have nRA2 : blk A5 ≠ some R0 := by
        intro e
        rcases N6 with h | ⟨g, h1, h2⟩
        · exact nRA (h ▸ e)
        · have h1 : blk A5 = some g := h1
          rw [h1] at e; injection e with e; have := KB4.out.size; have := RW4.out.lt; omega
      have HP : Hid (putP kind (its l) s = (⟨hkey (its l), [], pn⟩, ⟨s.pg ++ [enc kind (its l)], [], s.full⟩)) := by rw [HP.out, PNN.out]; exact Lib.hid rfl
      clear q0 qf0
      have IX6 := Lib.hid (IX4.out.kp K6 nX)
      have X6 := Lib.hid (X4.out.kp K6 nR)
      have TY6 := Lib.hid (TY4.out.kp K6 nR)
      have i0 := IX6.out.at_ 0 (by simp)
      have i1 := IX6.out.at_ 1 (by simp)
      have i2 := IX6.out.at_ 2 (by simp)
      have r0 := X6.out.at_ 0 (by simp)
      have r1 := X6.out.at_ 1 (by simp)
      have r2 := X6.out.at_ 2 (by simp)
      simp only [List.getElem?_cons_succ, List.getElem?_cons_zero] at i0 i1 i2 r0 r1 r2
      have g0 := X6.out.fz 0 (by simp)
      have g1 := X6.out.fz 1 (by simp)
      have g2 := X6.out.fz 2 (by simp)
      have PEND := fun a b c => put_end (kind := kind) (l := l) (kn := kn) (ch := pn) (a := a) (b := b) (c := c) hR0 (by omega) M.out M6 KX6.out NV6 TY6.out hkn KY.out nRA2 (fun g h e => by simp at h) (by rw [HP.out, HK.out])
      have PEND := Lib.hid PEND
      clear K6 M6
      go_wp2_with fail
      have h0 := World.cell?_setCell_same W6 ⟨R0, 0, none⟩ (.slice y.kA kn y.kc) r0
      have h1 := World.cell?_setCell_same (W6.setCell ⟨R0, 0, none⟩ (.slice y.kA kn y.kc)) ⟨R0, 1, none⟩ (.slice none 0 0) ((World.cell?_setCell_other _ _ _ _ (by simp)).trans r1)
      have h2 := World.cell?_setCell_same ((W6.setCell ⟨R0, 0, none⟩ (.slice y.kA kn y.kc)).setCell ⟨R0, 1, none⟩ (.slice none 0 0)) ⟨R0, 2, none⟩ (.int .i64 (pn : Int)) ((World.cell?_setCell_other _ _ _ _ (by simp)).trans ((World.cell?_setCell_other _ _ _ _ (by simp)).trans r2))
      exact bodyPost_ret (v := .agg #[.slice y.kA kn y.kc, .slice none 0 0, .int .i64 (pn : Int)]) (by simp [results, Tryd.results74, go_sem, h0, h1, h2]) rfl (PEND.out _ _ _)
  · have HP := Lib.hid (putP_cons (kind := kind) (l := its l) hfr)
    obtain ⟨fn, hfn⟩ : ∃ fn, s.fr.length = fn := ⟨_, rfl⟩
    have hfn9 : fr9.length + 1 = fn := by rw [← hfn, hfr]; rfl
    have hx9 := M2.out.frl x9 (by rw [hfr]; simp)
    have FR2 := M2.out.fr
    have FB2 := M2.out.frb
    rw [hfn] at FB2
    rw [hfr, show (x9 :: fr9).length = fn by rw [← hfn, hfr]] at FR2
    obtain ⟨gf, of, of', hFA, hgf, cf, hof, FT⟩ := fr_tail FR2
    have FT := Lib.hid FT
    have FC := FR2.nc
    have FC63 := FR2.c63
    obtain ⟨nf1, nf2⟩ := FB2 gf (by omega) (by rw [hFA]; rfl)
    rw [hfn, hFA] at z2
    obtain ⟨gp, hPA, hpn, hp63⟩ := own_pos M2.out.own (by omega)
    rw [hPA] at z0
    have OW := M2.out.own
    rw [hPA] at OW
    obtain ⟨pc0, pf0⟩ := own_cell OW hx9
    have OW := Lib.hid OW
    have hgpq : gp ≠ q := fun e => M2.out.apq (by rw [hPA]; simp [blk, e])
    have hgpf : gp ≠ gf := fun e => nf2 (by rw [hPA]; simp [blk, e])
    have hgpX : gp < X := by have := (own_blk_le M1.out.own (show blk v.PA = some gp by rw [hPA]; rfl)).2; omega
    have hgpR : gp < R0 := by have := (own_blk_le M.out.own (show blk v.PA = some gp by rw [hPA]; rfl)).2; omega
    have hqX : q < X := by omega
    obtain ⟨pn, hpnn⟩ : ∃ pn, v.ps.length = pn := ⟨_, rfl⟩
    rw [hpnn] at z0 hpn hx9
    have HPN := Lib.hid hpnn
    clear hpnn FR2 FB2
    have pc0' : ∃ u, W2.cell? ⟨gp, x9, none⟩ = some u := by
      rw [pc0, List.getElem?_eq_getElem (by rw [pv_len]; have := HPN.out; omega)]; exact ⟨_, rfl⟩
    obtain ⟨u9, pc0'⟩ := pc0'
    clear pc0
    have HFR := Lib.hid hfr
    have HFN := Lib.hid hfn
    have hPA := Lib.hid hPA
    have hFA := Lib.hid hFA
    clear hfr hfn
    have KY := Lib.hid ((hI.out.dat y (List.mem_of_getElem? hy.out)).k)
    have hgfR : gf < R0 := by
      obtain ⟨g', o', e', hb', _⟩ := M.out.fr.at_ (by rw [HFR.out]; simp)
      rw [hFA.out] at e'; injection e' with e'; injection e' with e1 _; omega
    obtain ⟨W3, hW3⟩ : ∃ W3, W2.setCell ⟨X, 2, none⟩ (.int .i64 (x9 : Int)) = W3 := ⟨_, rfl⟩
    have k23 : Kp W2 W3 (· = X) := hW3 ▸ Kp.of_set W2 ⟨X, 2, none⟩ _ rfl
    have b13 : Below W1.heap.size W1 W3 := b2.trans (k23.low b2.size fun i e => by omega)
    have M3 := Lib.hid (M1.out.low b13)
    have RW3 := Lib.hid (RW.out.step b13)
    have X3 := Lib.hid (X1.out.step b13)
    have TY3 : Hid (Ty W3 R0 86) := Lib.hid (((HW0.out ▸ hR0 ▸ Ty.new W _ _ : Ty W0 R0 86).step b1).step b13)
    have IX3 : Hid (Bx W3 X [.slice y.kA kn y.kc, .slice none 0 0, .int .i64 (x9 : Int)]) := hW3 ▸ Lib.hid (IX2.out.set (j := 2) (by simp) (.int .i64 (x9 : Int)))
    have FT3 := Lib.hid (Rd.kp FT.out k23 fun g _ e => by simp [blk] at e; omega)
    have KB3 : Hid (Below W.heap.size W W3) := Lib.hid (KB1.out.trans (b13.mono KB1.out.size))
    have pc3 : W3.cell? ⟨gp, x9, none⟩ = some u9 := (k23.cell (by have := b13.size; have := M2.out.bx.lt; omega) (by omega)).trans pc0'
    have pf3 : W3.frozen? ⟨gp, x9, none⟩ = false := (World.frozen?_of_block (k23.block gp (by omega) (by omega))).trans pf0
    have nRA : blk v.PA ≠ some R0 := by rw [hPA.out]; simp [blk]; omega
    have HW3 := Lib.hid hW3
    clear hW3
    by_cases hc1 : v.fc = 1
    · obtain rfl : of' = of := by rwa [if_pos hc1] at hof
      go_upto_region 8 with fail
      rw [HW3.out]
      obtain ⟨W4, hW4⟩ : ∃ W4, W3.setCell ⟨q, 2, none⟩ (.slice (some ⟨gf, of', none⟩) (fn - 1) 0) = W4 := ⟨_, rfl⟩
      have k34 : Kp W3 W4 (· = q) := hW4 ▸ Kp.of_set W3 ⟨q, 2, none⟩ _ rfl
      have hq3 : q < W3.heap.size := M3.out.bx.lt
      have e0 : W4.cell? ⟨q, 0, none⟩ = some (.slice (some ⟨gp, 0, none⟩) pn v.pc) := by
        rw [← hW4, ← hPA.out, ← HPN.out]; exact (M3.out.bx.set (j := 2) (by simp) _).at_ 0 (by simp)
      have e1 : W4.cell? ⟨X, 2, none⟩ = some (.int .i64 (x9 : Int)) := (k34.cell IX3.out.lt (by omega)).trans (IX3.out.at_ 2 (by simp))
      have e2 : W4.cell? ⟨gp, x9, none⟩ = some u9 := (k34.cell (by have := k23.size; omega) hgpq).trans pc3
      have e3 : W4.frozen? ⟨gp, x9, none⟩ = false := (World.frozen?_of_block (k34.block gp (by have := k23.size; omega) hgpq)).trans pf3
      have HW4 := Lib.hid hW4
      rw [hW4]
      clear hW4
      refine wp_region_mid (fun w' => ∃ k : Nat, w' = W4.drewN k) 9 1 (by kernel_rfl) (by kernel_rfl) ⟨1, rfl⟩ ?_
      simp only [List.take_succ_cons, List.take_zero, List.drop_succ_cons, List.drop_zero]
      repeat (go_big_quiet_step (fail))
      refine wpQuiet_nil ?_
      rintro w5 ⟨k5, rfl⟩
      go_wp2_with fail
      refine MidQ.intro (fun w' => w' = _) rfl ?_
      refine wpQuiet_nil ?_
      rintro W6 hW6
      obtain ⟨M6, K6⟩ := M3.out.take (k := k5) HFR.out hPA.out (by rw [hFA.out]; rfl) (by rw [show fr9.length = fn - 1 by omega]; exact FT3.out) RW3.out (enc_len hok.out ht.out)
      rw [show fr9.length = fn - 1 by omega, show v.fc - 1 = 0 by omega, HW4.out, ← hW6] at M6 K6
      have KX6 : Hid (Kp W W6 (Xw q v)) := Lib.hid ((Kp.of_below KB3.out (Xw q v)).trans K6 fun _ _ e => e)
      have nX : ¬ Xw q v X := by rintro (e | e); omega; rw [hPA.out] at e; simp [blk] at e; omega
      have nR : ¬ Xw q v R0 := by rintro (e | e); omega; rw [hPA.out] at e; simp [blk] at e; omega
      have IX6 := Lib.hid (IX3.out.kp K6 nX)
      have X6 := Lib.hid (X3.out.kp K6 nR)
      have TY6 := Lib.hid (TY3.out.kp K6 nR)
      have i0 := IX6.out.at_ 0 (by simp)
      have i1 := IX6.out.at_ 1 (by simp)
      have i2 := IX6.out.at_ 2 (by simp)
      have r0 := X6.out.at_ 0 (by simp)
      have r1 := X6.out.at_ 1 (by simp)
      have r2 := X6.out.at_ 2 (by simp)
      simp only [List.getElem?_cons_succ, List.getElem?_cons_zero] at i0 i1 i2 r0 r1 r2
      have g0 := X6.out.fz 0 (by simp)
      have g1 := X6.out.fz 1 (by simp)
      have g2 := X6.out.fz 2 (by simp)
      have PEND := fun a b c => put_end (kind := kind) (l := l) (kn := kn) (ch := x9) (a := a) (b := b) (c := c) hR0 (by omega) M.out M6 KX6.out (.inl rfl) TY6.out hkn KY.out nRA (fun g h e => by simp [blk] at e; omega) (by rw [HP.out, HK.out])
      have PEND := Lib.hid PEND
      clear K6 M6 hW6 e0 e1 e2 e3
      go_wp2_with fail
      have h0 := World.cell?_setCell_same W6 ⟨R0, 0, none⟩ (.slice y.kA kn y.kc) r0
      have h1 := World.cell?_setCell_same (W6.setCell ⟨R0, 0, none⟩ (.slice y.kA kn y.kc)) ⟨R0, 1, none⟩ (.slice none 0 0) ((World.cell?_setCell_other _ _ _ _ (by simp)).trans r1)
      have h2 := World.cell?_setCell_same ((W6.setCell ⟨R0, 0, none⟩ (.slice y.kA kn y.kc)).setCell ⟨R0, 1, none⟩ (.slice none 0 0)) ⟨R0, 2, none⟩ (.int .i64 (x9 : Int)) ((World.cell?_setCell_other _ _ _ _ (by simp)).trans ((World.cell?_setCell_other _ _ _ _ (by simp)).trans r2))
      exact bodyPost_ret (v := .agg #[.slice y.kA kn y.kc, .slice none 0 0, .int .i64 (x9 : Int)]) (by simp [results, Tryd.results74, go_sem, h0, h1, h2]) rfl (PEND.out _ _ _)
    · obtain rfl : of' = of + 1 := by rwa [if_neg hc1] at hof
      go_upto_region 8 with fail
      rw [HW3.out]
      obtain ⟨W4, hW4⟩ : ∃ W4, W3.setCell ⟨q, 2, none⟩ (.slice (some ⟨gf, of + 1, none⟩) (fn - 1) (v.fc - 1)) = W4 := ⟨_, rfl⟩
      have k34 : Kp W3 W4 (· = q) := hW4 ▸ Kp.of_set W3 ⟨q, 2, none⟩ _ rfl
      have hq3 : q < W3.heap.size := M3.out.bx.lt
      have e0 : W4.cell? ⟨q, 0, none⟩ = some (.slice (some ⟨gp, 0, none⟩) pn v.pc) := by
        rw [← hW4, ← hPA.out, ← HPN.out]; exact (M3.out.bx.set (j := 2) (by simp) _).at_ 0 (by simp)
      have e1 : W4.cell? ⟨X, 2, none⟩ = some (.int .i64 (x9 : Int)) := (k34.cell IX3.out.lt (by omega)).trans (IX3.out.at_ 2 (by simp))
      have e2 : W4.cell? ⟨gp, x9, none⟩ = some u9 := (k34.cell (by have := k23.size; omega) hgpq).trans pc3
      have e3 : W4.frozen? ⟨gp, x9, none⟩ = false := (World.frozen?_of_block (k34.block gp (by have := k23.size; omega) hgpq)).trans pf3
      have HW4 := Lib.hid hW4
      rw [hW4]
      clear hW4
      refine wp_region_mid (fun w' => ∃ k : Nat, w' = W4.drewN k) 9 1 (by kernel_rfl) (by kernel_rfl) ⟨1, rfl⟩ ?_
      simp only [List.take_succ_cons, List.take_zero, List.drop_succ_cons, List.drop_zero]
      repeat (go_big_quiet_step (fail))
      refine wpQuiet_nil ?_
      rintro w5 ⟨k5, rfl⟩
      go_wp2_with fail
      refine MidQ.intro (fun w' => w' = _) rfl ?_
      refine wpQuiet_nil ?_
      rintro W6 hW6
      obtain ⟨M6, K6⟩ := M3.out.take (k := k5) HFR.out hPA.out (by rw [hFA.out]; rfl) (by rw [show fr9.length = fn - 1 by omega]; exact FT3.out) RW3.out (enc_len hok.out ht.out)
      rw [show fr9.length = fn - 1 by omega, show v.fc - 1 = (v.fc - 1) by omega, HW4.out, ← hW6] at M6 K6
      have KX6 : Hid (Kp W W6 (Xw q v)) := Lib.hid ((Kp.of_below KB3.out (Xw q v)).trans K6 fun _ _ e => e)
      have nX : ¬ Xw q v X := by rintro (e | e); omega; rw [hPA.out] at e; simp [blk] at e; omega
      have nR : ¬ Xw q v R0 := by rintro (e | e); omega; rw [hPA.out] at e; simp [blk] at e; omega
      have IX6 := Lib.hid (IX3.out.kp K6 nX)
      have X6 := Lib.hid (X3.out.kp K6 nR)
      have TY6 := Lib.hid (TY3.out.kp K6 nR)
      have i0 := IX6.out.at_ 0 (by simp)
      have i1 := IX6.out.at_ 1 (by simp)
      have i2 := IX6.out.at_ 2 (by simp)
      have r0 := X6.out.at_ 0 (by simp)
      have r1 := X6.out.at_ 1 (by simp)
      have r2 := X6.out.at_ 2 (by simp)
      simp only [List.getElem?_cons_succ, List.getElem?_cons_zero] at i0 i1 i2 r0 r1 r2
      have g0 := X6.out.fz 0 (by simp)
      have g1 := X6.out.fz 1 (by simp)
      have g2 := X6.out.fz 2 (by simp)
      have PEND := fun a b c => put_end (kind := kind) (l := l) (kn := kn) (ch := x9) (a := a) (b := b) (c := c) hR0 (by omega) M.out M6 KX6.out (.inl rfl) TY6.out hkn KY.out nRA (fun g h e => by simp [blk] at e; omega) (by rw [HP.out, HK.out])
      have PEND := Lib.hid PEND
      clear K6 M6 hW6 e0 e1 e2 e3
      go_wp2_with fail
      have h0 := World.cell?_setCell_same W6 ⟨R0, 0, none⟩ (.slice y.kA kn y.kc) r0
      have h1 := World.cell?_setCell_same (W6.setCell ⟨R0, 0, none⟩ (.slice y.kA kn y.kc)) ⟨R0, 1, none⟩ (.slice none 0 0) ((World.cell?_setCell_other _ _ _ _ (by simp)).trans r1)
      have h2 := World.cell?_setCell_same ((W6.setCell ⟨R0, 0, none⟩ (.slice y.kA kn y.kc)).setCell ⟨R0, 1, none⟩ (.slice none 0 0)) ⟨R0, 2, none⟩ (.int .i64 (x9 : Int)) ((World.cell?_setCell_other _ _ _ _ (by simp)).trans ((World.cell?_setCell_other _ _ _ _ (by simp)).trans r2))
      exact bodyPost_ret (v := .agg #[.slice y.kA kn y.kc, .slice none 0 0, .int .i64 (x9 : Int)]) (by simp [results, Tryd.results74, go_sem, h0, h1, h2]) rfl (PEND.out _ _ _)
end Go.Proofs.YtphiblmkgbkdmaaDoor.Pg
