/- The walk of the writer's change. -/
import Derived.Test.YtphiblmkgbkdmaaDoorPgX3
import Derived.Test.YtphiblmkgbkdmaaDoorPgP3
namespace Go.Proofs.YtphiblmkgbkdmaaDoor.Pg
set_option linter.unusedVariables false
set_option linter.unusedSimpArgs false
open Go.RowKit Wl

/-- What change leaves. -/
structure ChR (W : World) (base q : Nat) (root : Int) (v : WV) (r : List It × Ws) (W' : World) (A' : Option Addr) (n' c' : Nat) (l' : List IV) (v' : WV) : Prop where
  it : its l' = r.1
  wm : Wm W' base q root v' r.2
  ir : Ir W' base A' n' c' l'
  kp : Kp W W' (Xw q v)
  nv : Nv W v v'
  ap : ∀ g, 0 < n' → blk A' = some g → ¬ Xw q v' g
def ChPost2 (W : World) (base q : Nat) (root : Int) (v : WV) (r : List It × Ws) (e : Ending) (W' : World) : Prop :=
  ∃ (A' : Option Addr) (n' c' : Nat) (l' : List IV) (v' : WV), e = .returned (.slice A' n' c') ∧ Hid (ChR W base q root v r W' A' n' c' l' v')
theorem ows_ok {W : World} {base q : Nat} {root : Int} {v : WV} {s : Ws} (h : Wm W base q root v s) : WsOk s :=
  ⟨h.n4, fun x hx => by have := h.frl x hx; have e := congrArg List.length h.pgs; rw [List.length_map] at e; omega⟩
theorem own_apx {W : World} {base q e n c b0 : Nat} {root : Int} {v : WV} {s : Ws} {A : Option Addr} {xs : List Value} (h : W.ownsRow b0 86 e (.slice A n c) n xs) (m : Wm W base q root v s) : ∀ g, blk A = some g → ¬ Xw q v g := by
  intro g hg
  obtain ⟨cs, h1⟩ := own_type h hg
  rintro (rfl | e2)
  · obtain ⟨c2, h2⟩ := m.qt
    rw [h1] at h2; injection h2 with h2; injection h2 with _ h2; cases h2
  · obtain ⟨c2, h2⟩ := own_type m.own e2
    rw [h1] at h2; injection h2 with h2; injection h2 with _ h2; cases h2
/-- What is stored stands for the page. -/
theorem ChR.of_store {W W1 W2 : World} {base q kind f b0 n c : Nat} {root : Int} {v v1 v2 : WV} {s : Ws} {A A2 : Option Addr} {l l2 : List IV} {n2 c2 : Nat} {r : List It × Ws} (k1 : Kp W W1 (Xw q v)) (n1 : Nv W v v1) (M1 : Wm W1 base q root v1 s) (ow : W1.ownsRow b0 86 3 (.slice A n c) n (ic l))
    (S : StR W1 base q root v1 kind f A l s W2 A2 n2 c2 l2 v2) (hr : r = sto kind f (its l) s) : ChR W base q root v r W2 A2 n2 c2 l2 v2 := by
  subst hr
  refine ⟨S.it, S.wm, S.ir, k1.xw S.kp n1, ?_, ?_⟩
  · rcases S.nv with h | ⟨g, h1, h2⟩
    · rcases n1 with h' | ⟨g, h1, h2⟩
      · exact .inl (h.trans h')
      · exact .inr ⟨g, h.trans h1, h2⟩
    · exact .inr ⟨g, h1, Nat.le_trans k1.size h2⟩
  · intro g hn hg
    rcases S.ow with ⟨_, h⟩ | h
    · exact own_apx (own_xw ow M1 S.kp) S.wm g (h ▸ hg)
    · exact own_apx h S.wm g hg
/-- The items from a place on, as the program takes them. -/
theorem Ir.from {w : World} {base n c g o k : Nat} {l : List IV} (h : Ir w base (some ⟨g, o, none⟩) n c l) (hk : k ≤ n) : ∃ o', (c = k → o' = o) ∧ (c ≠ k → o' = o + k * 3) ∧ Ir w base (some ⟨g, o', none⟩) (n - k) (c - k) (l.drop k) := by
  by_cases hc : c = k
  · refine ⟨o, fun _ => rfl, fun h => absurd hc h, ?_⟩
    have hn := h.row.nc
    have hl := h.len
    have e : l.drop k = [] := List.drop_of_length_le (by omega)
    rw [e]
    refine ⟨⟨by simp [ic]; omega, by omega, fun e => (by cases e), by have := h.row.c63; omega, fun hp => by omega⟩, by simp⟩
  · exact ⟨o + k * 3, fun h => absurd h hc, fun _ => rfl, h.suf hk⟩
/-- The row of three lists. -/
theorem rd_three {w : World} {P : Nat} {a b c : LV} {T : TypeId} (hP : w.heap.size = P) : Rd (w.alloc (.cells #[a.v, b.v, c.v] T)) 1 (some ⟨P, 0, none⟩) 3 3 ([a, b, c].map LV.v) := by
  subst hP
  exact Rd.lit w T 1 #[a.v, b.v, c.v] 3 (by omega) rfl
structure CatS (W : World) (base q kind : Nat) (root : Int) (v : WV) (s : Ws) (N : Nat) (l : List IV) (W3 W4 : World) (A4 : Option Addr) (c4 : Nat) : Prop where
  own : W4.ownsRow W3.heap.size 86 3 (.slice A4 N c4) N (ic l)
  wm : Wm W4 base q root v s
  kp : Below W.heap.size W W4
  st : Calls Tryd.prog 52 #[.pointer (some ⟨q, 0, none⟩), .int .i64 (kind : Int), .slice A4 N c4] W4 (StPost W4 base q root v kind (l.length + 1) A4 l s)
/-- Three lists are put together and stored. -/
theorem cat_facts {W : World} {base q kind P : Nat} {root : Int} {v : WV} {s : Ws} {a b c : LV} {T : TypeId} {va vb vc : Value} (hk : kind = 1 ∨ kind = 2) (hva : va = a.v) (hvb : vb = b.v) (hvc : vc = c.v) {U : World} (hU : U = W.alloc (.cells #[va, vb, vc] T) ∨ U = (W.alloc (.cells #[va, vb, vc] T)).drew) (hP : W.heap.size = P) (M : Wm W base q root v s) (ia : Ir W base a.A a.l.length a.c a.l) (ib : Ir W base b.A b.l.length b.c b.l) (ic' : Ir W base c.A c.l.length c.c c.l)
    (hok : ∀ x ∈ its (a.l ++ b.l ++ c.l), ItOk kind x) (hn : (a.l ++ b.l ++ c.l).length ≤ 100000) (hbW : base ≤ W.heap.size) {N : Nat} (hN : (a.l ++ b.l ++ c.l).length = N) :
    Calls Tryd.prog 76 #[.slice (some ⟨P, 0, none⟩) 3 3] U fun e W4 => ∃ A4 c4, e = .returned (.slice A4 N c4) ∧ Hid (CatS W base q kind root v s N (a.l ++ b.l ++ c.l) U W4 A4 c4) := by
  subst hva hvb hvc
  have b1 : Below W.heap.size W U := by rcases hU with rfl | rfl; exact bal _ _; exact (bal _ _).drew
  have r1 : Rd U 1 (some ⟨P, 0, none⟩) 3 3 ([a, b, c].map LV.v) := by rcases hU with rfl | rfl; exact rd_three hP; exact Rd.drew (rd_three hP)
  have e1 : joinL [a, b, c] = a.l ++ b.l ++ c.l := by simp [joinL]
  have e2 : sumL [a, b, c] = N := by rw [← joinL_len, e1, hN]
  have hc := Concat_any (L := [a, b, c]) U (Lib.hid r1) (Lib.hid fun x hx => by
    simp only [List.mem_cons, List.not_mem_nil, or_false] at hx
    rcases hx with rfl | rfl | rfl
    · exact ia.row.below b1
    · exact ib.row.below b1
    · exact ic'.row.below b1) (by rw [e2, ← hN]; exact hn)
  rw [e1, e2] at hc
  refine hc.mono fun e W4 ⟨A4, c4, he, own4, b4⟩ => ?_
  have b14 : Below W.heap.size W W4 := b1.trans (b4.mono b1.size)
  have M4 := M.low b14
  have I4 : Ir W4 base A4 N c4 (a.l ++ b.l ++ c.l) := ⟨Rd.of_own own4.out, fun x hx => by
    rcases List.mem_append.1 hx with hx | hx
    · rcases List.mem_append.1 hx with hx | hx
      · exact (ia.dat x hx).wr (Wr.of_below b14 base)
      · exact (ib.dat x hx).wr (Wr.of_below b14 base)
    · exact (ic'.dat x hx).wr (Wr.of_below b14 base)⟩
  exact ⟨A4, c4, he, Lib.hid ⟨own4.out, M4, b14, store_any hk _ v s A4 N c4 _ W4 (by omega) (Lib.hid M4) (Lib.hid I4) (Lib.hid fun g _ hg => own_apx own4.out M4 g hg) (Lib.hid hok) (by omega) (Nat.le_trans hbW b14.size)⟩⟩
set_option maxRecDepth 20000 in
set_option maxHeartbeats 12800000 in
theorem change_any {base q : Nat} {root : Int} {key : List UInt8} {lb : List IV} (hbl : Hid (∀ x ∈ its lb, ItOk 1 x)) (hb1 : lb.length ≤ 1) : ∀ (k n : Nat) (v : WV) (s : Ws) (K : Option Addr) (kn kc : Nat) (BA : Option Addr) (bn bc : Nat) (W : World), Hid (Pok s.pg key k n) → Hid (Wm W base q root v s) →
    Hid (Rd W 1 K kn kc (bv key)) → Hid (Ir W base BA bn bc lb) → base ≤ W.heap.size →
    Calls Tryd.prog 53 #[.pointer (some ⟨q, 0, none⟩), .int .i64 (n : Int), .slice K kn kc, .slice BA bn bc] W (ChPost2 W base q root v (chg key (its lb) k n s)) := by
  intro k
  induction k with
  | zero => intro n v s K kn kc BA bn bc W P; exact P.out.elim
  | succ k ih =>
  intro n v s K kn kc BA bn bc W P M HK HB hbW
  have IH := Lib.hid ih
  clear ih
  obtain ⟨hn, kd, L, hd, ok, hs, hp⟩ := P.out
  have HD : Hid (dec (s.pg.getD n []) = some (kd, L)) := Lib.hid hd
  have OK := Lib.hid ok
  have HS := Lib.hid hs
  have HP := Lib.hid hp
  have PN : v.ps.length = s.pg.length := by have := congrArg List.length M.out.pgs; simpa using this
  have hnv : n < v.ps.length := by omega
  obtain ⟨gp, hPA, hpn, hp63⟩ := own_pos M.out.own (by omega)
  obtain ⟨x, hx⟩ : ∃ x, v.ps[n]? = some x := ⟨_, List.getElem?_eq_getElem hnv⟩
  have hxm := List.mem_of_getElem? hx
  have hx256 := M.out.p256 x hxm
  have hxb := M.out.dat x hxm
  obtain ⟨gx, ox, hxA, hgx, _⟩ := hxb.rd.at_ (by omega)
  have hsx : Sf W base gx := hxb.sf gx (by omega) (by rw [hxA]; rfl)
  have RX := hxb.rd
  rw [hx256, hxA] at RX
  have RX := Lib.hid RX
  have OW := M.out.own
  rw [hPA] at OW
  obtain ⟨pcell, _⟩ := own_cell OW hnv
  rw [show (pv v.ps)[n]? = some (.slice (some ⟨gx, ox, none⟩) 256 x.c) by unfold pv; rw [List.getElem?_map, hx]; show some (Value.slice x.A x.d.length x.c) = _; rw [hx256, hxA]] at pcell
  have HDX : Hid (dec x.d = some (kd, L)) := Lib.hid (by
    have e : s.pg.getD n [] = x.d := by rw [← M.out.pgs, List.getD_eq_getElem?_getD, List.getElem?_map, hx]; rfl
    rw [← e]; exact hd)
  have z0 := M.out.bx.at_ 0 (by simp)
  rw [hPA] at z0
  simp only [List.getElem?_cons_zero] at z0
  obtain ⟨pn, hpnn⟩ : ∃ pn, v.ps.length = pn := ⟨_, rfl⟩
  rw [hpnn] at z0 hpn hnv
  have G := Lib.hid M.out.gl
  clear hn hd ok hs hp PN hxm hx256 hxb OW hxA hpnn hx
  go_enter Tryd.func53, Tryd.ntmps53
  go_wp2_with fail
  go_at_call 69
  refine (decode_any _ G RX).mono ?_
  rintro e W1 ⟨D1, b1⟩
  rcases D1 with ⟨hdn, rfl⟩ | ⟨kd', Al, nl, cl, Ll, hdn, rfl, ol, kl⟩
  · exfalso; rw [HDX.out] at hdn; cases hdn
  obtain ⟨rfl, rfl⟩ : kd = kd' ∧ L = its Ll := by rw [HDX.out] at hdn; injection hdn with hdn; injection hdn with h1 h2; exact ⟨h1, h2⟩
  clear hdn
  have M1 := Lib.hid (M.out.low b1)
  have K1 := Lib.hid (Rd.below HK.out b1)
  have B1 := Lib.hid (HB.out.below b1)
  have I1 : Hid (Ir W1 base Al nl cl Ll) := Lib.hid ⟨Rd.of_own ol.out, fun y hy => by
    have kg := kl.out y hy
    have sf1 : Sf W1 base gx := hsx.wr hgx (Wr.of_below b1 base)
    exact ⟨⟨kg.k, fun g _ e => by rw [kg.bk] at e; injection e with e; exact e ▸ sf1⟩, ⟨kg.v, fun g _ e => by rw [kg.bv] at e; injection e with e; exact e ▸ sf1⟩⟩⟩
  have hll : Hid (3 * Ll.length ≤ 250) := Lib.hid (by have := tot_ge OK.out.it; rw [its_len] at this; have := OK.out.tt; omega)
  have HNL := Lib.hid I1.out.len
  have hnl : nl ≤ 100 := by have := hll.out; have := HNL.out; omega
  have hnl1 : 1 ≤ nl := by have h1 := OK.out.n1; rw [its_len, ← HNL.out] at h1; rcases OK.out.kd with h | h <;> omega
  clear kl
  go_wp2_with fail
  go_at_call 71
  refine (search_any _ (Lib.hid I1.out.iw) K1 HS (by omega)).mono ?_
  rintro e W2 ⟨i, b, rfl, hpl, b2⟩
  obtain ⟨rfl, rfl⟩ := hpl.uniq (plc_ix HS.out key)
  have PLC := Lib.hid hpl
  clear hpl
  have b12 : Below W.heap.size W W2 := b1.trans (b2.mono b1.size)
  have M2 := Lib.hid (M.out.low b12)
  have B2 := Lib.hid (HB.out.below b12)
  have I2 := Lib.hid (I1.out.below b2)
  have OL2 := Lib.hid (own_below ol.out b2)
  obtain ⟨gl, hAl, hnc, hc63⟩ := own_pos OL2.out (by omega)
  subst hAl
  have hix : ix (its Ll) key ≤ nl := by have := PLC.out.le; rw [its_len, ← HNL.out] at this; exact this
  rcases OK.out.kd with rfl | rfl
  · have hce := ce_le HS.out key
    rw [its_len, ← HNL.out] at hce
    have HR : Hid (chg key (its lb) (k + 1) n s = stoF 1 ((its Ll).take (ix (its Ll) key) ++ its lb ++ (its Ll).drop (ce (its Ll) key)) s) := Lib.hid (chg_leaf HD.out)
    have hEE : ce (its Ll) key = if fd (its Ll) key = true then ix (its Ll) key + 1 else ix (its Ll) key := rfl
    obtain ⟨I, hI⟩ : ∃ I, ix (its Ll) key = I := ⟨_, rfl⟩
    obtain ⟨E, hE⟩ : ∃ E, ce (its Ll) key = E := ⟨_, rfl⟩
    rw [hI, hE] at HR
    rw [hE] at hce hEE
    rw [hI] at hix hEE ⊢
    have HBN := Lib.hid HB.out.len
    have bnn : bn ≤ 1 := by have := HBN.out; omega
    have hbc := HB.out.row.nc
    have hbc63 := HB.out.row.c63
    have OKL : Hid (∀ x ∈ its (Ll.take I ++ lb ++ Ll.drop E), ItOk 1 x) := Lib.hid fun x hx => by
      rw [its_app, its_app, its_tk, its_dr] at hx
      exact mem_three (fun x hx => OK.out.it x (List.mem_of_mem_take hx)) hbl.out (fun x hx => OK.out.it x (List.mem_of_mem_drop hx)) x hx
    obtain ⟨N, hN⟩ : ∃ N, (Ll.take I ++ lb ++ Ll.drop E).length = N := ⟨_, rfl⟩
    have hN2 : N ≤ 300 := by rw [← hN]; simp only [List.length_append, List.length_take, List.length_drop]; have := hll.out; omega
    have HR : Hid (chg key (its lb) (k + 1) n s = sto 1 (N + 1) (its (Ll.take I ++ lb ++ Ll.drop E)) s) := Lib.hid (by
      rw [HR.out]; unfold stoF
      rw [← its_tk, ← its_dr, ← its_app, ← its_app, its_len, hN])
    have HN := Lib.hid hN
    obtain ⟨o', ho1, ho2, IE⟩ := I2.out.from (k := E) hce
    have IId := I2.out.pre hix
    have lI : (Ll.take I).length = I := by rw [List.length_take]; have := HNL.out; omega
    have lE : (Ll.drop E).length = nl - E := by rw [List.length_drop, ← HNL.out]
    have CF := cat_facts (W := W2) (kind := 1) (a := ⟨some ⟨gl, 0, none⟩, cl, Ll.take I⟩) (b := ⟨BA, bc, lb⟩) (c := ⟨some ⟨gl, o', none⟩, cl - E, Ll.drop E⟩) (T := 80) (va := .slice (some ⟨gl, 0, none⟩) I cl) (vb := .slice BA bn bc) (vc := .slice (some ⟨gl, o', none⟩) (nl - E) (cl - E)) (.inl rfl) (by unfold LV.v; rw [lI]) (by unfold LV.v; rw [← HBN.out]) (by unfold LV.v; rw [lE]) (U := (W2.alloc (.cells #[.slice (some ⟨gl, 0, none⟩) I cl, .slice BA bn bc, .slice (some ⟨gl, o', none⟩) (nl - E) (cl - E)] 80)).drew) (.inr rfl) (P := W2.heap.size) rfl M2.out (by rw [lI]; exact IId) (by rw [← HBN.out]; exact B2.out) (by rw [lE]; exact IE) OKL.out (by rw [hN]; omega) (Nat.le_trans hbW b12.size) hN
    have CF := Lib.hid CF
    have s1 : (0 : Int) ≤ (I : Int) := by omega
    have s2 : (I : Int) ≤ (cl : Int) := by omega
    have s3 : (I : Int) ≤ (nl : Int) := by omega
    have s4 : (0 : Int) ≤ (E : Int) := by omega
    have s5 : (E : Int) ≤ (nl : Int) := by omega
    have s6 : (nl : Int) ≤ (cl : Int) := by omega
    have FIN : Hid (∀ (W4 W5 : World) (A4 A5 : Option Addr) (c4 n5 c5 : Nat) (l5 : List IV) (v5 : WV) (W3 : World), CatS W2 base q 1 root v s N (Ll.take I ++ lb ++ Ll.drop E) W3 W4 A4 c4 → StR W4 base q root v 1 ((Ll.take I ++ lb ++ Ll.drop E).length + 1) A4 (Ll.take I ++ lb ++ Ll.drop E) s W5 A5 n5 c5 l5 v5 → ChR W base q root v (chg key (its lb) (k + 1) n s) W5 A5 n5 c5 l5 v5) := Lib.hid fun W4 W5 A4 A5 c4 n5 c5 l5 v5 W3 CS S =>
      ChR.of_store (Kp.of_below (b12.trans (CS.kp.mono b12.size)) _) (.inl rfl) CS.wm CS.own S (by rw [HR.out, HN.out])
    clear IId lI lE hN hI hE IE
    rcases hfd : fd (its Ll) key with _ | _
    · obtain rfl : E = I := by rw [hEE, hfd]; rfl
      clear hEE hfd
      by_cases hcE : cl = E
      · obtain rfl : nl = E := by omega
        obtain rfl : cl = nl := hcE
        obtain rfl : o' = 0 := ho1 rfl
        rw [Nat.sub_self] at CF
        clear ho1 ho2 s5 s6
        go_wp2_with fail
        go_region_held3 (fun w' => True) (trivial)
          (first
            | (go_at_call 76; refine CF.out.mono ?_; rintro e w4 ⟨A4, c4, rfl, CS⟩)
            | (go_at_call 52; refine CS.out.st.mono ?_; rintro e w5 ⟨A5, n5, c5, l5, v5, rfl, S5⟩; have R5 := FIN.out _ _ _ _ _ _ _ _ _ _ CS.out S5.out))
        all_goals
          go_wp2_with fail
          go_ret
          exact ⟨A5, n5, c5, l5, v5, rfl, Lib.hid R5⟩
      · obtain rfl : o' = 0 + E * 3 := ho2 hcE
        rw [Nat.zero_add] at CF
        clear ho1 ho2
        go_wp2_with fail
        go_region_held3 (fun w' => True) (trivial)
          (first
            | (go_at_call 76; refine CF.out.mono ?_; rintro e w4 ⟨A4, c4, rfl, CS⟩)
            | (go_at_call 52; refine CS.out.st.mono ?_; rintro e w5 ⟨A5, n5, c5, l5, v5, rfl, S5⟩; have R5 := FIN.out _ _ _ _ _ _ _ _ _ _ CS.out S5.out))
        all_goals
          go_wp2_with fail
          go_ret
          exact ⟨A5, n5, c5, l5, v5, rfl, Lib.hid R5⟩
    · obtain rfl : E = I + 1 := by rw [hEE, hfd]; rfl
      clear hEE hfd
      have s7 : (0 : Int) ≤ (I : Int) + 1 := by omega
      have s8 : (I : Int) + 1 ≤ (nl : Int) := by omega
      have s9 : (I : Int) + 1 ≤ (cl : Int) := by omega
      have s10 : (I : Int) ≤ (I : Int) + 1 := by omega
      clear s4 s5
      by_cases hcE : cl = I + 1
      · obtain rfl : nl = I + 1 := by omega
        obtain rfl : cl = I + 1 := hcE
        obtain rfl : o' = 0 := ho1 rfl
        rw [Nat.sub_self] at CF
        clear ho1 ho2 s6
        go_wp2_with fail
        go_region_held3 (fun w' => True) (trivial)
          (first
            | (go_at_call 76; refine CF.out.mono ?_; rintro e w4 ⟨A4, c4, rfl, CS⟩)
            | (go_at_call 52; refine CS.out.st.mono ?_; rintro e w5 ⟨A5, n5, c5, l5, v5, rfl, S5⟩; have R5 := FIN.out _ _ _ _ _ _ _ _ _ _ CS.out S5.out))
        all_goals
          go_wp2_with fail
          go_ret
          exact ⟨A5, n5, c5, l5, v5, rfl, Lib.hid R5⟩
      · obtain rfl : o' = 0 + (I + 1) * 3 := ho2 hcE
        rw [Nat.zero_add] at CF
        clear ho1 ho2
        go_wp2_with fail
        go_region_held3 (fun w' => True) (trivial)
          (first
            | (go_at_call 76; refine CF.out.mono ?_; rintro e w4 ⟨A4, c4, rfl, CS⟩)
            | (go_at_call 52; refine CS.out.st.mono ?_; rintro e w5 ⟨A5, n5, c5, l5, v5, rfl, S5⟩; have R5 := FIN.out _ _ _ _ _ _ _ _ _ _ CS.out S5.out))
        all_goals
          go_wp2_with fail
          go_ret
          exact ⟨A5, n5, c5, l5, v5, rfl, Lib.hid R5⟩
  · have hci := ci_lt HS.out key (by rw [its_len, ← HNL.out]; omega)
    rw [its_len, ← HNL.out] at hci
    have hCC : ci (its Ll) key = if fd (its Ll) key = true then ix (its Ll) key else ix (its Ll) key - 1 := rfl
    obtain ⟨C, hC⟩ : ∃ C, ci (its Ll) key = C := ⟨_, rfl⟩
    obtain ⟨xi, hxi⟩ : ∃ xi, Ll[C]? = some xi := ⟨_, List.getElem?_eq_getElem (by rw [← HNL.out, ← hC]; exact hci)⟩
    have HXI : Hid ((its Ll)[ci (its Ll) key]? = some xi.it) := Lib.hid (by rw [hC]; unfold its; rw [List.getElem?_map, hxi]; rfl)
    have HR := Lib.hid (chg_fork (key := key) (bl := its lb) (k := k) HD.out HXI.out)
    have HPX := Lib.hid (HP.out rfl xi.it HXI.out)
    have hxch : xi.ch ≤ 65535 := by have := (OK.out.it xi.it (its_mem (List.mem_of_getElem? hxi))).fk (by decide); have h2 : xi.ch < 65536 := this.2; omega
    rw [hC] at HR hCC hci
    obtain ⟨g', o', xi', e', hgl, hxi', c0, c1, c2⟩ := Rd.item I2.out.row hci
    injection e' with e'; injection e' with e1 e2; subst e1 e2
    obtain rfl : xi = xi' := by rw [hxi] at hxi'; injection hxi'
    clear hxi' c0 c1 hC HXI
    have HXI := Lib.hid hxi
    clear hxi
    rw [Nat.zero_add] at c2
    have OA2 : ¬ Xw q v gl := own_apx OL2.out M2.out gl rfl
    have hgl2 : gl < W2.heap.size := hgl
    obtain ⟨r4, hr4⟩ : ∃ r4, chg key (its lb) k xi.ch s = r4 := ⟨_, rfl⟩
    have HR : Hid (chg key (its lb) (k + 1) n s = stoF 2 ((its Ll).take C ++ r4.1 ++ (its Ll).drop (C + 1)) r4.2) := by have h := HR.out; have e : chg key (its lb) k xi.it.ch s = r4 := hr4; rw [e] at h; exact Lib.hid h
    obtain ⟨RO, RW, RL⟩ := chg_ok (key := key) hbl.out (by rw [its_len]; exact hb1) HPX.out (ows_ok M.out)
    have RO : Hid (∀ x ∈ r4.1, ItOk 2 x) := by rw [← hr4]; exact Lib.hid RO
    have RL : Hid (r4.1.length ≤ 84) := by rw [← hr4]; exact Lib.hid RL
    clear RW
    have bd : Below W2.heap.size W2 W2.drew := (Below.refl _ _).drew
    have Md := Lib.hid (M2.out.low bd)
    have CH := IH.out xi.ch v s K kn kc BA bn bc W2.drew HPX Md (Lib.hid (Rd.below (Rd.below K1.out b2) bd)) (Lib.hid (B2.out.below bd)) (Nat.le_trans hbW b12.size)
    rw [hr4] at CH
    have CH := Lib.hid CH
    clear hr4 IH
    have hix1 : fd (its Ll) key = true → ix (its Ll) key = C := fun h => by rw [hCC, if_pos h]
    have hix0 : fd (its Ll) key = false → (ix (its Ll) key = 0 ∧ C = 0) ∨ ix (its Ll) key = C + 1 := fun h => by rw [if_neg (by rw [h]; decide)] at hCC; omega
    have hix1 := Lib.hid hix1
    have hix0 := Lib.hid hix0
    clear hCC hix
    obtain ⟨I, hI⟩ : ∃ I, ix (its Ll) key = I := ⟨_, rfl⟩
    obtain ⟨b, hb⟩ : ∃ b, fd (its Ll) key = b := ⟨_, rfl⟩
    rw [hI, hb] at hix1 hix0 ⊢
    clear hI hb
    go_upto_if 52 with fail
    go_cut [12] from 53 (fun iv wx => iv = .int .i64 (C : Int) ∧ wx = W2)
    case first =>
      rcases b with _ | _
      · rcases hix0.out rfl with ⟨h1, h2⟩ | h1
        · subst h1 h2
          go_wp2_with fail
          go_meet
          exact ⟨rfl, rfl⟩
        · subst h1
          have hm : max (C : Int) 0 = (C : Int) := by omega
          go_wp2_with fail
          go_meet
          exact ⟨rfl, rfl⟩
      · have h1 := hix1.out rfl
        subst h1
        go_wp2_with fail
        go_meet
        exact ⟨rfl, rfl⟩
    case rest =>
    obtain ⟨rfl, hwc⟩ := hcut
    rw [hwc]
    clear hwc
    have lC : (Ll.take C).length = C := by rw [List.length_take]; have := HNL.out; omega
    have lE : (Ll.drop (C + 1)).length = nl - (C + 1) := by rw [List.length_drop, ← HNL.out]
    obtain ⟨o', ho1, ho2, IE⟩ := I2.out.from (k := C + 1) (by omega)
    have KK : Hid (∀ U : World, Kp W2.drew U (Xw q v) → U.cell? ⟨gl, C * 3 + 2, none⟩ = some (.int .i64 (xi.ch : Int))) := Lib.hid fun U hU => (hU.cell (b := gl) (show gl < W2.drew.heap.size from hgl2) OA2).trans c2
    have C2 : Hid (∀ (w4 : World) (A4 : Option Addr) (n4 c4 : Nat) (l4 : List IV) (v4 : WV), ChR W2.drew base q root v r4 w4 A4 n4 c4 l4 v4 → ∃ N, Hid ((Ll.take C ++ l4 ++ Ll.drop (C + 1)).length = N) ∧ Calls Tryd.prog 76 #[.slice (some ⟨w4.heap.size, 0, none⟩) 3 3] (w4.alloc (.cells #[.slice (some ⟨gl, 0, none⟩) C cl, .slice A4 n4 c4, .slice (some ⟨gl, o', none⟩) (nl - (C + 1)) (cl - (C + 1))] 80)) fun e W5 => ∃ A5 c5, e = .returned (.slice A5 N c5) ∧ Hid (CatS w4 base q 2 root v4 r4.2 N (Ll.take C ++ l4 ++ Ll.drop (C + 1)) (w4.alloc (.cells #[.slice (some ⟨gl, 0, none⟩) C cl, .slice A4 n4 c4, .slice (some ⟨gl, o', none⟩) (nl - (C + 1)) (cl - (C + 1))] 80)) W5 A5 c5)) := Lib.hid fun w4 A4 n4 c4 l4 v4 R4 => by
      have ln := R4.ir.len
      have ia := ((I2.out.pre (k := C) (by omega)).below bd).xw Md.out R4.kp fun g _ e => by simp [blk] at e; subst e; exact OA2
      have ie := (IE.below bd).xw Md.out R4.kp fun g _ e => by simp [blk] at e; subst e; exact OA2
      have l84 : l4.length ≤ 84 := by have := RL.out; rw [← R4.it, its_len] at this; exact this
      refine ⟨_, Lib.hid rfl, cat_facts (W := w4) (kind := 2) (a := ⟨some ⟨gl, 0, none⟩, cl, Ll.take C⟩) (b := ⟨A4, c4, l4⟩) (c := ⟨some ⟨gl, o', none⟩, cl - (C + 1), Ll.drop (C + 1)⟩) (T := 80) (va := .slice (some ⟨gl, 0, none⟩) C cl) (vb := .slice A4 n4 c4) (vc := .slice (some ⟨gl, o', none⟩) (nl - (C + 1)) (cl - (C + 1))) (.inr rfl) (by unfold LV.v; rw [lC]) (by unfold LV.v; rw [← ln]) (by unfold LV.v; rw [lE])
        (U := w4.alloc (.cells #[.slice (some ⟨gl, 0, none⟩) C cl, .slice A4 n4 c4, .slice (some ⟨gl, o', none⟩) (nl - (C + 1)) (cl - (C + 1))] 80)) (.inl rfl) (P := w4.heap.size) rfl R4.wm (by rw [lC]; exact ia) (by rw [← ln]; exact R4.ir) (by rw [lE]; exact ie) ?_ ?_ (Nat.le_trans hbW (Nat.le_trans b12.size (Nat.le_trans bd.size R4.kp.size))) rfl⟩
      · intro x hx
        rw [its_app, its_app, its_tk, its_dr, R4.it] at hx
        exact mem_three (fun x hx => OK.out.it x (List.mem_of_mem_take hx)) RO.out (fun x hx => OK.out.it x (List.mem_of_mem_drop hx)) x hx
      · simp only [List.length_append, List.length_take, List.length_drop]
        have := hll.out
        omega
    have FIN : Hid (∀ (w4 w5 w6 W3 : World) (A4 A5 A6 : Option Addr) (n4 c4 N c5 n6 c6 : Nat) (l4 l6 : List IV) (v4 v6 : WV), ChR W2.drew base q root v r4 w4 A4 n4 c4 l4 v4 → (Ll.take C ++ l4 ++ Ll.drop (C + 1)).length = N → CatS w4 base q 2 root v4 r4.2 N (Ll.take C ++ l4 ++ Ll.drop (C + 1)) W3 w5 A5 c5 →
        StR w5 base q root v4 2 ((Ll.take C ++ l4 ++ Ll.drop (C + 1)).length + 1) A5 (Ll.take C ++ l4 ++ Ll.drop (C + 1)) r4.2 w6 A6 n6 c6 l6 v6 → ChR W base q root v (chg key (its lb) (k + 1) n s) w6 A6 n6 c6 l6 v6) := Lib.hid fun w4 w5 w6 W3 A4 A5 A6 n4 c4 N c5 n6 c6 l4 l6 v4 v6 R4 hN CS S => by
      have k02 : Kp W W2.drew (Xw q v) := Kp.of_below (b12.trans (bd.mono b12.size)) _
      have nv4 : Nv W v v4 := by
        rcases R4.nv with h | ⟨g, h1, h2⟩
        · exact .inl h
        · exact .inr ⟨g, h1, Nat.le_trans (Nat.le_trans b12.size bd.size) h2⟩
      refine ChR.of_store (((k02.trans R4.kp fun _ _ e => e)).below CS.kp) nv4 CS.wm CS.own S ?_
      rw [HR.out]
      unfold stoF
      rw [its_app, its_app, its_tk, its_dr, R4.it]
      congr 1
      simp only [List.length_append, List.length_take, List.length_drop, its_len]
      rw [← R4.it, its_len]
    have kp0 : Kp W2.drew W2.drew (Xw q v) := Kp.refl _ _
    have s1 : (0 : Int) ≤ (C : Int) := by omega
    have s2 : (C : Int) ≤ (cl : Int) := by omega
    have s3 : (C : Int) < (nl : Int) := by omega
    have s6 : (nl : Int) ≤ (cl : Int) := by omega
    have s7 : (0 : Int) ≤ (C : Int) + 1 := by omega
    have s8 : (C : Int) + 1 ≤ (nl : Int) := by omega
    have s9 : (C : Int) + 1 ≤ (cl : Int) := by omega
    have s10 : (C : Int) ≤ (C : Int) + 1 := by omega
    have s11 : (C : Int) < (C : Int) + 1 := by omega
    have sw : IntKind.i64.wrap ((C : Int) + 1) = (C : Int) + 1 := by rw [IntKind.wrap_i64]; omega
    clear lC lE IE
    by_cases hcC : cl = C + 1
    · obtain rfl : nl = C + 1 := by omega
      obtain rfl : cl = C + 1 := hcC
      obtain rfl : o' = 0 := ho1 rfl
      rw [Nat.sub_self] at C2
      clear ho1 ho2 s6 s8 s9
      go_wp2_with fail
      go_region_held3 (fun w' => w'.cell? ⟨gl, C * 3 + 2, none⟩ = some (.int .i64 (xi.ch : Int)))
        ((refine KK.out _ ?_; first | exact kp0 | exact kp1.below (bal _ _) | exact kp1 | exact kp2 | exact kp3))
        (first
          | (go_at_call 53; refine CH.out.mono ?_; rintro e w4 ⟨A4, n4, c4, l4, v4, rfl, R4⟩; have kp1 := R4.out.kp; obtain ⟨N, HN, CC⟩ := C2.out _ _ _ _ _ _ R4.out)
          | (go_at_call 76; refine CC.mono ?_; rintro e w5 ⟨A5, c5, rfl, CS⟩; have kp2 := kp1.below CS.out.kp)
          | (go_at_call 52; refine CS.out.st.mono ?_; rintro e w6 ⟨A6, n6, c6, l6, v6, rfl, S6⟩; have kp3 := kp2.xw S6.out.kp R4.out.nv; have R6 := FIN.out _ _ _ _ _ _ _ _ _ _ _ _ _ _ _ _ _ R4.out HN.out CS.out S6.out))
      all_goals
        go_wp2_with fail
        go_ret
        exact ⟨A6, n6, c6, l6, v6, rfl, Lib.hid R6⟩
    · obtain rfl : o' = 0 + (C + 1) * 3 := ho2 hcC
      rw [Nat.zero_add] at C2
      clear ho1 ho2
      go_wp2_with fail
      go_region_held3 (fun w' => w'.cell? ⟨gl, C * 3 + 2, none⟩ = some (.int .i64 (xi.ch : Int)))
        ((refine KK.out _ ?_; first | exact kp0 | exact kp1.below (bal _ _) | exact kp1 | exact kp2 | exact kp3))
        (first
          | (go_at_call 53; refine CH.out.mono ?_; rintro e w4 ⟨A4, n4, c4, l4, v4, rfl, R4⟩; have kp1 := R4.out.kp; obtain ⟨N, HN, CC⟩ := C2.out _ _ _ _ _ _ R4.out)
          | (go_at_call 76; refine CC.mono ?_; rintro e w5 ⟨A5, c5, rfl, CS⟩; have kp2 := kp1.below CS.out.kp)
          | (go_at_call 52; refine CS.out.st.mono ?_; rintro e w6 ⟨A6, n6, c6, l6, v6, rfl, S6⟩; have kp3 := kp2.xw S6.out.kp R4.out.nv; have R6 := FIN.out _ _ _ _ _ _ _ _ _ _ _ _ _ _ _ _ _ R4.out HN.out CS.out S6.out))
      all_goals
        go_wp2_with fail
        go_ret
        exact ⟨A6, n6, c6, l6, v6, rfl, Lib.hid R6⟩
end Go.Proofs.YtphiblmkgbkdmaaDoor.Pg
