/- The walk of the writer's change. -/
import Derived.Test.YtpmkohnljngbhaaGreatDoorPgX3
import Derived.Test.YtpmkohnljngbhaaGreatDoorPgTP
set_option linter.all false
namespace Go.Proofs.YtpmkohnljngbhaaGreatDoor.Pg
set_option linter.unusedVariables false
set_option linter.unusedSimpArgs false
set_option maxRecDepth 1000000
open Go.RowKit Wl

/-- What change leaves. -/
structure ChR (W : World) (base q : Nat) (root : Int) (v : WV) (r : List It × Ws) (W' : World) (A' : Option Addr) (n' c' : Nat) (l' : List IV) (v' : WV) : Prop where
  it : its l' = r.1
  wm : Wm W' base q root v' r.2
  ir : Ir W' base A' n' c' l'
  kp : Kp W W' (Xw q v)
  nv : Nv W v v'
  ap : ∀ g, 0 < n' → blk A' = some g → ¬ Xw q v' g
def ChPost2 (W : World) (base q : Nat) (root : Int) (v : WV) (r : List It × Ws) (e : Ending) (W' : World) : Prop :=
  ∃ (A' : Option Addr) (n' c' : Nat) (l' : List IV) (v' : WV), e = .returned (.slice A' n' c') ∧ Hid (ChR W base q root v r W' A' n' c' l' v')
theorem ows_ok {W : World} {base q : Nat} {root : Int} {v : WV} {s : Ws} (h : Wm W base q root v s) : WsOk s :=
  ⟨h.n4, fun x hx => by have := h.frl x hx; have e := congrArg List.length h.pgs; rw [List.length_map] at e; omega⟩
theorem own_apx {W : World} {base q e n c b0 : Nat} {root : Int} {v : WV} {s : Ws} {A : Option Addr} {xs : List Value} (h : W.ownsRow b0 96 e (.slice A n c) n xs) (m : Wm W base q root v s) : ∀ g, blk A = some g → ¬ Xw q v g := by
  intro g hg
  obtain ⟨cs, h1⟩ := own_type h hg
  rintro (rfl | e2)
  · obtain ⟨c2, h2⟩ := m.qt
    rw [h1] at h2; injection h2 with h2; injection h2 with _ h2; cases h2
  · obtain ⟨c2, h2⟩ := own_type m.own e2
    rw [h1] at h2; injection h2 with h2; injection h2 with _ h2; cases h2
/-- What is stored stands for the page. -/
theorem ChR.of_store {W W1 W2 : World} {base q kind f b0 n c : Nat} {root : Int} {v v1 v2 : WV} {s : Ws} {A A2 : Option Addr} {l l2 : List IV} {n2 c2 : Nat} {r : List It × Ws} (k1 : Kp W W1 (Xw q v)) (n1 : Nv W v v1) (M1 : Wm W1 base q root v1 s) (ow : W1.ownsRow b0 96 3 (.slice A n c) n (ic l))
    (S : StR W1 base q root v1 kind f A l s W2 A2 n2 c2 l2 v2) (hr : r = sto kind f (its l) s) : ChR W base q root v r W2 A2 n2 c2 l2 v2 := by
  subst hr
  refine ⟨S.it, S.wm, S.ir, k1.xw S.kp n1, ?_, ?_⟩
  · rcases S.nv with h | ⟨g, h1, h2⟩
    · rcases n1 with h' | ⟨g, h1, h2⟩
      · exact .inl (h.trans h')
      · exact .inr ⟨g, h.trans h1, h2⟩
    · exact .inr ⟨g, h1, Nat.le_trans k1.size h2⟩
  · intro g hn hg
    rcases S.ow with ⟨_, h⟩ | h
    · exact own_apx (own_xw ow M1 S.kp) S.wm g (h ▸ hg)
    · exact own_apx h S.wm g hg
/-- The items from a place on, as the program takes them. -/
theorem Ir.from {w : World} {base n c g o k : Nat} {l : List IV} (h : Ir w base (some ⟨g, o, none⟩) n c l) (hk : k ≤ n) : ∃ o', (c = k → o' = o) ∧ (c ≠ k → o' = o + k * 3) ∧ Ir w base (some ⟨g, o', none⟩) (n - k) (c - k) (l.drop k) := by
  by_cases hc : c = k
  · refine ⟨o, fun _ => rfl, fun h => absurd hc h, ?_⟩
    have hn := h.row.nc
    have hl := h.len
    have e : l.drop k = [] := List.drop_of_length_le (by omega)
    rw [e]
    refine ⟨⟨by simp [ic]; omega, by omega, fun e => (by cases e), by have := h.row.c63; omega, fun hp => by omega⟩, by simp⟩
  · exact ⟨o + k * 3, fun h => absurd h hc, fun _ => rfl, h.suf hk⟩
/-- The row of three lists. -/
theorem rd_three {w : World} {P : Nat} {a b c : LV} {T : TypeId} (hP : w.heap.size = P) : Rd (w.alloc (.cells #[a.v, b.v, c.v] T)) 1 (some ⟨P, 0, none⟩) 3 3 ([a, b, c].map LV.v) := by
  subst hP
  exact Rd.lit w T 1 #[a.v, b.v, c.v] 3 (by omega) rfl
structure CatS (W : World) (base q kind : Nat) (root : Int) (v : WV) (s : Ws) (N : Nat) (l : List IV) (W3 W4 : World) (A4 : Option Addr) (c4 : Nat) : Prop where
  own : W4.ownsRow W3.heap.size 96 3 (.slice A4 N c4) N (ic l)
  wm : Wm W4 base q root v s
  kp : Below W.heap.size W W4
  st : Calls Tryz.prog 68 #[.pointer (some ⟨q, 0, none⟩), .int .i64 (kind : Int), .slice A4 N c4] W4 (StPost W4 base q root v kind (l.length + 1) A4 l s)
/-- Three lists are put together and stored. -/
theorem cat_facts {W : World} {base q kind P : Nat} {root : Int} {v : WV} {s : Ws} {a b c : LV} {T : TypeId} {va vb vc : Value} (hk : kind = 1 ∨ kind = 2) (hva : va = a.v) (hvb : vb = b.v) (hvc : vc = c.v) {U : World} (hU : U = W.alloc (.cells #[va, vb, vc] T) ∨ U = (W.alloc (.cells #[va, vb, vc] T)).drew) (hP : W.heap.size = P) (M : Wm W base q root v s) (ia : Ir W base a.A a.l.length a.c a.l) (ib : Ir W base b.A b.l.length b.c b.l) (ic' : Ir W base c.A c.l.length c.c c.l)
    (hok : ∀ x ∈ its (a.l ++ b.l ++ c.l), ItOk kind x) (hn : (a.l ++ b.l ++ c.l).length ≤ 100000) (hbW : base ≤ W.heap.size) {N : Nat} (hN : (a.l ++ b.l ++ c.l).length = N) :
    Calls Tryz.prog 96 #[.slice (some ⟨P, 0, none⟩) 3 3] U fun e W4 => ∃ A4 c4, e = .returned (.slice A4 N c4) ∧ Hid (CatS W base q kind root v s N (a.l ++ b.l ++ c.l) U W4 A4 c4) := by
  subst hva hvb hvc
  have b1 : Below W.heap.size W U := by rcases hU with rfl | rfl; exact bal _ _; exact (bal _ _).drew
  have r1 : Rd U 1 (some ⟨P, 0, none⟩) 3 3 ([a, b, c].map LV.v) := by rcases hU with rfl | rfl; exact rd_three hP; exact Rd.drew (rd_three hP)
  have e1 : joinL [a, b, c] = a.l ++ b.l ++ c.l := by simp [joinL]
  have e2 : sumL [a, b, c] = N := by rw [← joinL_len, e1, hN]
  have hc := Concat_any (L := [a, b, c]) U (Lib.hid r1) (Lib.hid fun x hx => by
    simp only [List.mem_cons, List.not_mem_nil, or_false] at hx
    rcases hx with rfl | rfl | rfl
    · exact ia.row.below b1
    · exact ib.row.below b1
    · exact ic'.row.below b1) (by rw [e2, ← hN]; exact hn)
  rw [e1, e2] at hc
  refine hc.mono fun e W4 ⟨A4, c4, he, own4, b4⟩ => ?_
  have b14 : Below W.heap.size W W4 := b1.trans (b4.mono b1.size)
  have M4 := M.low b14
  have I4 : Ir W4 base A4 N c4 (a.l ++ b.l ++ c.l) := ⟨Rd.of_own own4.out, fun x hx => by
    rcases List.mem_append.1 hx with hx | hx
    · rcases List.mem_append.1 hx with hx | hx
      · exact (ia.dat x hx).wr (Wr.of_below b14 base)
      · exact (ib.dat x hx).wr (Wr.of_below b14 base)
    · exact (ic'.dat x hx).wr (Wr.of_below b14 base)⟩
  exact ⟨A4, c4, he, Lib.hid ⟨own4.out, M4, b14, store_any hk _ v s A4 N c4 _ W4 (by omega) (Lib.hid M4) (Lib.hid I4) (Lib.hid fun g _ hg => own_apx own4.out M4 g hg) (Lib.hid hok) (by omega) (Nat.le_trans hbW b14.size)⟩⟩
set_option maxRecDepth 1000000 in
set_option maxHeartbeats 12800000 in
theorem change_any {base q : Nat} {root : Int} {key : List UInt8} {lb : List IV} (hbl : Hid (∀ x ∈ its lb, ItOk 1 x)) (hb1 : lb.length ≤ 1) : ∀ (k n : Nat) (v : WV) (s : Ws) (K : Option Addr) (kn kc : Nat) (BA : Option Addr) (bn bc : Nat) (W : World), Hid (Pok s.pg key k n) → Hid (Wm W base q root v s) →
    Hid (Rd W 1 K kn kc (bv key)) → Hid (Ir W base BA bn bc lb) → base ≤ W.heap.size →
    Calls Tryz.prog 66 #[.pointer (some ⟨q, 0, none⟩), .int .i64 (n : Int), .slice K kn kc, .slice BA bn bc] W (ChPost2 W base q root v (chg key (its lb) k n s)) := by
  intro k
  induction k with
  | zero => intro n v s K kn kc BA bn bc W P; exact P.out.elim
  | succ k ih =>
  intro n v s K kn kc BA bn bc W P M HK HB hbW
  have IH := Lib.hid ih
  clear ih
  obtain ⟨hn, kd, L, hd, ok, hs, hp⟩ := P.out
  have HD : Hid (dec (s.pg.getD n []) = some (kd, L)) := Lib.hid hd
  have OK := Lib.hid ok
  have HS := Lib.hid hs
  have HP := Lib.hid hp
  have PN : v.ps.length = s.pg.length := by have := congrArg List.length M.out.pgs; simpa using this
  have hnv : n < v.ps.length := by omega
  obtain ⟨gp, hPA, hpn, hp63⟩ := own_pos M.out.own (by omega)
  obtain ⟨x, hx⟩ : ∃ x, v.ps[n]? = some x := ⟨_, List.getElem?_eq_getElem hnv⟩
  have hxm := List.mem_of_getElem? hx
  have hx256 := M.out.p256 x hxm
  have hxb := M.out.dat x hxm
  obtain ⟨gx, ox, hxA, hgx, _⟩ := hxb.rd.at_ (by omega)
  have hsx : Sf W base gx := hxb.sf gx (by omega) (by rw [hxA]; rfl)
  have RX := hxb.rd
  rw [hx256, hxA] at RX
  have RX := Lib.hid RX
  have OW := M.out.own
  rw [hPA] at OW
  obtain ⟨pcell, _⟩ := own_cell OW hnv
  rw [show (pv v.ps)[n]? = some (.slice (some ⟨gx, ox, none⟩) 256 x.c) by unfold pv; rw [List.getElem?_map, hx]; show some (Value.slice x.A x.d.length x.c) = _; rw [hx256, hxA]] at pcell
  have HDX : Hid (dec x.d = some (kd, L)) := Lib.hid (by
    have e : s.pg.getD n [] = x.d := by rw [← M.out.pgs, List.getD_eq_getElem?_getD, List.getElem?_map, hx]; rfl
    rw [← e]; exact hd)
  have z0 := M.out.bx.at_ 0 (by simp)
  rw [hPA] at z0
  simp only [List.getElem?_cons_zero] at z0
  obtain ⟨pn, hpnn⟩ : ∃ pn, v.ps.length = pn := ⟨_, rfl⟩
  rw [hpnn] at z0 hpn hnv
  have G := Lib.hid M.out.gl
  clear hn hd ok hs hp PN hxm hx256 hxb OW hxA hpnn hx
  go_enter Tryz.func66, Tryz.ntmps66
  go_wp2_with fail
  go_at_call 85
  refine (decode_any _ G RX).mono ?_
  rintro e W1 ⟨D1, b1⟩
  rcases D1 with ⟨hdn, rfl⟩ | ⟨kd', Al, nl, cl, Ll, hdn, rfl, ol, kl⟩
  · exfalso; rw [HDX.out] at hdn; cases hdn
  obtain ⟨rfl, rfl⟩ : kd = kd' ∧ L = its Ll := by rw [HDX.out] at hdn; injection hdn with hdn; injection hdn with h1 h2; exact ⟨h1, h2⟩
  clear hdn
  have M1 := Lib.hid (M.out.low b1)
  have K1 := Lib.hid (Rd.below HK.out b1)
  have B1 := Lib.hid (HB.out.below b1)
  have I1 : Hid (Ir W1 base Al nl cl Ll) := Lib.hid ⟨Rd.of_own ol.out, fun y hy => by
    have kg := kl.out y hy
    have sf1 : Sf W1 base gx := hsx.wr hgx (Wr.of_below b1 base)
    exact ⟨⟨kg.k, fun g _ e => by rw [kg.bk] at e; injection e with e; exact e ▸ sf1⟩, ⟨kg.v, fun g _ e => by rw [kg.bv] at e; injection e with e; exact e ▸ sf1⟩⟩⟩
  have hll : Hid (3 * Ll.length ≤ 250) := Lib.hid (by have := tot_ge OK.out.it; rw [its_len] at this; have := OK.out.tt; omega)
  have HNL := Lib.hid I1.out.len
  have hnl : nl ≤ 100 := by have := hll.out; have := HNL.out; omega
  have hnl1 : 1 ≤ nl := by have h1 := OK.out.n1; rw [its_len, ← HNL.out] at h1; rcases OK.out.kd with h | h <;> omega
  clear kl
  go_wp2_with fail
  go_at_call 95
  refine (search_any _ (Lib.hid I1.out.iw) K1 HS (by omega)).mono ?_
  rintro e W2 ⟨i, b, rfl, hpl, b2⟩
  obtain ⟨rfl, rfl⟩ := hpl.uniq (plc_ix HS.out key)
  have PLC := Lib.hid hpl
  clear hpl
  have b12 : Below W.heap.size W W2 := b1.trans (b2.mono b1.size)
  have M2 := Lib.hid (M.out.low b12)
  have B2 := Lib.hid (HB.out.below b12)
  have I2 := Lib.hid (I1.out.below b2)
  have OL2 := Lib.hid (own_below ol.out b2)
  obtain ⟨gl, hAl, hnc, hc63⟩ := own_pos OL2.out (by omega)
  subst hAl
  have hix : ix (its Ll) key ≤ nl := by have := PLC.out.le; rw [its_len, ← HNL.out] at this; exact this
  rcases OK.out.kd with rfl | rfl
  · have hce := ce_le HS.out key
    rw [its_len, ← HNL.out] at hce
    have HR : Hid (chg key (its lb) (k + 1) n s = stoF 1 ((its Ll).take (ix (its Ll) key) ++ its lb ++ (its Ll).drop (ce (its Ll) key)) s) := Lib.hid (chg_leaf HD.out)
    have hEE : ce (its Ll) key = if fd (its Ll) key = true then ix (its Ll) key + 1 else ix (its Ll) key := rfl
    obtain ⟨I, hI⟩ : ∃ I, ix (its Ll) key = I := ⟨_, rfl⟩
    obtain ⟨E, hE⟩ : ∃ E, ce (its Ll) key = E := ⟨_, rfl⟩
    rw [hI, hE] at HR
    rw [hE] at hce hEE
    rw [hI] at hix hEE ⊢
    have HBN := Lib.hid HB.out.len
    have bnn : bn ≤ 1 := by have := HBN.out; omega
    have hbc := HB.out.row.nc
    have hbc63 := HB.out.row.c63
    have OKL : Hid (∀ x ∈ its (Ll.take I ++ lb ++ Ll.drop E), ItOk 1 x) := Lib.hid fun x hx => by
      rw [its_app, its_app, its_tk, its_dr] at hx
      exact mem_three (fun x hx => OK.out.it x (List.mem_of_mem_take hx)) hbl.out (fun x hx => OK.out.it x (List.mem_of_mem_drop hx)) x hx
    obtain ⟨N, hN⟩ : ∃ N, (Ll.take I ++ lb ++ Ll.drop E).length = N := ⟨_, rfl⟩
    have hN2 : N ≤ 300 := by rw [← hN]; simp only [List.length_append, List.length_take, List.length_drop]; have := hll.out; omega
    have HR : Hid (chg key (its lb) (k + 1) n s = sto 1 (N + 1) (its (Ll.take I ++ lb ++ Ll.drop E)) s) := Lib.hid (by
      rw [HR.out]; unfold stoF
      rw [← its_tk, ← its_dr, ← its_app, ← its_app, its_len, hN])
    have HN := Lib.hid hN
    obtain ⟨o', ho1, ho2, IE⟩ := I2.out.from (k := E) hce
    have IId := I2.out.pre hix
    have lI : (Ll.take I).length = I := by rw [List.length_take]; have := HNL.out; omega
    have lE : (Ll.drop E).length = nl - E := by rw [List.length_drop, ← HNL.out]
    have CF := cat_facts (W := W2) (kind := 1) (a := ⟨some ⟨gl, 0, none⟩, cl, Ll.take I⟩) (b := ⟨BA, bc, lb⟩) (c := ⟨some ⟨gl, o', none⟩, cl - E, Ll.drop E⟩) (T := 92) (va := .slice (some ⟨gl, 0, none⟩) I cl) (vb := .slice BA bn bc) (vc := .slice (some ⟨gl, o', none⟩) (nl - E) (cl - E)) (.inl rfl) (by unfold LV.v; rw [lI]) (by unfold LV.v; rw [← HBN.out]) (by unfold LV.v; rw [lE]) (U := (W2.alloc (.cells #[.slice (some ⟨gl, 0, none⟩) I cl, .slice BA bn bc, .slice (some ⟨gl, o', none⟩) (nl - E) (cl - E)] 92)).drew) (.inr rfl) (P := W2.heap.size) rfl M2.out (by rw [lI]; exact IId) (by rw [← HBN.out]; exact B2.out) (by rw [lE]; exact IE) OKL.out (by rw [hN]; omega) (Nat.le_trans hbW b12.size) hN
    have CF := Lib.hid CF
    have s1 : (0 : Int) ≤ (I : Int) := by omega
    have s2 : (I : Int) ≤ (cl : Int) := by omega
    have s3 : (I : Int) ≤ (nl : Int) := by omega
    have s4 : (0 : Int) ≤ (E : Int) := by omega
    have s5 : (E : Int) ≤ (nl : Int) := by omega
    have s6 : (nl : Int) ≤ (cl : Int) := by omega
    have FIN : Hid (∀ (W4 W5 : World) (A4 A5 : Option Addr) (c4 n5 c5 : Nat) (l5 : List IV) (v5 : WV) (W3 : World), CatS W2 base q 1 root v s N (Ll.take I ++ lb ++ Ll.drop E) W3 W4 A4 c4 → StR W4 base q root v 1 ((Ll.take I ++ lb ++ Ll.drop E).length + 1) A4 (Ll.take I ++ lb ++ Ll.drop E) s W5 A5 n5 c5 l5 v5 → ChR W base q root v (chg key (its lb) (k + 1) n s) W5 A5 n5 c5 l5 v5) := Lib.hid fun W4 W5 A4 A5 c4 n5 c5 l5 v5 W3 CS S =>
      ChR.of_store (Kp.of_below (b12.trans (CS.kp.mono b12.size)) _) (.inl rfl) CS.wm CS.own S (by rw [HR.out, HN.out])
    clear IId lI lE hN hI hE IE
    rcases hfd : fd (its Ll) key with _ | _
    · obtain rfl : E = I := by rw [hEE, hfd]; rfl
      clear hEE hfd
      by_cases hcE : cl = E
      · obtain rfl : nl = E := by omega
        obtain rfl : cl = nl := hcE
        obtain rfl : o' = 0 := ho1 rfl
        rw [Nat.sub_self] at CF
        clear ho1 ho2 s5 s6
        go_wp2_with fail
        go_region_held3 (fun w' => True) (trivial)
          (first
            | (go_at_call 96; refine CF.out.mono ?_; rintro e w4 ⟨A4, c4, rfl, CS⟩)
            | (go_at_call 68; refine CS.out.st.mono ?_; rintro e w5 ⟨A5, n5, c5, l5, v5, rfl, S5⟩; have R5 := FIN.out _ _ _ _ _ _ _ _ _ _ CS.out S5.out))
        all_goals
          go_wp2_with fail
          go_ret
          exact ⟨A5, n5, c5, l5, v5, rfl, Lib.hid R5⟩
      · obtain rfl : o' = 0 + E * 3 := ho2 hcE
        rw [Nat.zero_add] at CF
        clear ho1 ho2
        go_wp2_with fail
        go_region_held3 (fun w' => True) (trivial)
          (first
            | (go_at_call 96; refine CF.out.mono ?_; rintro e w4 ⟨A4, c4, rfl, CS⟩)
            | (go_at_call 68; refine CS.out.st.mono ?_; rintro e w5 ⟨A5, n5, c5, l5, v5, rfl, S5⟩; have R5 := FIN.out _ _ _ _ _ _ _ _ _ _ CS.out S5.out))
        all_goals
          go_wp2_with fail
          go_ret
          exact ⟨A5, n5, c5, l5, v5, rfl, Lib.hid R5⟩
    · obtain rfl : E = I + 1 := by rw [hEE, hfd]; rfl
      clear hEE hfd
      have s7 : (0 : Int) ≤ (I : Int) + 1 := by omega
      have s8 : (I : Int) + 1 ≤ (nl : Int) := by omega
      have s9 : (I : Int) + 1 ≤ (cl : Int) := by omega
      have s10 : (I : Int) ≤ (I : Int) + 1 := by omega
      clear s4 s5
      by_cases hcE : cl = I + 1
      · obtain rfl : nl = I + 1 := by omega
        obtain rfl : cl = I + 1 := hcE
        obtain rfl : o' = 0 := ho1 rfl
        rw [Nat.sub_self] at CF
        clear ho1 ho2 s6
        go_wp2_with fail
        go_region_held3 (fun w' => True) (trivial)
          (first
            | (go_at_call 96; refine CF.out.mono ?_; rintro e w4 ⟨A4, c4, rfl, CS⟩)
            | (go_at_call 68; refine CS.out.st.mono ?_; rintro e w5 ⟨A5, n5, c5, l5, v5, rfl, S5⟩; have R5 := FIN.out _ _ _ _ _ _ _ _ _ _ CS.out S5.out))
        all_goals
          go_wp2_with fail
          go_ret
          exact ⟨A5, n5, c5, l5, v5, rfl, Lib.hid R5⟩
      · obtain rfl : o' = 0 + (I + 1) * 3 := ho2 hcE
        rw [Nat.zero_add] at CF
        clear ho1 ho2
        go_wp2_with fail
        go_region_held3 (fun w' => True) (trivial)
          (first
            | (go_at_call 96; refine CF.out.mono ?_; rintro e w4 ⟨A4, c4, rfl, CS⟩)
            | (go_at_call 68; refine CS.out.st.mono ?_; rintro e w5 ⟨A5, n5, c5, l5, v5, rfl, S5⟩; have R5 := FIN.out _ _ _ _ _ _ _ _ _ _ CS.out S5.out))
        all_goals
          go_wp2_with fail
          go_ret
          exact ⟨A5, n5, c5, l5, v5, rfl, Lib.hid R5⟩
  · have hci := ci_lt HS.out key (by rw [its_len, ← HNL.out]; omega)
    rw [its_len, ← HNL.out] at hci
    have hCC : ci (its Ll) key = if fd (its Ll) key = true then ix (its Ll) key else ix (its Ll) key - 1 := rfl
    obtain ⟨C, hC⟩ : ∃ C, ci (its Ll) key = C := ⟨_, rfl⟩
    obtain ⟨xi, hxi⟩ : ∃ xi, Ll[C]? = some xi := ⟨_, List.getElem?_eq_getElem (by rw [← HNL.out, ← hC]; exact hci)⟩
    have HXI : Hid ((its Ll)[ci (its Ll) key]? = some xi.it) := Lib.hid (by rw [hC]; unfold its; rw [List.getElem?_map, hxi]; rfl)
    have HR := Lib.hid (chg_fork (key := key) (bl := its lb) (k := k) HD.out HXI.out)
    have HPX := Lib.hid (HP.out rfl xi.it HXI.out)
    have hxch : xi.ch ≤ 65535 := by have := (OK.out.it xi.it (its_mem (List.mem_of_getElem? hxi))).fk (by decide); have h2 : xi.ch < 65536 := this.2; omega
    rw [hC] at HR hCC hci
    obtain ⟨g', o', xi', e', hgl, hxi', c0, c1, c2⟩ := Rd.item I2.out.row hci
    injection e' with e'; injection e' with e1 e2; subst e1 e2
    obtain rfl : xi = xi' := by rw [hxi] at hxi'; injection hxi'
    clear hxi' c0 c1 hC HXI
    have HXI := Lib.hid hxi
    clear hxi
    rw [Nat.zero_add] at c2
    have OA2 : ¬ Xw q v gl := own_apx OL2.out M2.out gl rfl
    have hgl2 : gl < W2.heap.size := hgl
    obtain ⟨r4, hr4⟩ : ∃ r4, chg key (its lb) k xi.ch s = r4 := ⟨_, rfl⟩
    have HR : Hid (chg key (its lb) (k + 1) n s = stoF 2 ((its Ll).take C ++ r4.1 ++ (its Ll).drop (C + 1)) r4.2) := by have h := HR.out; have e : chg key (its lb) k xi.it.ch s = r4 := hr4; rw [e] at h; exact Lib.hid h
    obtain ⟨RO, RW, RL⟩ := chg_ok (key := key) hbl.out (by rw [its_len]; exact hb1) HPX.out (ows_ok M.out)
    have RO : Hid (∀ x ∈ r4.1, ItOk 2 x) := by rw [← hr4]; exact Lib.hid RO
    have RL : Hid (r4.1.length ≤ 84) := by rw [← hr4]; exact Lib.hid RL
    clear RW
    have bd : Below W2.heap.size W2 W2.drew := (Below.refl _ _).drew
    have Md := Lib.hid (M2.out.low bd)
    have CH := IH.out xi.ch v s K kn kc BA bn bc W2.drew HPX Md (Lib.hid (Rd.below (Rd.below K1.out b2) bd)) (Lib.hid (B2.out.below bd)) (Nat.le_trans hbW b12.size)
    rw [hr4] at CH
    have CH := Lib.hid CH
    clear hr4 IH
    have hix1 : fd (its Ll) key = true → ix (its Ll) key = C := fun h => by rw [hCC, if_pos h]
    have hix0 : fd (its Ll) key = false → (ix (its Ll) key = 0 ∧ C = 0) ∨ ix (its Ll) key = C + 1 := fun h => by rw [if_neg (by rw [h]; decide)] at hCC; omega
    have hix1 := Lib.hid hix1
    have hix0 := Lib.hid hix0
    clear hCC hix
    obtain ⟨I, hI⟩ : ∃ I, ix (its Ll) key = I := ⟨_, rfl⟩
    obtain ⟨b, hb⟩ : ∃ b, fd (its Ll) key = b := ⟨_, rfl⟩
    rw [hI, hb] at hix1 hix0 ⊢
    clear hI hb
    go_upto_if 52 with fail
    go_cut [12] from 53 (fun iv wx => iv = .int .i64 (C : Int) ∧ wx = W2)
    case first =>
      rcases b with _ | _
      · rcases hix0.out rfl with ⟨h1, h2⟩ | h1
        · subst h1 h2
          go_wp2_with fail
          go_meet
          exact ⟨rfl, rfl⟩
        · subst h1
          have hm : max (C : Int) 0 = (C : Int) := by omega
          go_wp2_with fail
          go_meet
          exact ⟨rfl, rfl⟩
      · have h1 := hix1.out rfl
        subst h1
        go_wp2_with fail
        go_meet
        exact ⟨rfl, rfl⟩
    case rest =>
    obtain ⟨rfl, hwc⟩ := hcut
    rw [hwc]
    clear hwc
    have lC : (Ll.take C).length = C := by rw [List.length_take]; have := HNL.out; omega
    have lE : (Ll.drop (C + 1)).length = nl - (C + 1) := by rw [List.length_drop, ← HNL.out]
    obtain ⟨o', ho1, ho2, IE⟩ := I2.out.from (k := C + 1) (by omega)
    have KK : Hid (∀ U : World, Kp W2.drew U (Xw q v) → U.cell? ⟨gl, C * 3 + 2, none⟩ = some (.int .i64 (xi.ch : Int))) := Lib.hid fun U hU => (hU.cell (b := gl) (show gl < W2.drew.heap.size from hgl2) OA2).trans c2
    have C2 : Hid (∀ (w4 : World) (A4 : Option Addr) (n4 c4 : Nat) (l4 : List IV) (v4 : WV), ChR W2.drew base q root v r4 w4 A4 n4 c4 l4 v4 → ∃ N, Hid ((Ll.take C ++ l4 ++ Ll.drop (C + 1)).length = N) ∧ Calls Tryz.prog 96 #[.slice (some ⟨w4.heap.size, 0, none⟩) 3 3] (w4.alloc (.cells #[.slice (some ⟨gl, 0, none⟩) C cl, .slice A4 n4 c4, .slice (some ⟨gl, o', none⟩) (nl - (C + 1)) (cl - (C + 1))] 92)) fun e W5 => ∃ A5 c5, e = .returned (.slice A5 N c5) ∧ Hid (CatS w4 base q 2 root v4 r4.2 N (Ll.take C ++ l4 ++ Ll.drop (C + 1)) (w4.alloc (.cells #[.slice (some ⟨gl, 0, none⟩) C cl, .slice A4 n4 c4, .slice (some ⟨gl, o', none⟩) (nl - (C + 1)) (cl - (C + 1))] 92)) W5 A5 c5)) := Lib.hid fun w4 A4 n4 c4 l4 v4 R4 => by
      have ln := R4.ir.len
      have ia := ((I2.out.pre (k := C) (by omega)).below bd).xw Md.out R4.kp fun g _ e => by simp [blk] at e; subst e; exact OA2
      have ie := (IE.below bd).xw Md.out R4.kp fun g _ e => by simp [blk] at e; subst e; exact OA2
      have l84 : l4.length ≤ 84 := by have := RL.out; rw [← R4.it, its_len] at this; exact this
      refine ⟨_, Lib.hid rfl, cat_facts (W := w4) (kind := 2) (a := ⟨some ⟨gl, 0, none⟩, cl, Ll.take C⟩) (b := ⟨A4, c4, l4⟩) (c := ⟨some ⟨gl, o', none⟩, cl - (C + 1), Ll.drop (C + 1)⟩) (T := 92) (va := .slice (some ⟨gl, 0, none⟩) C cl) (vb := .slice A4 n4 c4) (vc := .slice (some ⟨gl, o', none⟩) (nl - (C + 1)) (cl - (C + 1))) (.inr rfl) (by unfold LV.v; rw [lC]) (by unfold LV.v; rw [← ln]) (by unfold LV.v; rw [lE])
        (U := w4.alloc (.cells #[.slice (some ⟨gl, 0, none⟩) C cl, .slice A4 n4 c4, .slice (some ⟨gl, o', none⟩) (nl - (C + 1)) (cl - (C + 1))] 92)) (.inl rfl) (P := w4.heap.size) rfl R4.wm (by rw [lC]; exact ia) (by rw [← ln]; exact R4.ir) (by rw [lE]; exact ie) ?_ ?_ (Nat.le_trans hbW (Nat.le_trans b12.size (Nat.le_trans bd.size R4.kp.size))) rfl⟩
      · intro x hx
        rw [its_app, its_app, its_tk, its_dr, R4.it] at hx
        exact mem_three (fun x hx => OK.out.it x (List.mem_of_mem_take hx)) RO.out (fun x hx => OK.out.it x (List.mem_of_mem_drop hx)) x hx
      · simp only [List.length_append, List.length_take, List.length_drop]
        have := hll.out
        omega
    have FIN : Hid (∀ (w4 w5 w6 W3 : World) (A4 A5 A6 : Option Addr) (n4 c4 N c5 n6 c6 : Nat) (l4 l6 : List IV) (v4 v6 : WV), ChR W2.drew base q root v r4 w4 A4 n4 c4 l4 v4 → (Ll.take C ++ l4 ++ Ll.drop (C + 1)).length = N → CatS w4 base q 2 root v4 r4.2 N (Ll.take C ++ l4 ++ Ll.drop (C + 1)) W3 w5 A5 c5 →
        StR w5 base q root v4 2 ((Ll.take C ++ l4 ++ Ll.drop (C + 1)).length + 1) A5 (Ll.take C ++ l4 ++ Ll.drop (C + 1)) r4.2 w6 A6 n6 c6 l6 v6 → ChR W base q root v (chg key (its lb) (k + 1) n s) w6 A6 n6 c6 l6 v6) := Lib.hid fun w4 w5 w6 W3 A4 A5 A6 n4 c4 N c5 n6 c6 l4 l6 v4 v6 R4 hN CS S => by
      have k02 : Kp W W2.drew (Xw q v) := Kp.of_below (b12.trans (bd.mono b12.size)) _
      have nv4 : Nv W v v4 := by
        rcases R4.nv with h | ⟨g, h1, h2⟩
        · exact .inl h
        · exact .inr ⟨g, h1, Nat.le_trans (Nat.le_trans b12.size bd.size) h2⟩
      refine ChR.of_store (((k02.trans R4.kp fun _ _ e => e)).below CS.kp) nv4 CS.wm CS.own S ?_
      rw [HR.out]
      unfold stoF
      rw [its_app, its_app, its_tk, its_dr, R4.it]
      congr 1
      simp only [List.length_append, List.length_take, List.length_drop, its_len]
      rw [← R4.it, its_len]
    have kp0 : Kp W2.drew W2.drew (Xw q v) := Kp.refl _ _
    have s1 : (0 : Int) ≤ (C : Int) := by omega
    have s2 : (C : Int) ≤ (cl : Int) := by omega
    have s3 : (C : Int) < (nl : Int) := by omega
    have s6 : (nl : Int) ≤ (cl : Int) := by omega
    have s7 : (0 : Int) ≤ (C : Int) + 1 := by omega
    have s8 : (C : Int) + 1 ≤ (nl : Int) := by omega
    have s9 : (C : Int) + 1 ≤ (cl : Int) := by omega
    have s10 : (C : Int) ≤ (C : Int) + 1 := by omega
    have s11 : (C : Int) < (C : Int) + 1 := by omega
    have sw : IntKind.i64.wrap ((C : Int) + 1) = (C : Int) + 1 := by rw [IntKind.wrap_i64]; omega
    clear lC lE IE
    by_cases hcC : cl = C + 1
    · obtain rfl : nl = C + 1 := by omega
      obtain rfl : cl = C + 1 := hcC
      obtain rfl : o' = 0 := ho1 rfl
      rw [Nat.sub_self] at C2
      clear ho1 ho2 s6 s8 s9
      go_wp2_with fail
      go_region_held3 (fun w' => w'.cell? ⟨gl, C * 3 + 2, none⟩ = some (.int .i64 (xi.ch : Int)))
        ((refine KK.out _ ?_; first | exact kp0 | exact kp1.below (bal _ _) | exact kp1 | exact kp2 | exact kp3))
        (first
          | (go_at_call 66; refine CH.out.mono ?_; rintro e w4 ⟨A4, n4, c4, l4, v4, rfl, R4⟩; have kp1 := R4.out.kp; obtain ⟨N, HN, CC⟩ := C2.out _ _ _ _ _ _ R4.out)
          | (go_at_call 96; refine CC.mono ?_; rintro e w5 ⟨A5, c5, rfl, CS⟩; have kp2 := kp1.below CS.out.kp)
          | (go_at_call 68; refine CS.out.st.mono ?_; rintro e w6 ⟨A6, n6, c6, l6, v6, rfl, S6⟩; have kp3 := kp2.xw S6.out.kp R4.out.nv; have R6 := FIN.out _ _ _ _ _ _ _ _ _ _ _ _ _ _ _ _ _ R4.out HN.out CS.out S6.out))
      all_goals
        go_wp2_with fail
        go_ret
        exact ⟨A6, n6, c6, l6, v6, rfl, Lib.hid R6⟩
    · obtain rfl : o' = 0 + (C + 1) * 3 := ho2 hcC
      rw [Nat.zero_add] at C2
      clear ho1 ho2
      go_wp2_with fail
      go_region_held3 (fun w' => w'.cell? ⟨gl, C * 3 + 2, none⟩ = some (.int .i64 (xi.ch : Int)))
        ((refine KK.out _ ?_; first | exact kp0 | exact kp1.below (bal _ _) | exact kp1 | exact kp2 | exact kp3))
        (first
          | (go_at_call 66; refine CH.out.mono ?_; rintro e w4 ⟨A4, n4, c4, l4, v4, rfl, R4⟩; have kp1 := R4.out.kp; obtain ⟨N, HN, CC⟩ := C2.out _ _ _ _ _ _ R4.out)
          | (go_at_call 96; refine CC.mono ?_; rintro e w5 ⟨A5, c5, rfl, CS⟩; have kp2 := kp1.below CS.out.kp)
          | (go_at_call 68; refine CS.out.st.mono ?_; rintro e w6 ⟨A6, n6, c6, l6, v6, rfl, S6⟩; have kp3 := kp2.xw S6.out.kp R4.out.nv; have R6 := FIN.out _ _ _ _ _ _ _ _ _ _ _ _ _ _ _ _ _ R4.out HN.out CS.out S6.out))
      all_goals
        go_wp2_with fail
        go_ret
        exact ⟨A6, n6, c6, l6, v6, rfl, Lib.hid R6⟩
end Go.Proofs.YtpmkohnljngbhaaGreatDoor.Pg
/- Walks: copied, begin. -/
namespace Go.Proofs.YtpmkohnljngbhaaGreatDoor.Pg
set_option maxRecDepth 1000000
open Go.RowKit Wl

/-- Pages of the call's own. -/
structure Cp (w : World) (b0 : Nat) (A : Option Addr) (n c : Nat) (l : List PV) : Prop where
  own : w.ownsRow b0 30 1 (.slice A n c) n (pv l)
  dat : ∀ x ∈ l, w.ownsRow b0 5 1 (.slice x.A x.d.length x.c) x.d.length (bv x.d)
set_option maxRecDepth 1000000 in
set_option maxHeartbeats 1600000 in
theorem copied_any {A : Option Addr} {n c : Nat} {l : List PV} (w : World) (h : Hid (Pr w A n c l)) (hn : n ≤ 100000) (h256 : Hid (∀ x ∈ l, x.d.length ≤ 256)) :
    Calls Tryz.prog 71 #[.slice A n c] w fun e w' => ∃ A' c' l', e = .returned (.slice A' n c') ∧ l'.map PV.d = l.map PV.d ∧ Hid (Cp w' w.heap.size A' n c' l') ∧ Below w.heap.size w w' := by
  obtain ⟨i0, hi, hz0, hz1, hz2⟩ := info_parts info_page
  have hnc := h.out.row.nc
  have hc63 := h.out.row.c63
  have HL := Lib.hid h.out.len
  go_enter Tryz.func71, Tryz.ntmps71
  go_wp2_with fail
  go_loopw [3, 8] (fun ov iv wr => ∃ (j : Nat) (A' : Option Addr) (c' : Nat) (l' : List PV), j ≤ n ∧ iv = .int .i64 j ∧ ov = .slice A' j c' ∧ Hid (l'.map PV.d = (l.take j).map PV.d) ∧ Hid (Cp wr w.heap.size A' j c' l') ∧ Below w.heap.size w wr) (fun _ iv _ => (n - intOf iv).toNat)
  case atStart => exact ⟨0, none, 0, [], by omega, rfl, rfl, Lib.hid rfl, Lib.hid ⟨World.ownsRow_nil _ _ _ _, by simp⟩, Below.refl _ _⟩
  case round =>
    obtain ⟨j, A', c', l', hj, rfl, rfl, hl', hcp, bw⟩ := hrel
    by_cases hlt : j < n
    · obtain ⟨g, o, x, rfl, hg, hx, hcell⟩ := Rd.at1 (val := PV.v) (Rd.below h.out.row bw) hlt
      unfold PV.v at hcell
      have hxd := Lib.hid (Rd.below (h.out.dat x (List.mem_of_getElem? hx)) bw)
      have hx256 := h256.out x (List.mem_of_getElem? hx)
      have HX := Lib.hid hx
      clear hx
      go_wp2_with fail
      go_at_call 48
      refine (bclone_any _ hxd (bv_one _) (by omega)).mono ?_
      rintro e w1 ⟨A1, c1, rfl, own1, b1⟩
      have bw1 := bw.trans (b1.mono bw.size)
      have OW := Lib.hid (own_below hcp.out.own b1)
      obtain ⟨W2, hW2⟩ : ∃ W2, w1.alloc (.cells #[.slice A1 x.d.length c1] 30) = W2 := ⟨_, rfl⟩
      have b2 : Below w1.heap.size w1 W2 := hW2 ▸ bal _ _
      have RL : Hid (Rd W2 1 (some ⟨w1.heap.size, 0, none⟩) 1 1 [.slice A1 x.d.length c1]) := hW2 ▸ Lib.hid (Rd.lit w1 30 1 #[.slice A1 x.d.length c1] 1 (by omega) rfl)
      have OW2 := Lib.hid (own_below OW.out b2)
      have hb2 : w.heap.size ≤ W2.heap.size := Nat.le_trans bw1.size b2.size
      have HW2 := Lib.hid hW2
      clear hW2
      go_wp2_with (at_builtin; apply hold)
      unfold Hold
      rw [HW2.out]
      refine wpList_app _ rfl (.tmp 12) (.tmp 15) 26 rfl w.heap.size 30 i0 (.slice none 0 0) 1 24 Tryz.underlying26 hi hz0 hz1 hz2 rfl (by omega) (by rfl) OW2.out (by rfl) RL.out (one1 _ rfl) (by omega) (by omega) hb2 ?_
      intro A5 c5 W5 own5 g5
      have epv : pv (l' ++ [⟨A1, c1, x.d⟩]) = pv l' ++ [.slice A1 x.d.length c1] := by simp [pv, PV.v]
      rw [← epv] at own5
      have frz : ∀ (z : PV), W2.ownsRow w.heap.size 5 1 (.slice z.A z.d.length z.c) z.d.length (bv z.d) → W5.ownsRow w.heap.size 5 1 (.slice z.A z.d.length z.c) z.d.length (bv z.d) := fun z hz => own_grew hz g5 (by
        rcases hz' : blk z.A with _ | q
        · exact .inl rfl
        · right; intro e
          obtain ⟨a, h1⟩ := own_type hz hz'
          obtain ⟨b, h2⟩ := own_type OW2.out e.symm
          rw [h1] at h2; injection h2 with h2; injection h2 with _ h2; cases h2)
      have CP5 : Hid (Cp W5 w.heap.size A5 (j + 1) c5 (l' ++ [⟨A1, c1, x.d⟩])) := Lib.hid ⟨own5, fun y hy => by
        rcases List.mem_append.1 hy with hy | hy
        · exact frz y (own_below (own_below (hcp.out.dat y hy) b1) b2)
        · obtain rfl : y = _ := by simpa using hy
          exact frz _ (own_base (own_below own1.out b2) bw.size)⟩
      have bw5 : Below w.heap.size w W5 := g5.low (bw1.trans (b2.mono bw1.size)) hb2 fun q e => (own_blk_le OW2.out e).1
      have HL5 : Hid ((l' ++ [(⟨A1, c1, x.d⟩ : PV)]).map PV.d = (l.take (j + 1)).map PV.d) := Lib.hid (by rw [List.map_append, hl'.out, List.take_add_one, HX.out, List.map_append]; rfl)
      clear own5 g5 frz epv
      go_wp2_with fail
      go_roundw
      case rel => exact ⟨j + 1, A5, c5, l' ++ [⟨A1, c1, x.d⟩], by omega, by go_num, rfl, HL5, CP5, bw5⟩
      case measure => simp [intOf]; omega
    · obtain rfl : n = j := by omega
      have HL5 : Hid (l'.map PV.d = l.map PV.d) := Lib.hid (by rw [hl'.out, List.take_of_length_le (by have := HL.out; omega)])
      go_wp2_with fail
      go_ret
      exact ⟨A', c', l', rfl, HL5.out, hcp, bw⟩
/-- A writer's start. -/
theorem Wm.start {W : World} {base q n pc fc : Nat} {root : Int} {PA FA : Option Addr} {l : List PV} {fr : List Nat} (G : Gl W) (hb : 3 ≤ base) (hq : base ≤ q) (bx : Bx W q [.slice PA n pc, .int .i64 root, .slice FA fr.length fc, .bool false]) (qt : Ty W q 143)
    (cp : Cp W base PA n pc l) (hn : n = l.length) (p256 : ∀ x ∈ l, x.d.length = 256) (ofr : W.ownsRow base 3 1 (.slice FA fr.length fc) fr.length (nv fr)) (frl : ∀ x ∈ fr, x < l.length) (n4 : l.length ≤ 4096) :
    Wm W base q root ⟨PA, pc, l, FA, fc⟩ ⟨l.map PV.d, fr, false⟩ := by
  subst hn
  have ne : ∀ {A B : Option Addr} {T S n1 n2 c1 c2 s1 s2 b1 b2 g : Nat} {xs ys : List Value}, W.ownsRow b1 T s1 (.slice A n1 c1) n1 xs → W.ownsRow b2 S s2 (.slice B n2 c2) n2 ys → T ≠ S → blk A = some g → blk B ≠ some g := by
    intro A B T S n1 n2 c1 c2 s1 s2 b1 b2 g xs ys h1 h2 hne e1 e2
    obtain ⟨a, h3⟩ := own_type h1 e1
    obtain ⟨b, h4⟩ := own_type h2 e2
    rw [h3] at h4; injection h4 with h4; injection h4 with _ h4; exact hne h4
  have nq : ∀ {A : Option Addr} {T n1 c1 s1 b1 : Nat} {xs : List Value}, W.ownsRow b1 T s1 (.slice A n1 c1) n1 xs → T ≠ 143 → blk A ≠ some q := by
    intro A T n1 c1 s1 b1 xs h1 hne e1
    obtain ⟨a, h3⟩ := own_type h1 e1
    obtain ⟨b, h4⟩ := qt
    rw [h3] at h4; injection h4 with h4; injection h4 with _ h4; exact hne h4
  refine ⟨G, hb, hq, bx, qt, cp.own, rfl, fun x hx => ⟨Rd.of_own (cp.dat x hx), fun g _ e => .inr (own_type (cp.dat x hx) e)⟩, p256, fun x hx g e => own_type (cp.dat x hx) e, Rd.of_own ofr, fun g _ e => ⟨fun e' => nq ofr (by decide) (e' ▸ e), ne ofr cp.own (by decide) e⟩, fun g _ e => own_type ofr e, frl, nq cp.own (by decide), by simpa using n4⟩
theorem frok_nat {n : Nat} {root : Int} {l : List Int} (h : FrOk n root l) : ∃ fr : List Nat, l = fr.map (fun (x : Nat) => (x : Int)) ∧ ∀ x ∈ fr, x < n := by
  refine ⟨l.map Int.toNat, ?_, ?_⟩
  · rw [List.map_map]
    conv => lhs; rw [← List.map_id l]
    refine List.map_congr_left fun x hx => ?_
    obtain ⟨i, hi⟩ := List.mem_iff_getElem?.1 hx
    have := (h i x hi).1
    simp only [id, Function.comp]; omega
  · intro x hx
    obtain ⟨y, hy, rfl⟩ := List.mem_map.1 hx
    obtain ⟨i, hi⟩ := List.mem_iff_getElem?.1 hy
    have := (h i y hi).2.1
    have := (h i y hi).1
    omega
theorem iv_nat (fr : List Nat) : iv (fr.map (fun (x : Nat) => (x : Int))) = nv fr := by simp [iv, nv]
set_option maxRecDepth 1000000 in
set_option maxHeartbeats 1600000 in
theorem begin_cs {f : FV} {PA FA : Option Addr} {n pc m fc : Nat} {r0 : Int} {fr : List Nat} (hcs : CsOf f PA n pc r0 FA m fc) (w : World) (G : Hid (Gl w)) (HF : Hid (Fl w f)) (SH : Hid (Shp f.f)) (hfr : Hid (f.free = fr.map (fun (x : Nat) => (x : Int)))) (hfl : Hid (∀ x ∈ fr, x < f.ps.length)) :
    Calls Tryz.prog 64 #[.agg #[.slice PA n pc, .int .i64 r0, .slice FA m fc]] w fun e w' => ∃ q v, e = .returned (.pointer (some ⟨q, 0, none⟩)) ∧ Hid (Wm w' w.heap.size q r0 v ⟨f.ps.map PV.d, fr, false⟩) ∧ Below w.heap.size w w' := by
  obtain ⟨hx0, hn, hm, hPA, hpc, hFA, hfc⟩ := cs_root hcs
  have n4 : n ≤ 4096 := by have := SH.out.n4; simp only [FV.f, List.length_map] at this; omega
  have hm4 : m ≤ 4096 := by have := (shp_rdy SH.out).fl; omega
  have hb0 : Below w.heap.size w (w.alloc (.cells #[.slice PA n pc, .int .i64 r0, .slice FA m fc] 29)) := bal _ _
  obtain ⟨W0, hW0⟩ : ∃ W0, w.alloc (.cells #[.slice PA n pc, .int .i64 r0, .slice FA m fc] 29) = W0 := ⟨_, rfl⟩
  rw [hW0] at hb0
  have B0 : Hid (Bx W0 w.heap.size [.slice PA n pc, .int .i64 r0, .slice FA m fc]) := Lib.hid (hW0 ▸ Bx.new w #[.slice PA n pc, .int .i64 r0, .slice FA m fc] _)
  have HF0 := HF.out.below hb0
  have PR : Hid (Pr W0 PA n pc f.ps) := by have := HF0.pg; rw [← hn, ← hPA, ← hpc] at this; exact Lib.hid this
  have FRR : Hid (Rd W0 1 FA m fc (nv fr)) := by have := HF0.fr; rw [← hm, ← hFA, ← hfc, hfr.out, iv_nat] at this; exact Lib.hid this
  have HM : Hid (fr.length = m) := Lib.hid (by rw [hm, hfr.out, List.length_map])
  have HN : Hid (n = f.ps.length) := Lib.hid hn
  have P256 : Hid (∀ x ∈ f.ps, x.d.length = 256) := Lib.hid (shp_rdy SH.out).p256
  have hz0 : w.heap.size < W0.heap.size := by rw [← hW0]; simp
  have HW0 := Lib.hid hW0
  clear hx0 hn hm hPA hpc hFA hfc hW0 HF0
  have KK : Hid (∀ U, Below W0.heap.size W0 U → U.cell? ⟨w.heap.size, 0, none⟩ = some (.slice PA n pc) ∧ U.cell? ⟨w.heap.size, 1, none⟩ = some (.int .i64 r0) ∧ U.cell? ⟨w.heap.size, 2, none⟩ = some (.slice FA m fc)) := Lib.hid fun U hU =>
    ⟨(B0.out.step hU).at_ 0 (by simp), (B0.out.step hU).at_ 1 (by simp), (B0.out.step hU).at_ 2 (by simp)⟩
  have bd : Below W0.heap.size W0 W0.drew := (Below.refl _ _).drew
  have C1 : Hid (∀ U, Below W0.heap.size W0 U → Calls Tryz.prog 71 #[.slice PA n pc] U fun e w' => ∃ A' c' l', e = .returned (.slice A' n c') ∧ l'.map PV.d = f.ps.map PV.d ∧ Hid (Cp w' U.heap.size A' n c' l') ∧ Below U.heap.size U w') := Lib.hid fun U hU => copied_any U (Lib.hid (PR.out.below hU)) (by omega) (Lib.hid fun x hx => Nat.le_of_eq (P256.out x hx))
  have C2 : Hid (∀ U, Below W0.heap.size W0 U → Calls Tryz.prog 94 #[.slice FA m fc] U (Mv U 3 1 m (nv fr))) := Lib.hid fun U hU => iclone_any U (Lib.hid (Rd.below FRR.out hU)) (by intro u hu; simp only [nv, List.mem_map] at hu; obtain ⟨_, _, rfl⟩ := hu; rfl) (by omega)
  go_enter Tryz.func64, Tryz.ntmps64
  go_wp2_with fail
  rw [HW0.out]
  go_region_held3 (fun w' => w'.cell? ⟨w.heap.size, 0, none⟩ = some (.slice PA n pc) ∧ w'.cell? ⟨w.heap.size, 1, none⟩ = some (.int .i64 r0) ∧ w'.cell? ⟨w.heap.size, 2, none⟩ = some (.slice FA m fc))
    ((refine KK.out _ ?_; first | exact bd | exact bb1 | exact bb2 | exact bel_alloc bb2 (Nat.le_refl _) _))
    (first
      | (go_at_call 71; refine (C1.out _ bd).mono ?_; rintro e w1 ⟨A1, c1, l1, rfl, hl1, cp1, b1⟩; have bb1 := bd.trans (b1.mono bd.size))
      | (go_at_call 94; refine (C2.out _ bb1).mono ?_; rintro e w2 ⟨A2, c2, rfl, own2, b2⟩; have bb2 := bb1.trans (b2.mono bb1.size)))
  all_goals
    have b3 : Below w2.heap.size w2 (w2.alloc (.cells #[.slice A1 n c1, .int .i64 r0, .slice A2 m c2, .bool false] 143)) := bal _ _
    have bw3 : Below w.heap.size w (w2.alloc (.cells #[.slice A1 n c1, .int .i64 r0, .slice A2 m c2, .bool false] 143)) := hb0.trans ((bb2.mono hb0.size).trans (b3.mono (Nat.le_trans hb0.size bb2.size)))
    have hsz : W0.drew.heap.size = W0.heap.size := rfl
    have CP3 : Cp (w2.alloc (.cells #[.slice A1 n c1, .int .i64 r0, .slice A2 m c2, .bool false] 143)) w.heap.size A1 n c1 l1 :=
      ⟨own_base (own_below (own_below cp1.out.own b2) b3) (by omega), fun x hx => own_base (own_below (own_below (cp1.out.dat x hx) b2) b3) (by omega)⟩
    have LN : l1.length = f.ps.length := by have := congrArg List.length hl1; simpa using this
    have OF3 := own_base (base' := w.heap.size) (own_below own2.out b3) (Nat.le_trans hb0.size bb1.size)
    have ST := Wm.start (base := w.heap.size) (q := w2.heap.size) (root := r0) (fr := fr) (G.out.low bw3 G.out.sz) G.out.sz (Nat.le_trans hb0.size bb2.size) (by rw [HM.out]; exact Bx.new w2 #[.slice A1 n c1, .int .i64 r0, .slice A2 m c2, .bool false] _) (Ty.new _ _ _) CP3 (by rw [HN.out, LN])
      (fun x hx => by
        have : x.d ∈ f.ps.map PV.d := hl1 ▸ List.mem_map.2 ⟨x, hx, rfl⟩
        obtain ⟨y, hy, e⟩ := List.mem_map.1 this
        rw [← e]; exact P256.out y hy) (by rw [HM.out]; exact OF3) (fun x hx => by rw [LN]; exact hfl.out x hx) (by rw [LN, ← HN.out]; exact n4)
    rw [hl1] at ST
    have ST := Lib.hid ST
    clear OF3 CP3 hl1
    go_wp2_with fail
    go_ret
    exact ⟨_, _, rfl, ST, bw3⟩
end Go.Proofs.YtpmkohnljngbhaaGreatDoor.Pg
/- The walk of the writer's done. -/
namespace Go.Proofs.YtpmkohnljngbhaaGreatDoor.Pg
set_option maxRecDepth 1000000
open Go.RowKit Wl

/-- Of what type the blocks of a file are. -/
structure FlT (W : World) (f : FV) : Prop where
  fl : Fl W f
  pa : ∀ g, blk f.PA = some g → Ty W g 30
  da : ∀ x ∈ f.ps, ∀ g, blk x.A = some g → Ty W g 5
  fa : ∀ g, 0 < f.free.length → blk f.FA = some g → Ty W g 3
/-- What done answers. -/
def DnPost (W : World) (base : Nat) (r : List It × Ws) (e : Ending) (W' : World) : Prop :=
  ((r.2.full = true ∧ e = .returned (.tuple #[.agg #[.slice none 0 0, .int .i64 0, .slice none 0 0], .int .i64 5])) ∨
    (r.2.full = false ∧ ∃ f : FV, e = .returned (.tuple #[f.val, .int .i64 0]) ∧ f.f = ⟨r.2.pg, rootOf r.1, r.2.fr.map (fun (x : Nat) => (x : Int))⟩ ∧ Hid (FlT W' f))) ∧ Below base W W'
theorem Wm.root {W : World} {base q : Nat} {root r2 : Int} {v : WV} {s : Ws} (M : Wm W base q root v s) : Wm (W.setCell ⟨q, 1, none⟩ (.int .i64 r2)) base q r2 v s := by
  have k1 : Kp W (W.setCell ⟨q, 1, none⟩ (.int .i64 r2)) (· = q) := Kp.of_set W ⟨q, 1, none⟩ _ rfl
  have nq : ∀ i, i = q → ¬ Sf W base i := fun i e => M.nsf i (.inl e)
  have g1 : ¬ 1 = q := by have := M.q1; have := M.b3; omega
  have g2 : ¬ 2 = q := by have := M.q1; have := M.b3; omega
  have hz := M.gl.sz
  refine ⟨⟨Nat.le_trans hz k1.size, fun i hi => by rw [World.cell?_of_block (k1.block 1 (by omega) g1)]; exact M.gl.first i hi, fun i hi => by rw [World.cell?_of_block (k1.block 2 (by omega) g2)]; exact M.gl.acc i hi⟩, M.b3, M.q1, ?_, Ty.set (show Ty W q 143 from M.qt) q 1 _,
    own_kp M.own k1 (fun g e e' => M.apq (e' ▸ e)), M.pgs, fun x hx => (M.dat x hx).wr (Wr.of_kp k1 nq), M.p256, fun x hx g e => (M.dty x hx g e).kp k1 fun e' => nq g e' (.inr (M.dty x hx g e)), Rd.kp M.fr k1 fun g h e => (M.frb g h e).1, M.frb, fun g h e => (M.frt g h e).kp k1 (M.frb g h e).1, M.frl, M.apq, M.n4⟩
  have := M.bx.set (j := 1) (by simp) (.int .i64 r2)
  simpa using this
/-- A writer's file. -/
theorem Wm.file {W : World} {base q : Nat} {root : Int} {v : WV} {s : Ws} (M : Wm W base q root v s) : FlT W ⟨v.PA, v.pc, v.ps, root, v.FA, v.fc, s.fr.map (fun (x : Nat) => (x : Int))⟩ :=
  ⟨⟨⟨Rd.of_own M.own, fun x hx => (M.dat x hx).rd⟩, by simp only [List.length_map]; rw [iv_nat]; exact M.fr⟩, fun g e => own_type M.own e, M.dty, fun g h e => M.frt g (by simpa using h) e⟩
/-- The end of done. -/
theorem done_end {W W0 W1 W2 : World} {base q R0 : Nat} {root r2 : Int} {v v1 : WV} {s s1 : Ws} {l : List It} {a b c : Value} {e : Ending} (hR0 : W.heap.size = R0) (hb : base ≤ R0) (hb0 : Below W.heap.size W W0) (hs0 : W0.heap.size = R0 + 1) (M : Wm W base q root v s) (T0 : Ty W0 R0 29) (K1 : Kp W0 W1 (Xw q v)) (N1 : Nv W0 v v1) (M2 : Wm W2 base q r2 v1 s1) (K2 : Kp W1 W2 (· = q))
    (hr : r2 = rootOf l)
    (he : (s1.full = true ∧ e = .returned (.tuple #[.agg #[.slice none 0 0, .int .i64 0, .slice none 0 0], .int .i64 5])) ∨ (s1.full = false ∧ e = .returned (.tuple #[.agg #[.slice v1.PA v1.ps.length v1.pc, .int .i64 r2, .slice v1.FA s1.fr.length v1.fc], .int .i64 0]))) :
    DnPost W base (l, s1) e (((W2.setCell ⟨R0, 0, none⟩ a).setCell ⟨R0, 1, none⟩ b).setCell ⟨R0, 2, none⟩ c) := by
  have hqR : q < R0 := hR0 ▸ M.bx.lt
  have nR : ¬ Xw q v R0 := by
    rintro (e | e)
    · omega
    · have := (own_blk_le M.own e).2; omega
  have T2 : Ty W2 R0 29 := (T0.kp K1 nR).kp K2 (fun e => by omega)
  have k1 : Kp W2 (W2.setCell ⟨R0, 0, none⟩ a) (· = R0) := Kp.of_set W2 ⟨R0, 0, none⟩ _ rfl
  have k2 : Kp (W2.setCell ⟨R0, 0, none⟩ a) ((W2.setCell ⟨R0, 0, none⟩ a).setCell ⟨R0, 1, none⟩ b) (· = R0) := Kp.of_set _ ⟨R0, 1, none⟩ _ rfl
  have k3 : Kp ((W2.setCell ⟨R0, 0, none⟩ a).setCell ⟨R0, 1, none⟩ b) (((W2.setCell ⟨R0, 0, none⟩ a).setCell ⟨R0, 1, none⟩ b).setCell ⟨R0, 2, none⟩ c) (· = R0) := Kp.of_set _ ⟨R0, 2, none⟩ _ rfl
  have kk := (k1.trans k2 fun _ _ e => e).trans k3 fun _ _ e => e
  have hPA : blk v1.PA ≠ some R0 := fun e => by
    rcases N1 with h | ⟨g, h1, h2⟩
    · exact nR (.inr (h ▸ e))
    · rw [h1] at e; injection e with e; omega
  have M3 := M2.kp kk (fun e => by omega) (fun g e e' => hPA (e' ▸ e)) (fun g h0 e e' => by
      obtain ⟨x, h1⟩ := M2.frt g h0 e; obtain ⟨y, h2⟩ := T2
      rw [← (show g = R0 from e'), h1] at h2; injection h2 with h2; injection h2 with _ h2; cases h2) fun i e => e ▸ T2.nsf hb (by decide)
  have nl : ∀ i, Xw q v i → base ≤ i := by
    rintro i (e | e)
    · exact e ▸ M.q1
    · exact (own_blk_le M.own e).1
  have B1 : Below base W W1 := (hb0.mono (hR0 ▸ hb)).trans (K1.low (by omega) nl)
  have B2 : Below base W W2 := B1.trans (K2.low (Nat.le_trans (hR0 ▸ hb : base ≤ W.heap.size) B1.size) fun i e => e ▸ M.q1)
  have B3 := B2.trans (kk.low (B := base) (Nat.le_trans (hR0 ▸ hb : base ≤ W.heap.size) B2.size) fun i e => e ▸ hb)
  refine ⟨?_, B3⟩
  rcases he with ⟨h1, h2⟩ | ⟨h1, h2⟩
  · exact .inl ⟨h1, h2⟩
  · refine .inr ⟨h1, ⟨v1.PA, v1.pc, v1.ps, r2, v1.FA, v1.fc, s1.fr.map (fun (x : Nat) => (x : Int))⟩, ?_, ?_, Lib.hid M3.file⟩
    · rw [h2]; unfold FV.val; simp only [List.length_map]
    · unfold FV.f; simp only [M2.pgs, hr]
set_option maxRecDepth 1000000 in
set_option maxHeartbeats 6400000 in
theorem done_any {base q F : Nat} {root : Int} {v : WV} {s : Ws} {A : Option Addr} {n c : Nat} {l : List IV} (W : World) (M : Hid (Wm W base q root v s)) (I : Hid (Ir W base A n c l)) (ap : Hid (∀ g, 0 < n → blk A = some g → ¬ Xw q v g)) (ok : Hid (∀ x ∈ its l, ItOk 2 x)) (hn : n ≤ 1000) (hF : n ≤ F) (hbW : base ≤ W.heap.size) :
    Calls Tryz.prog 65 #[.pointer (some ⟨q, 0, none⟩), .slice A n c] W (DnPost W base (dnF F (its l) s)) := by
  obtain ⟨r, hr⟩ : ∃ r, dnF F (its l) s = r := ⟨_, rfl⟩
  rw [hr]
  have HR := Lib.hid hr
  clear hr
  obtain ⟨R0, hR0⟩ : ∃ R0, W.heap.size = R0 := ⟨_, rfl⟩
  obtain ⟨W0, hW0⟩ : ∃ W0, W.alloc (.cells #[.slice none 0 0, .int .i64 0, .slice none 0 0] 29) = W0 := ⟨_, rfl⟩
  have hb0 : Below W.heap.size W W0 := hW0 ▸ bal _ _
  have X0 : Hid (Bx W0 R0 [.slice none 0 0, .int .i64 0, .slice none 0 0]) := hW0 ▸ Lib.hid (Bx.put W hR0 #[.slice none 0 0, .int .i64 0, .slice none 0 0] 29)
  have T0 : Hid (Ty W0 R0 29) := hW0 ▸ hR0 ▸ Lib.hid (Ty.new W _ _)
  have hs0 : W0.heap.size = R0 + 1 := by rw [← hW0, ← hR0]; simp
  have I0 := Lib.hid (I.out.below hb0)
  have M0 := Lib.hid (M.out.low hb0)
  have HW0 := Lib.hid hW0
  have hqR : q < R0 := hR0 ▸ M.out.bx.lt
  have nR : ¬ Xw q v R0 := by
    rintro (e | e)
    · omega
    · have := (own_blk_le M.out.own e).2; omega
  clear hW0
  go_enter Tryz.func65, Tryz.ntmps65
  go_wp2_with fail
  rw [HW0.out]
  go_loopw [1] (fun lv wr => ∃ (A1 : Option Addr) (n1 c1 : Nat) (l1 : List IV) (v1 : WV) (s1 : Ws) (F1 : Nat), lv = .slice A1 n1 c1 ∧ n1 ≤ 1000 ∧ n1 ≤ F1 ∧ Hid (dnF F1 (its l1) s1 = r) ∧ Hid (Wm wr base q root v1 s1) ∧ Hid (Ir wr base A1 n1 c1 l1) ∧ Hid (∀ g, 0 < n1 → blk A1 = some g → ¬ Xw q v1 g) ∧ Hid (∀ x ∈ its l1, ItOk 2 x) ∧ Hid (Kp W0 wr (Xw q v)) ∧ Hid (Nv W0 v v1)) (fun lv _ => match lv with | .slice _ n _ => n | _ => 0)
  case atStart => exact ⟨A, n, c, l, v, s, F, rfl, hn, hF, HR, M0, I0, ap, ok, Lib.hid (Kp.refl _ _), Lib.hid (.inl rfl)⟩
  case round =>
    obtain ⟨A1, n1, c1, l1, v1, s1, F1, rfl, hn1, hF1, hr1, M1, I1, ap1, ok1, K1, N1⟩ := hrel
    have HL1 := Lib.hid I1.out.len
    by_cases hlt : 1 < n1
    · obtain ⟨F2, rfl⟩ : ∃ F2, F1 = F2 + 1 := ⟨F1 - 1, by omega⟩
      have hb1 : base ≤ wr.heap.size := Nat.le_trans hbW (Nat.le_trans hb0.size K1.out.size)
      have ST := store_any (base := base) (q := q) (kind := 2) (root := root) (.inr rfl) (l1.length + 1) v1 s1 A1 n1 c1 l1 wr (by omega) M1 I1 ap1 ok1 (by omega) hb1
      have ST := Lib.hid ST
      have HD : Hid (dnF F2 (stoF 2 (its l1) s1).1 (stoF 2 (its l1) s1).2 = r) := Lib.hid (by
        have h := hr1.out
        unfold dnF at h
        rwa [if_neg (by rw [its_len, ← HL1.out]; omega)] at h)
      have LEN := Lib.hid ((sto_len (kind := 2) (f := l1.length + 1) (s := s1) ok1.out).2 rfl (by rw [its_len, ← HL1.out]; omega))
      have OK2 := Lib.hid (sto_ok (kind := 2) (f := l1.length + 1) (ows_ok M1.out) ok1.out).1
      go_wp2_with fail
      go_at_call 68
      refine ST.out.mono ?_
      rintro e w2 ⟨A2, n2, c2, l2, v2, rfl, S2⟩
      have hn2 : n2 < n1 := by have h := LEN.out; rw [← S2.out.it, its_len, its_len, ← S2.out.ir.len, ← HL1.out] at h; exact h
      have AP2 : Hid (∀ g, 0 < n2 → blk A2 = some g → ¬ Xw q v2 g) := Lib.hid fun g _ e => by
        rcases S2.out.ow with ⟨⟨_, h⟩, _⟩ | h
        · have := HL1.out; omega
        · exact own_apx h S2.out.wm g e
      have K2 := Lib.hid (K1.out.xw S2.out.kp N1.out)
      have N2 : Hid (Nv W0 v v2) := Lib.hid (Nw.trans N1.out S2.out.nv K1.out.size)
      have HD2 : Hid (dnF F2 (its l2) (stoF 2 (its l1) s1).2 = r) := Lib.hid (by rw [S2.out.it]; have h := HD.out; unfold stoF at h ⊢; rw [its_len] at h ⊢; exact h)
      have WM2 : Hid (Wm w2 base q root v2 (stoF 2 (its l1) s1).2) := Lib.hid (by unfold stoF; rw [its_len]; exact S2.out.wm)
      go_wp2_with fail
      go_roundw
      case rel => exact ⟨A2, n2, c2, l2, v2, _, F2, rfl, by omega, by omega, HD2, WM2, Lib.hid S2.out.ir, AP2, by rw [S2.out.it]; exact OK2, K2, N2⟩
      case measure => simp; omega
    · have HRR : Hid (r = (its l1, s1)) := Lib.hid (by rw [← hr1.out, dnF_stop (by rw [its_len, ← HL1.out]; omega)])
      have q0 := M1.out.bx.at_ 0 (by simp)
      have q1 := M1.out.bx.at_ 1 (by simp)
      have q2 := M1.out.bx.at_ 2 (by simp)
      have q3 := M1.out.bx.at_ 3 (by simp)
      simp only [List.getElem?_cons_succ, List.getElem?_cons_zero] at q0 q1 q2 q3
      have qf1 := M1.out.bx.fz 1 (by simp)
      have hc1 := I1.out.row.nc
      have hc163 := I1.out.row.c63
      have MR := fun r2 : Int => M1.out.root (r2 := r2)
      have MR := Lib.hid MR
      by_cases h0 : n1 = 0
      · subst h0
        obtain rfl : l1 = [] := List.eq_nil_of_length_eq_zero HL1.out.symm
        go_upto_region 6 with fail
        obtain ⟨W2, hW2⟩ : ∃ W2, wr.setCell ⟨q, 1, none⟩ (.int .i64 (-1)) = W2 := ⟨_, rfl⟩
        have M2 : Wm W2 base q (-1) v1 s1 := hW2 ▸ MR.out (-1)
        have K2 : Kp wr W2 (· = q) := hW2 ▸ Kp.of_set wr ⟨q, 1, none⟩ _ rfl
        rw [hW2]
        clear hW2 q0 q1 q2 q3 qf1
        have ROOT : Hid ((-1 : Int) = rootOf (its [])) := Lib.hid rfl
        have X2 := Lib.hid ((X0.out.kp K1.out nR).kp K2 (by omega))
        have q0 := M2.bx.at_ 0 (by simp)
        have q1 := M2.bx.at_ 1 (by simp)
        have q2 := M2.bx.at_ 2 (by simp)
        have q3 := M2.bx.at_ 3 (by simp)
        simp only [List.getElem?_cons_succ, List.getElem?_cons_zero] at q0 q1 q2 q3
        have r0 := X2.out.at_ 0 (by simp)
        have r1 := X2.out.at_ 1 (by simp)
        have r2 := X2.out.at_ 2 (by simp)
        simp only [List.getElem?_cons_succ, List.getElem?_cons_zero] at r0 r1 r2
        have g0 := X2.out.fz 0 (by simp)
        have g1 := X2.out.fz 1 (by simp)
        have g2 := X2.out.fz 2 (by simp)
        have c0 := fun a => World.cell?_setCell_same W2 ⟨R0, 0, none⟩ a r0
        have c1 := fun a b => World.cell?_setCell_same (W2.setCell ⟨R0, 0, none⟩ a) ⟨R0, 1, none⟩ b ((World.cell?_setCell_other _ _ _ _ (by simp)).trans r1)
        have c2 := fun a b c => World.cell?_setCell_same ((W2.setCell ⟨R0, 0, none⟩ a).setCell ⟨R0, 1, none⟩ b) ⟨R0, 2, none⟩ c ((World.cell?_setCell_other _ _ _ _ (by simp)).trans ((World.cell?_setCell_other _ _ _ _ (by simp)).trans r2))
        have C0 := Lib.hid c0
        have C1 := Lib.hid c1
        have C2 := Lib.hid c2
        clear c0 c1 c2
        have END := fun (e : Ending) (a b c : Value) he => (show DnPost W base r e _ by rw [HRR.out]; exact done_end (a := a) (b := b) (c := c) (e := e) hR0 (by omega) hb0 hs0 M.out T0.out K1.out N1.out M2 K2 (l := its []) ROOT.out he)
        have END := Lib.hid END
        obtain ⟨pn, hpn⟩ : ∃ pn, v1.ps.length = pn := ⟨_, rfl⟩
        obtain ⟨fn, hfn⟩ : ∃ fn, s1.fr.length = fn := ⟨_, rfl⟩
        rw [hpn] at q0 END
        rw [hfn] at q2 END
        clear hpn hfn M2 K2
        rcases hful : s1.full with _ | _
        · rw [hful] at q3
          have HF := Lib.hid hful
          clear hful
          go_wp2_with fail
          refine bodyPost_ret (v := .tuple #[.agg #[.slice v1.PA pn v1.pc, .int .i64 (-1), .slice v1.FA fn v1.fc], .int .i64 0]) (by simp [results, Tryz.results65, go_sem, C0.out, C1.out, C2.out]) rfl (END.out _ _ _ _ (.inr ⟨HF.out, rfl⟩))
        · rw [hful] at q3
          have HF := Lib.hid hful
          clear hful
          go_wp2_with fail
          refine bodyPost_ret (v := .tuple #[.agg #[.slice none 0 0, .int .i64 0, .slice none 0 0], .int .i64 5]) (by simp [results, Tryz.results65, go_sem, C0.out, C1.out, C2.out]) rfl (END.out _ _ _ _ (.inl ⟨HF.out, rfl⟩))
      · obtain rfl : n1 = 1 := by omega
        obtain ⟨g, o, x, rfl, hg, hx, _, _, x2⟩ := Rd.item I1.out.row (show 0 < 1 by omega)
        rw [Nat.zero_mul, Nat.add_zero] at x2
        have hgq : g ≠ q := fun e => ap1.out g (by omega) rfl (.inl e)
        have ROOT : Hid (((x.ch : Nat) : Int) = rootOf (its l1)) := by
          match l1, hx with
          | y :: m, hx => obtain rfl : y = x := by simpa using hx
                          exact Lib.hid rfl
        have x3 : (wr.setCell ⟨q, 1, none⟩ (.int .i64 (-1))).cell? ⟨g, o + 2, none⟩ = some (.int .i64 (x.ch : Int)) := (World.cell?_setCell_other _ _ _ _ (by first | (simp; done) | (simp; omega))).trans x2
        clear hx x2
        go_upto_region 6 with fail
        obtain ⟨W2, hW2⟩ : ∃ W2, (wr.setCell ⟨q, 1, none⟩ (.int .i64 (-1))).setCell ⟨q, 1, none⟩ (.int .i64 (x.ch : Int)) = W2 := ⟨_, rfl⟩
        have M2 : Wm W2 base q (x.ch : Int) v1 s1 := hW2 ▸ (MR.out (-1)).root
        have K2 : Kp wr W2 (· = q) := hW2 ▸ (Kp.of_set (X := fun i => i = q) wr ⟨q, 1, none⟩ (.int .i64 (-1)) rfl).trans (Kp.of_set (X := fun i => i = q) _ ⟨q, 1, none⟩ _ rfl) fun _ _ e => e
        rw [hW2]
        clear hW2 q0 q1 q2 q3 qf1 x3
        have X2 := Lib.hid ((X0.out.kp K1.out nR).kp K2 (by omega))
        have q0 := M2.bx.at_ 0 (by simp)
        have q1 := M2.bx.at_ 1 (by simp)
        have q2 := M2.bx.at_ 2 (by simp)
        have q3 := M2.bx.at_ 3 (by simp)
        simp only [List.getElem?_cons_succ, List.getElem?_cons_zero] at q0 q1 q2 q3
        have r0 := X2.out.at_ 0 (by simp)
        have r1 := X2.out.at_ 1 (by simp)
        have r2 := X2.out.at_ 2 (by simp)
        simp only [List.getElem?_cons_succ, List.getElem?_cons_zero] at r0 r1 r2
        have g0 := X2.out.fz 0 (by simp)
        have g1 := X2.out.fz 1 (by simp)
        have g2 := X2.out.fz 2 (by simp)
        have c0 := fun a => World.cell?_setCell_same W2 ⟨R0, 0, none⟩ a r0
        have c1 := fun a b => World.cell?_setCell_same (W2.setCell ⟨R0, 0, none⟩ a) ⟨R0, 1, none⟩ b ((World.cell?_setCell_other _ _ _ _ (by simp)).trans r1)
        have c2 := fun a b c => World.cell?_setCell_same ((W2.setCell ⟨R0, 0, none⟩ a).setCell ⟨R0, 1, none⟩ b) ⟨R0, 2, none⟩ c ((World.cell?_setCell_other _ _ _ _ (by simp)).trans ((World.cell?_setCell_other _ _ _ _ (by simp)).trans r2))
        have C0 := Lib.hid c0
        have C1 := Lib.hid c1
        have C2 := Lib.hid c2
        clear c0 c1 c2
        have END := fun (e : Ending) (a b c : Value) he => (show DnPost W base r e _ by rw [HRR.out]; exact done_end (a := a) (b := b) (c := c) (e := e) hR0 (by omega) hb0 hs0 M.out T0.out K1.out N1.out M2 K2 (l := its l1) ROOT.out he)
        have END := Lib.hid END
        obtain ⟨pn, hpn⟩ : ∃ pn, v1.ps.length = pn := ⟨_, rfl⟩
        obtain ⟨fn, hfn⟩ : ∃ fn, s1.fr.length = fn := ⟨_, rfl⟩
        rw [hpn] at q0 END
        rw [hfn] at q2 END
        clear hpn hfn M2 K2
        rcases hful : s1.full with _ | _
        · rw [hful] at q3
          have HF := Lib.hid hful
          clear hful
          go_wp2_with fail
          refine bodyPost_ret (v := .tuple #[.agg #[.slice v1.PA pn v1.pc, .int .i64 (x.ch : Int), .slice v1.FA fn v1.fc], .int .i64 0]) (by simp [results, Tryz.results65, go_sem, C0.out, C1.out, C2.out]) rfl (END.out _ _ _ _ (.inr ⟨HF.out, rfl⟩))
        · rw [hful] at q3
          have HF := Lib.hid hful
          clear hful
          go_wp2_with fail
          refine bodyPost_ret (v := .tuple #[.agg #[.slice none 0 0, .int .i64 0, .slice none 0 0], .int .i64 5]) (by simp [results, Tryz.results65, go_sem, C0.out, C1.out, C2.out]) rfl (END.out _ _ _ _ (.inl ⟨HF.out, rfl⟩))
end Go.Proofs.YtpmkohnljngbhaaGreatDoor.Pg
