/- The walk of the writer's store. -/
import Derived.Test.YtphiblmkgbkdmaaDoorPgX2
import Derived.Deep.CutBlock
namespace Go.Proofs.YtphiblmkgbkdmaaDoor.Pg
set_option linter.unusedVariables false
set_option linter.unusedSimpArgs false
open Go.RowKit Wl

theorem Rd.cutk {w : World} {n c g o k : Nat} {l : List IV} (h : Rd w 3 (some ⟨g, o, none⟩) n c (ic l)) (hk : k ≤ n) : Rd w 3 (some ⟨g, o, none⟩) k c (ic (l.take k)) := by
  have hl := len3 h
  have hnc := h.nc
  refine ⟨by rw [ic_len, List.length_take]; omega, by omega, fun e => (by cases e), h.c63, fun hp => ?_⟩
  obtain ⟨g', o', e, hb, hc⟩ := h.at_ (by omega)
  refine ⟨g', o', e, hb, fun j hj => ?_⟩
  rw [hc j (by omega), ← ic_take l k (by omega), List.getElem?_take, if_pos hj]
theorem Ir.pre {w : World} {base n c g o k : Nat} {l : List IV} (h : Ir w base (some ⟨g, o, none⟩) n c l) (hk : k ≤ n) : Ir w base (some ⟨g, o, none⟩) k c (l.take k) :=
  ⟨Rd.cutk h.row hk, fun x hx => h.dat x (List.mem_of_mem_take hx)⟩
theorem Ir.suf {w : World} {base n c g o k : Nat} {l : List IV} (h : Ir w base (some ⟨g, o, none⟩) n c l) (hk : k ≤ n) : Ir w base (some ⟨g, o + k * 3, none⟩) (n - k) (c - k) (l.drop k) := by
  have := h.cut (lo := k) (hi := n) hk (Nat.le_refl _)
  rwa [List.take_of_length_le (by rw [List.length_drop, h.len]; omega)] at this
theorem its_tk (l : List IV) (k : Nat) : its (l.take k) = (its l).take k := by simp [its, List.map_take]
theorem its_dr (l : List IV) (k : Nat) : its (l.drop k) = (its l).drop k := by simp [its, List.map_drop]
/-- What store leaves. -/
structure StR (W : World) (base q : Nat) (root : Int) (v : WV) (kind f : Nat) (A : Option Addr) (l : List IV) (s : Ws) (W' : World) (A' : Option Addr) (n' c' : Nat) (l' : List IV) (v' : WV) : Prop where
  it : its l' = (sto kind f (its l) s).1
  wm : Wm W' base q root v' (sto kind f (its l) s).2
  ir : Ir W' base A' n' c' l'
  kp : Kp W W' (Xw q v)
  nv : Nv W v v'
  ow : ((kind = 2 ∧ l.length = 1) ∧ A' = A) ∨ W'.ownsRow W.heap.size 86 3 (.slice A' n' c') n' (ic l')
def StPost (W : World) (base q : Nat) (root : Int) (v : WV) (kind f : Nat) (A : Option Addr) (l : List IV) (s : Ws) (e : Ending) (W' : World) : Prop :=
  ∃ (A' : Option Addr) (n' c' : Nat) (l' : List IV) (v' : WV), e = .returned (.slice A' n' c') ∧ Hid (StR W base q root v kind f A l s W' A' n' c' l' v')
section
variable {W w1 w2 w3 w4 : World} {base q kind f g o n c k n1 c1 n2 c2 c3 : Nat} {root : Int} {v v1 v2 : WV} {s : Ws} {l l1 l2 : List IV} {A1 A2 A3 : Option Addr}
theorem own_xw {e n c base0 : Nat} {A : Option Addr} {xs : List Value} (h : w1.ownsRow base0 86 e (.slice A n c) n xs) (m : Wm w1 base q root v s) (k : Kp w1 w2 (Xw q v)) : w2.ownsRow base0 86 e (.slice A n c) n xs := by
  refine own_kp h k fun g hg => ?_
  obtain ⟨cs, h1⟩ := own_type h hg
  rintro (rfl | e2)
  · obtain ⟨c2, h2⟩ := m.qt
    rw [h1] at h2; injection h2 with h2; injection h2 with _ h2; cases h2
  · obtain ⟨c2, h2⟩ := own_type m.own e2
    rw [h1] at h2; injection h2 with h2; injection h2 with _ h2; cases h2
/-- The second part may be stored. -/
theorem StR.next (M : Wm w1 base q root v s) (I : Ir w1 base (some ⟨g, o, none⟩) n c l) (ap : ¬ Xw q v g) (hk : k ≤ n) (hg : g < w1.heap.size) (S : StR w1 base q root v kind f (some ⟨g, o, none⟩) (l.take k) s w2 A1 n1 c1 l1 v1) :
    Ir w2 base (some ⟨g, o + k * 3, none⟩) (n - k) (c - k) (l.drop k) ∧ ¬ Xw q v1 g :=
  ⟨(I.xw M S.kp fun g' _ e => by simp [blk] at e; subst e; exact ap).suf hk, fun e => ap (S.nv.xw hg e)⟩
/-- Both parts are joined. -/
theorem StR.join (hW : Below W.heap.size W w1) (M : Wm w1 base q root v s) (hb : base ≤ W.heap.size) (hk2 : ¬ (kind = 2 ∧ (l.take k).length = 1))
    (S1 : StR w1 base q root v kind f (some ⟨g, o, none⟩) (l.take k) s w2 A1 n1 c1 l1 v1) (S2 : StR w2 base q root v1 kind f (some ⟨g, o + k * 3, none⟩) (l.drop k) (sto kind f (its (l.take k)) s).2 w3 A2 n2 c2 l2 v2) :
    w3.ownsRow W.heap.size 86 3 (.slice A1 n1 c1) n1 (ic l1) ∧ Rd w3 3 A2 n2 c2 (ic l2) ∧ n1 = l1.length ∧ n2 = l2.length ∧ W.heap.size ≤ w3.heap.size := by
  have o1 := S1.ow.resolve_left fun h => hk2 h.1
  have o2 := own_base (own_xw o1 S1.wm S2.kp) hW.size
  exact ⟨o2, S2.ir.row, S1.ir.len, S2.ir.len, Nat.le_trans hW.size (Nat.le_trans S1.kp.size S2.kp.size)⟩
theorem StR.fin (hW : Below W.heap.size W w1) (M : Wm w1 base q root v s) (hb : base ≤ W.heap.size) (hk2 : ¬ (kind = 2 ∧ (l.take k).length = 1)) (S1 : StR w1 base q root v kind f (some ⟨g, o, none⟩) (l.take k) s w2 A1 n1 c1 l1 v1) (S2 : StR w2 base q root v1 kind f (some ⟨g, o + k * 3, none⟩) (l.drop k) (sto kind f (its (l.take k)) s).2 w3 A2 n2 c2 l2 v2)
    (R : sto kind (f + 1) (its l) s = ((sto kind f (its (l.take k)) s).1 ++ (sto kind f (its (l.drop k)) (sto kind f (its (l.take k)) s).2).1, (sto kind f (its (l.drop k)) (sto kind f (its (l.take k)) s).2).2))
    (own4 : w4.ownsRow W.heap.size 86 3 (.slice A3 (n1 + n2) c3) (n1 + n2) (ic l1 ++ ic l2)) (g4 : Grew w3 A1 w4 A3) :
    StR W base q root v kind (f + 1) (some ⟨g, o, none⟩) l s w4 A3 (n1 + n2) c3 (l1 ++ l2) v2 := by
  obtain ⟨o1, r2, _, _, hz⟩ := StR.join hW M hb hk2 S1 S2
  have k4 : Kp w3 w4 (fun i => blk A1 = some i) := Kp.of_grew g4 fun _ e => e
  have ty : ∀ i, blk A1 = some i → Ty w3 i 86 := fun i e => own_type o1 e
  have nsf : ∀ i, blk A1 = some i → ¬ Sf w3 base i := fun i e => (ty i e).nsf (Nat.le_trans hb (own_blk_le o1 e).1) (by decide)
  have M4 : Wm w4 base q root v2 (sto kind f (its (l.drop k)) (sto kind f (its (l.take k)) s).2).2 := by
    refine S2.wm.kp k4 (fun e => ?_) (fun g' e' e => ?_) (fun g' h0 e' e => ?_) nsf
    · obtain ⟨a, h1⟩ := ty _ e; obtain ⟨b, h2⟩ := S2.wm.qt
      rw [h1] at h2; injection h2 with h2; injection h2 with _ h2; cases h2
    · obtain ⟨a, h1⟩ := ty _ e; obtain ⟨b, h2⟩ := own_type S2.wm.own e'
      rw [h1] at h2; injection h2 with h2; injection h2 with _ h2; cases h2
    · obtain ⟨a, h1⟩ := ty _ e; obtain ⟨b, h2⟩ := S2.wm.frt g' h0 e'
      rw [h1] at h2; injection h2 with h2; injection h2 with _ h2; cases h2
  have k13 : Kp w1 w3 (Xw q v) := S1.kp.xw S2.kp S1.nv
  have k03 : Kp W w3 (Xw q v) := (Kp.of_below hW (Xw q v)).trans k13 fun _ _ e => e
  have k04 : Kp W w4 (Xw q v) := ((k03.mono (Y := fun i => Xw q v i ∨ blk A1 = some i) fun _ _ e => .inl e).trans k4 fun i _ e => .inr e).mono fun i hi e => e.elim id fun e => by have := (own_blk_le o1 e).1; omega
  rw [← ic_app] at own4
  refine ⟨by rw [R, its_app, S1.it, S2.it], by rw [R]; exact M4, ⟨Rd.of_own own4, fun x hx => ?_⟩, k04, ?_, .inr own4⟩
  · rcases List.mem_append.1 hx with hx | hx
    · exact ((S1.ir.dat x hx).xw S1.wm S2.kp).wr (Wr.of_kp k4 nsf)
    · exact (S2.ir.dat x hx).wr (Wr.of_kp k4 nsf)
  · rcases S2.nv with h | ⟨g', h1, h2⟩
    · rcases S1.nv with h' | ⟨g', h1, h2⟩
      · exact .inl (h.trans h')
      · exact .inr ⟨g', h.trans h1, Nat.le_trans hW.size h2⟩
    · exact .inr ⟨g', h1, Nat.le_trans hW.size (Nat.le_trans S1.kp.size h2)⟩
end
theorem lim_ok {kind : Nat} {l : List IV} (h : ∀ x ∈ its l, ItOk kind x) : Lim l := fun x hx => by
  have := h x.it (its_mem hx)
  exact ⟨this.k2, this.v2⟩
theorem drop_two {l : List It} {k : Nat} {x : It} (h : l[k]? = some x) (hk : k + 1 < l.length) : ∃ y m, l.drop k = x :: y :: m := by
  obtain ⟨h1, rfl⟩ := List.getElem?_eq_some_iff.1 h
  exact ⟨l[k + 1], l.drop (k + 1 + 1), by rw [List.drop_eq_getElem_cons h1, List.drop_eq_getElem_cons hk]⟩
theorem cut_step {kind half : Nat} {l : List It} {k n : Nat} {x : It} (h : l[k]? = some x) (hk : k + 1 < l.length) : cutN kind half (l.drop k) k n = if k = 0 ∨ n + isz kind x ≤ half then cutN kind half (l.drop (k + 1)) (k + 1) (n + isz kind x) else k := by
  obtain ⟨y, m, e⟩ := drop_two h hk
  have e2 : l.drop (k + 1) = y :: m := by
    have := congrArg (List.drop 1) e
    rwa [List.drop_drop, List.drop_succ_cons, List.drop_zero] at this
  rw [e, e2]; rfl
theorem cut_stop {kind half : Nat} {l : List It} {k n : Nat} (hk : ¬ k + 1 < l.length) : cutN kind half (l.drop k) k n = k := by
  have : (l.drop k).length ≤ 1 := by rw [List.length_drop]; omega
  match hd : l.drop k, this with
  | [], _ => rfl
  | [a], _ => rfl
set_option maxRecDepth 100000 in
set_option maxHeartbeats 12800000 in
theorem store_any {base q kind : Nat} {root : Int} (hk : kind = 1 ∨ kind = 2) : ∀ (f : Nat) (v : WV) (s : Ws) (A : Option Addr) (n c : Nat) (l : List IV) (W : World), l.length < f → Hid (Wm W base q root v s) → Hid (Ir W base A n c l) → Hid (∀ g, 0 < n → blk A = some g → ¬ Xw q v g) →
    Hid (∀ x ∈ its l, ItOk kind x) → n ≤ 100000 → base ≤ W.heap.size →
    Calls Tryd.prog 52 #[.pointer (some ⟨q, 0, none⟩), .int .i64 (kind : Int), .slice A n c] W (StPost W base q root v kind f A l s) := by
  obtain ⟨i0, hi, hz0, hz1, hz2⟩ := info_parts info_item
  intro f
  induction f with
  | zero => intro v s A n c l W h; omega
  | succ f ih =>
  intro v s A n c l W hlf M I ap ok hn hbW
  have IH := Lib.hid ih
  clear ih
  have HL := Lib.hid I.out.len
  have hnc := I.out.row.nc
  have hc63 := I.out.row.c63
  by_cases q1 : n = 0
  · subst q1
    obtain rfl : l = [] := List.eq_nil_of_length_eq_zero HL.out.symm
    have R : Hid (sto kind (f + 1) (its []) s = ([], s)) := Lib.hid (by show sto kind (f + 1) [] s = _; unfold sto; rw [if_pos rfl])
    go_enter Tryd.func52, Tryd.ntmps52
    go_wp2_with fail
    go_ret
    exact ⟨none, 0, 0, [], v, rfl, Lib.hid ⟨by rw [R.out]; rfl, by rw [R.out]; exact M.out, ⟨Rd.nil_ _ _, by simp⟩, Kp.refl _ _, .inl rfl, .inr (World.ownsRow_nil _ _ _ _)⟩⟩
  have NE : Hid (its l ≠ []) := Lib.hid fun e => by have := congrArg List.length e; rw [its_len, ← HL.out] at this; simp at this; omega
  have LM := Lib.hid (lim_ok ok.out)
  by_cases q2 : tot kind (its l) ≤ 250
  · have hn250 : n ≤ 250 := by have := tot_ge ok.out; rw [its_len, ← HL.out] at this; omega
    by_cases q3 : kind = 2 ∧ n = 1
    · obtain ⟨rfl, rfl⟩ := q3
      have R : Hid (sto 2 (f + 1) (its l) s = (its l, s)) := Lib.hid (by unfold sto; rw [if_neg NE.out, if_pos q2, if_pos ⟨rfl, by rw [its_len]; exact HL.out.symm⟩])
      go_enter Tryd.func52, Tryd.ntmps52
      go_wp2_with fail
      go_at_call 73
      refine (room_any _ (.inr rfl) (Lib.hid I.out.row) LM (by omega)).mono ?_
      rw [decide_eq_true q2]
      rintro e W1 ⟨rfl, b1⟩
      go_wp2_with fail
      go_ret
      exact ⟨A, 1, c, l, v, rfl, Lib.hid ⟨by rw [R.out], by rw [R.out]; exact M.out.low b1, I.out.below b1, Kp.of_below b1 _, .inl rfl, .inl ⟨⟨rfl, HL.out.symm⟩, rfl⟩⟩⟩
    · obtain ⟨y, hy⟩ : ∃ y, l[0]? = some y := ⟨_, List.getElem?_eq_getElem (show 0 < l.length by have := HL.out; omega)⟩
      have R : Hid (sto kind (f + 1) (its l) s = ([(putP kind (its l) s).1], (putP kind (its l) s).2)) := Lib.hid (by unfold sto; rw [if_neg NE.out, if_pos q2, if_neg (by rw [its_len, ← HL.out]; exact q3)])
      have T2 := Lib.hid q2
      clear q2
      have hkk : ((kind : Int) = 2 ∧ (n : Int) ≠ 1) ∨ (kind : Int) ≠ 2 := by omega
      go_enter Tryd.func52, Tryd.ntmps52
      go_wp2_with fail
      go_at_call 73
      refine (room_any _ hk (Lib.hid I.out.row) LM (by omega)).mono ?_
      rw [decide_eq_true T2.out]
      rintro e W1 ⟨rfl, b1⟩
      have M1 := Lib.hid (M.out.low b1)
      have I1 := Lib.hid (I.out.below b1)
      have PUT := put_any (kind := kind) (A := A) (n := n) (c := c) W1 hk M1 I1 (Lib.hid hy) ok T2 hn250 (Nat.le_trans hbW b1.size)
      have PUT := Lib.hid PUT
      have FIN : ∀ e W2, PuPost W1 base q root v s kind l e W2 → ∃ x : IV, e = .returned (.agg #[.slice x.kA x.k.length x.kc, .slice x.vA x.v.length x.vc, .int .i64 (x.ch : Int)]) ∧ Hid (StPost W base q root v kind (f + 1) A l s (.returned (.slice (some ⟨W2.heap.size, 0, none⟩) 1 1)) (W2.alloc (.cells #[.slice x.kA x.k.length x.kc, .slice x.vA x.v.length x.vc, .int .i64 (x.ch : Int)] 86))) := by
        rintro e W2 ⟨x, v', he, hx, M2, K2, N2, I2⟩
        have b2 : Below W2.heap.size W2 (W2.alloc (.cells #[.slice x.kA x.k.length x.kc, .slice x.vA x.v.length x.vc, .int .i64 (x.ch : Int)] 86)) := bal _ _
        have hz : W.heap.size ≤ W2.heap.size := Nat.le_trans b1.size K2.out.size
        have ow : (W2.alloc (.cells #[.slice x.kA x.k.length x.kc, .slice x.vA x.v.length x.vc, .int .i64 (x.ch : Int)] 86)).ownsRow W.heap.size 86 3 (.slice (some ⟨W2.heap.size, 0, none⟩) 1 1) 1 (ic [x]) :=
          own_lit W2 _ 3 #[.slice x.kA x.k.length x.kc, .slice x.vA x.v.length x.vc, .int .i64 (x.ch : Int)] 1 hz (by unfold maxLen; omega) rfl
        refine ⟨x, he, Lib.hid ⟨some ⟨W2.heap.size, 0, none⟩, 1, 1, [x], v', rfl, Lib.hid ⟨by rw [R.out]; show [x.it] = _; rw [hx], by rw [R.out]; exact M2.out.low b2, ⟨Rd.of_own ow, fun y hy => ?_⟩, (((Kp.of_below b1 (Xw q v)).trans K2.out fun _ _ e => e).below b2), ?_, .inr ow⟩⟩⟩
        · obtain rfl : y = x := by simpa using hy
          exact I2.out.wr (Wr.of_below b2 base)
        · rcases N2.out with h | ⟨g, h1, h2⟩
          · exact .inl h
          · exact .inr ⟨g, h1, Nat.le_trans b1.size h2⟩
      have FIN := Lib.hid FIN
      rcases hkk with ⟨k1, k2⟩ | k1
      · have d1 : ((n : Int) == 1) = false := by simpa using k2
        obtain rfl : kind = 2 := by omega
        go_wp2_with fail
        go_at_call 74
        refine PUT.out.mono ?_
        intro e W2 h
        obtain ⟨x, rfl, F⟩ := FIN.out e W2 h
        go_wp2_with fail
        go_ret
        exact F.out
      · have d1 : ((kind : Int) == 2) = false := by simpa using k1
        go_wp2_with fail
        go_at_call 74
        refine PUT.out.mono ?_
        intro e W2 h
        obtain ⟨x, rfl, F⟩ := FIN.out e W2 h
        go_wp2_with fail
        go_ret
        exact F.out
  · have hn2 : 2 ≤ n := by
      rcases Nat.lt_or_ge n 2 with h | h
      · exfalso
        obtain ⟨x, hx⟩ := List.length_eq_one_iff.1 (show l.length = 1 by have := HL.out; omega)
        subst hx
        have h1 := isz_le (ok.out x.it (by simp [its]))
        have e : tot kind (its [x]) = isz kind x.it := by simp [its, tot]
        rw [e] at q2; omega
      · exact h
    obtain ⟨g, o, hA, hg, _⟩ := I.out.row.at_ (show 0 < n by omega)
    subst hA
    obtain ⟨T, hT⟩ : ∃ T, tot kind (its l) = T := ⟨_, rfl⟩
    obtain ⟨K, hK⟩ : ∃ K, cut kind (its l) = K := ⟨_, rfl⟩
    have hK1 : 1 ≤ K := by rw [← hK]; exact cut_pos (by rw [its_len, ← HL.out]; exact hn2)
    have hKn : K < n := by have := cut_lt (kind := kind) (l := its l) (by rw [its_len, ← HL.out]; exact hn2); rw [hK, its_len, ← HL.out] at this; exact this
    have hK2 : Hid (kind = 2 → 2 ≤ K) := Lib.hid fun h => by subst h; rw [← hK]; exact cut_two ok.out (by omega)
    have R : Hid (sto kind (f + 1) (its l) s = ((sto kind f (its (l.take K)) s).1 ++ (sto kind f (its (l.drop K)) (sto kind f (its (l.take K)) s).2).1, (sto kind f (its (l.drop K)) (sto kind f (its (l.take K)) s).2).2)) := Lib.hid (by
      rw [its_tk, its_dr, ← hK]
      conv => lhs; unfold sto
      rw [if_neg NE.out, if_neg q2])
    have Q2 := Lib.hid q2
    have HT := Lib.hid hT
    obtain ⟨H, hH⟩ : ∃ H, T / 2 = H := ⟨_, rfl⟩
    have HK : Hid (cutN kind H (its l) 0 0 = K) := Lib.hid (by rw [← hK, ← hH, ← hT]; rfl)
    have hq1 : (T : Int).tdiv 2 = (H : Int) := by rw [Int.tdiv_eq_ediv_of_nonneg (by omega)]; omega
    have hq2 : (T : Int) / 2 = (H : Int) := by omega
    have hTn : T ≤ 162 * n := by rw [← hT]; have := tot_le (kind := kind) LM.out n; rwa [List.take_of_length_le (by have := HL.out; omega)] at this
    clear q2 hT hK hH
    go_enter Tryd.func52, Tryd.ntmps52
    go_wp2_with fail
    go_at_call 73
    refine (room_any _ hk (Lib.hid I.out.row) LM (by omega)).mono ?_
    rw [decide_eq_false Q2.out]
    rintro e W1 ⟨rfl, b1⟩
    go_wp2_with fail
    go_loopw [7, 33] (fun sv iv wr => ∃ k : Nat, k ≤ n ∧ iv = .int .i64 k ∧ sv = .int .i64 (tot kind (its (l.take k)) : Nat) ∧ Below W.heap.size W wr) (fun _ iv _ => (n - intOf iv).toNat)
    case atStart => exact ⟨0, by omega, rfl, rfl, b1⟩
    case round =>
      obtain ⟨k, hkn, rfl, rfl, bw⟩ := hrel
      have ht := tot_le (kind := kind) LM.out k
      obtain ⟨sm, hs⟩ : ∃ sm, tot kind (its (l.take k)) = sm := ⟨_, rfl⟩
      rw [hs] at ht ⊢
      by_cases hlt : k < n
      · obtain ⟨g', o', x, e', hg', hx, c0, c1, c2⟩ := Rd.item (Rd.below I.out.row bw) hlt
        injection e' with e'; injection e' with e1 e2; subst e1 e2
        obtain ⟨h1, h2⟩ := LM.out x (List.mem_of_getElem? hx)
        have HTK : Hid (tot kind (its (l.take (k + 1))) = sm + isz kind x.it) := by rw [tot_take hx, hs]; exact Lib.hid rfl
        have hi5 : isz kind x.it ≤ 162 := by unfold isz; split <;> simp only [IV.it] <;> omega
        obtain ⟨z, hz⟩ : ∃ z, isz kind x.it = z := ⟨_, rfl⟩
        have HZ := Lib.hid hz
        rw [hz] at HTK hi5
        clear hs hx hz
        simp only [IV.kv, IV.vv] at c0 c1 c2
        have bx := bel_alloc bw (Nat.le_refl _) (.cells #[.slice x.kA x.k.length x.kc, .slice x.vA x.v.length x.vc, .int .i64 (x.ch : Int)] 86)
        go_wp2_with fail
        go_at_call 75
        refine (size_any kind x _ hk h1 h2).mono ?_
        rw [HZ.out]
        rintro e w1 ⟨rfl, b1⟩
        have bw1 := bx.trans (b1.mono bx.size)
        go_wp2_with fail
        go_roundw
        case rel => exact ⟨k + 1, by omega, by go_num, by rw [HTK.out]; go_num, bw1⟩
        case measure => simp [intOf]; omega
      · obtain rfl : n = k := by omega
        have HS : Hid (sm = T) := Lib.hid (by rw [← hs, ← HT.out, List.take_of_length_le (by have := HL.out; omega)])
        obtain rfl : sm = T := HS.out
        clear hs HS
        go_upto_block 2 with fail
        go_cut [10, 11] from 43 (fun kv nv wx => kv = .int .i64 (K : Int) ∧ Below W.heap.size W wx)
        case first =>
          go_wp2_with fail
          go_loopw [10, 11] (fun kv nv wr => ∃ k : Nat, k < n ∧ kv = .int .i64 k ∧ nv = .int .i64 (tot kind (its (l.take k)) : Nat) ∧ Below W.heap.size W wr ∧ Hid (cutN kind H ((its l).drop k) k (tot kind (its (l.take k))) = K)) (fun kv _ _ => (n - intOf kv).toNat)
          case atStart => exact ⟨0, by omega, rfl, rfl, bw, HK⟩
          case round =>
            obtain ⟨k, hkn2, rfl, rfl, bw2, hcut⟩ := hrel
            have ht := tot_le (kind := kind) LM.out k
            obtain ⟨sm, hs⟩ : ∃ sm, tot kind (its (l.take k)) = sm := ⟨_, rfl⟩
            rw [hs] at ht hcut ⊢
            by_cases hlt2 : k + 1 < n
            · obtain ⟨g', o', x, e', hg', hx, c0, c1, c2⟩ := Rd.item (Rd.below I.out.row bw2) (show k < n by omega)
              injection e' with e'; injection e' with e1 e2; subst e1 e2
              obtain ⟨h1, h2⟩ := LM.out x (List.mem_of_getElem? hx)
              have HTK : Hid (tot kind (its (l.take (k + 1))) = sm + isz kind x.it) := by rw [tot_take hx, hs]; exact Lib.hid rfl
              have HXI : (its l)[k]? = some x.it := by unfold its; rw [List.getElem?_map, hx]; rfl
              have CS := cut_step (kind := kind) (half := H) (n := sm) HXI (by rw [its_len, ← HL.out]; exact hlt2)
              rw [hcut.out] at CS
              have CS := Lib.hid CS
              have hi5 : isz kind x.it ≤ 162 := by unfold isz; split <;> simp only [IV.it] <;> omega
              obtain ⟨z, hz⟩ : ∃ z, isz kind x.it = z := ⟨_, rfl⟩
              have HZ := Lib.hid hz
              have HX := Lib.hid hx
              rw [hz] at HTK hi5 CS
              clear hs hx hz HXI
              simp only [IV.kv, IV.vv] at c0 c1 c2
              have dl : decide ((k : Int) < (n : Int) - 1) = true := decide_eq_true (by omega)
              rcases Nat.eq_zero_or_pos k with h0 | h0
              · subst h0
                rw [Nat.zero_mul, Nat.add_zero] at c0 c1 c2
                have hcut2 : Hid (cutN kind H ((its l).drop (0 + 1)) (0 + 1) (tot kind (its (l.take (0 + 1)))) = K) := Lib.hid (by rw [HTK.out]; have := CS.out; rw [if_pos (.inl rfl)] at this; exact this.symm)
                go_wp2_with fail
                go_at_call 75
                refine (size_any kind x _ hk h1 h2).mono ?_
                rw [HZ.out]
                rintro e w1 ⟨rfl, b1⟩
                have bw3 := bw2.trans (b1.mono bw2.size)
                go_wp2_with fail
                go_roundw
                case rel => exact ⟨0 + 1, by omega, by go_num, by rw [HTK.out]; go_num, bw3, hcut2⟩
                case measure => simp [intOf]; omega
              · have d0 : ((k : Int) == 0) = false := by simp; omega
                have hk0 : ¬ k = 0 := by omega
                by_cases hc : sm + z ≤ H
                · have hcut2 : Hid (cutN kind H ((its l).drop (k + 1)) (k + 1) (tot kind (its (l.take (k + 1)))) = K) := Lib.hid (by rw [HTK.out]; have := CS.out; rw [if_pos (.inr hc)] at this; exact this.symm)
                  have dc : decide ((sm : Int) + (z : Int) ≤ (H : Int)) = true := decide_eq_true (by omega)
                  go_wp2_with fail
                  go_at_call 75
                  refine (size_any kind x _ hk h1 h2).mono ?_
                  rw [HZ.out]
                  rintro e w1 ⟨rfl, b1⟩
                  have bw3 := bw2.trans (b1.mono bw2.size)
                  obtain ⟨g', o', x', e', _, hx', d0', d1', d2'⟩ := Rd.item (Rd.below I.out.row bw3) (show k < n by omega)
                  injection e' with e'; injection e' with e1 e2; subst e1 e2
                  obtain rfl : x = x' := by have := HX.out; rw [this] at hx'; injection hx'
                  clear hx'
                  simp only [IV.kv, IV.vv] at d0' d1' d2'
                  go_wp2_with fail
                  go_at_call 75
                  refine (size_any kind x _ hk h1 h2).mono ?_
                  rw [HZ.out]
                  rintro e w2 ⟨rfl, b2⟩
                  have bw4 := bw3.trans (b2.mono bw3.size)
                  go_wp2_with fail
                  go_roundw
                  case rel => exact ⟨k + 1, by omega, by go_num, by rw [HTK.out]; go_num, bw4, hcut2⟩
                  case measure => simp [intOf]; omega
                · have HKK : Hid (k = K) := Lib.hid (by have := CS.out; rw [if_neg (by omega)] at this; exact this.symm)
                  have dc : decide ((sm : Int) + (z : Int) ≤ (H : Int)) = false := decide_eq_false (by omega)
                  go_wp2_with fail
                  go_at_call 75
                  refine (size_any kind x _ hk h1 h2).mono ?_
                  rw [HZ.out]
                  rintro e w1 ⟨rfl, b1⟩
                  have bw3 := bw2.trans (b1.mono bw2.size)
                  go_wp2_with fail
                  go_meet
                  exact ⟨by rw [HKK.out], bw3⟩
            · have HKK : Hid (k = K) := Lib.hid (by have := hcut.out; rw [cut_stop (by rw [its_len, ← HL.out]; omega)] at this; exact this)
              have dl : decide ((k : Int) < (n : Int) - 1) = false := decide_eq_false (by omega)
              clear hlt2
              go_wp2_with fail
              go_meet
              exact ⟨by rw [HKK.out], bw2⟩
        case rest =>
        obtain ⟨rfl, bwc⟩ := hcut
        go_wp2_with fail
        have Bd : Below W.heap.size W wc.drew := bwc.drew
        have Md := Lib.hid (M.out.low Bd)
        have Id := Lib.hid (I.out.below Bd)
        have gd : g < wc.drew.heap.size := Nat.lt_of_lt_of_le hg Bd.size
        have apg : ¬ Xw q v g := ap.out g (by omega) rfl
        have hkl : (l.take K).length = K := by rw [List.length_take]; have := HL.out; omega
        have nk2 : ¬ (kind = 2 ∧ (l.take K).length = 1) := fun h => by have := hK2.out h.1; omega
        have bWd : base ≤ wc.drew.heap.size := Nat.le_trans hbW Bd.size
        have C1 := Lib.hid (IH.out v s (some ⟨g, o, none⟩) K c (l.take K) wc.drew (by rw [hkl]; have := HL.out; omega) Md (Lib.hid (Id.out.pre (by omega))) (Lib.hid fun g' _ e => by simp [blk] at e; subst e; exact apg) (Lib.hid fun x hx => ok.out x (by rw [its_tk] at hx; exact List.mem_of_mem_take hx)) (by omega) bWd)
        have C2 : Hid (∀ (w2 : World) (A1 : Option Addr) (n1 c1 : Nat) (l1 : List IV) (v1 : WV), StR wc.drew base q root v kind f (some ⟨g, o, none⟩) (l.take K) s w2 A1 n1 c1 l1 v1 → Calls Tryd.prog 52 #[.pointer (some ⟨q, 0, none⟩), .int .i64 (kind : Int), .slice (some ⟨g, o + K * 3, none⟩) (n - K) (c - K)] w2 (StPost w2 base q root v1 kind f (some ⟨g, o + K * 3, none⟩) (l.drop K) (sto kind f (its (l.take K)) s).2)) := Lib.hid fun w2 A1 n1 c1 l1 v1 S1 => by
          obtain ⟨i2, x2⟩ := S1.next Md.out Id.out apg (by omega) gd
          exact IH.out v1 _ (some ⟨g, o + K * 3, none⟩) (n - K) (c - K) (l.drop K) w2 (by rw [List.length_drop]; have := HL.out; omega) (Lib.hid S1.wm) (Lib.hid i2) (Lib.hid fun g' _ e => by simp [blk] at e; subst e; exact x2) (Lib.hid fun x hx => ok.out x (by rw [its_dr] at hx; exact List.mem_of_mem_drop hx)) (by omega) (Nat.le_trans bWd S1.kp.size)
        have C3 : Hid (∀ (w2 w3 : World) (A1 A2 : Option Addr) (n1 c1 n2 c2 : Nat) (l1 l2 : List IV) (v1 v2 : WV), StR wc.drew base q root v kind f (some ⟨g, o, none⟩) (l.take K) s w2 A1 n1 c1 l1 v1 → StR w2 base q root v1 kind f (some ⟨g, o + K * 3, none⟩) (l.drop K) (sto kind f (its (l.take K)) s).2 w3 A2 n2 c2 l2 v2 →
            Hid (w3.ownsRow W.heap.size 86 3 (.slice A1 n1 c1) n1 (ic l1)) ∧ Hid (Rd w3 3 A2 n2 c2 (ic l2)) ∧ n1 + n2 ≤ 200000 ∧ W.heap.size ≤ w3.heap.size ∧
            Hid (∀ (A3 : Option Addr) (c3 : Nat) (w4 : World), w4.ownsRow W.heap.size 86 3 (.slice A3 (n1 + n2) c3) (n1 + n2) (ic l1 ++ ic l2) → Grew w3 A1 w4 A3 → StR W base q root v kind (f + 1) (some ⟨g, o, none⟩) l s w4 A3 (n1 + n2) c3 (l1 ++ l2) v2)) := Lib.hid fun w2 w3 A1 A2 n1 c1 n2 c2 l1 l2 v1 v2 S1 S2 => by
          obtain ⟨a1, a2, a3, a4, a5⟩ := StR.join Bd Md.out hbW nk2 S1 S2
          refine ⟨Lib.hid a1, Lib.hid a2, ?_, a5, Lib.hid fun A3 c3 w4 own4 g4 => StR.fin Bd Md.out hbW nk2 S1 S2 R.out own4 g4⟩
          have b1 := (sto_len (kind := kind) (f := f) (s := s) (l := its (l.take K)) fun x hx => ok.out x (by rw [its_tk] at hx; exact List.mem_of_mem_take hx)).1
          have b2 := (sto_len (kind := kind) (f := f) (s := (sto kind f (its (l.take K)) s).2) (l := its (l.drop K)) fun x hx => ok.out x (by rw [its_dr] at hx; exact List.mem_of_mem_drop hx)).1
          rw [← S1.it, its_len, its_len, List.length_take] at b1
          rw [← S2.it, its_len, its_len, List.length_drop] at b2
          have := HL.out
          omega
        have hcK : ¬ c = K := by omega
        have s1 : (0 : Int) ≤ (K : Int) := by omega
        have s2 : (K : Int) ≤ (c : Int) := by omega
        have s3 : (K : Int) ≤ (n : Int) := by omega
        have s4 : (n : Int) ≤ (c : Int) := by omega
        clear hq1 hq2 ht
        go_region_held3 (fun w' => True) (trivial)
          (first
            | (go_at_call_of 52 (Value.slice (some ⟨g, o, none⟩) K c); refine C1.out.mono ?_; rintro e w2 ⟨A1, n1, c1, l1, v1, rfl, S1⟩)
            | (go_at_call_of 52 (Value.slice (some ⟨g, o + K * 3, none⟩) (n - K) (c - K)); refine (C2.out _ _ _ _ _ _ S1.out).mono ?_; rintro e w3 ⟨A2, n2, c2, l2, v2, rfl, S2⟩; obtain ⟨j1, j2, j3, j4, j5⟩ := C3.out _ _ _ _ _ _ _ _ _ _ _ _ S1.out S2.out)
            | (refine step_app _ (by rfl) (.tmp 80) (.tmp 86) 80 (by rfl) W.heap.size 86 i0 (.agg #[.slice none 0 0, .slice none 0 0, .int .i64 0]) 3 56 Tryd.underlying80 hi hz0 hz1 hz2 rfl (by omega) (by rfl) j1.out (by rfl) j2.out (ic_one _) (by omega) (by omega) j4 ?_; intro A3 c3 w4 own4 g4; have F4 := j5.out _ _ _ own4 g4; clear own4 g4))
        all_goals
          go_wp2_with fail
          go_ret
          exact ⟨A3, _, c3, _, v2, rfl, Lib.hid F4⟩
end Go.Proofs.YtphiblmkgbkdmaaDoor.Pg
