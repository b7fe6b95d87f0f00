/- The walk of page.read's visit. -/
import Derived.Test.YtpmkohnljngbhaaDoorPgVi
import Derived.Deep.RegionHeld3
import Derived.Deep.DrawnRows
namespace Go.Proofs.YtpmkohnljngbhaaDoor.Pg
set_option linter.unusedVariables false
set_option linter.unusedSimpArgs false
set_option maxRecDepth 1000000
open Go.RowKit Wl

def ViPost (w0 W : World) (f : FV) (bf bm ba bv M : Nat) (A : Option Addr) (r : Option St) (e : Ending) (W' : World) : Prop :=
  (∃ S' A' n' c' L', r = some (S', its L') ∧ e = .returned (.bool true) ∧ Hid (Vi w0 W' f bf bm ba bv M S' A' n' c' L') ∧ Hid (Kp W W' (Wx M ba A)) ∧ Hid (Nw W A A')) ∨ (r = none ∧ e = .returned (.bool false) ∧ Hid (Kp W W' (Wx M ba A)))
/-- A file whose pages may be read. -/
structure Rdy (f : FV) : Prop where
  n4 : f.ps.length ≤ 4096
  p256 : ∀ x ∈ f.ps, x.d.length = 256
  fs : f.free.Pairwise (· < ·)
  fl : f.free.length ≤ 4096
theorem wf_nat {n : Nat} (h : n ≤ 100000) : (Lit.int .i64 (n : Int)).wf = true := by
  simp [Lit.wf, IntKind.min, IntKind.max, IntKind.wrap, IntKind.bits, IntKind.signed]; omega
theorem vis_no {pg : List (List UInt8)} {fr : List Int} {k n : Nat} {s : St} (h : ¬ (n < pg.length ∧ n ∉ s.1 ∧ (n : Int) ∉ fr)) : vis pg fr (k + 1) n s = none := by unfold vis; rw [if_neg h]
theorem vis_yes {pg : List (List UInt8)} {fr : List Int} {k n : Nat} {s : St} (h : n < pg.length ∧ n ∉ s.1 ∧ (n : Int) ∉ fr) {p : List UInt8} (hp : pg[n]? = some p) : vis pg fr (k + 1) n s =
    match dec p with | none => none | some (kd, l) => if kd = 1 then some (n :: s.1, s.2 ++ l) else visL (vis pg fr k) l (n :: s.1, s.2) := by
  unfold vis
  rw [if_pos h, List.getD_eq_getElem?_getD, hp]; rfl
set_option maxRecDepth 1000000 in
set_option maxHeartbeats 12800000 in
theorem visit_any {w0 : World} {f : FV} {bf bm ba bv M : Nat} (G : Hid (Gl w0)) (HF : Hid (Fl w0 f)) (RY : Hid (Rdy f)) (B : Hid (Blks w0.heap.size bf bm ba bv M)) :
    ∀ (k n : Nat) (W : World) (S : List Nat) (A : Option Addr) (m c : Nat) (L : List IV), n ≤ 100000 → f.ps.length < k + S.length → Hid (Vi w0 W f bf bm ba bv M S A m c L) →
      Calls Tryd.prog 70 #[.int .i64 (n : Int), .pointer (some ⟨bf, 0, none⟩), .pointer (some ⟨bm, 0, none⟩), .pointer (some ⟨ba, 0, none⟩), .pointer (some ⟨bv, 0, none⟩)] W (ViPost w0 W f bf bm ba bv M A (vis (f.ps.map PV.d) f.free k n (S, its L))) := by
  obtain ⟨i0, hi, hz0, hz1, hz2⟩ := info_parts info_item
  intro k
  induction k with
  | zero => intro n W S A m c L hn hk V; have := V.out.slt; omega
  | succ k ih =>
  intro n W S A m c L hn hk V
  have IH := Lib.hid ih
  clear ih
  obtain ⟨r, hr⟩ : ∃ r, vis (f.ps.map PV.d) f.free (k + 1) n (S, its L) = r := ⟨_, rfl⟩
  rw [hr]
  have HR := Lib.hid hr
  clear hr
  obtain ⟨N, hN⟩ : ∃ N, f.ps.length = N := ⟨_, rfl⟩
  have hN4 : N ≤ 4096 := hN ▸ RY.out.n4
  have HN := Lib.hid hN
  have z0 : W.cell? ⟨bf, 0, none⟩ = some (.slice f.PA N f.pc) := by rw [← hN]; exact V.out.xf.at_ 0 (by simp [FV.cs])
  have z2 : W.cell? ⟨bf, 2, none⟩ = some (.slice f.FA f.free.length f.fc) := V.out.xf.at_ 2 (by simp [FV.cs])
  have zm : W.cell? ⟨bm, 0, none⟩ = some (.map (some M)) := V.out.xm.at_ 0 (by simp)
  have bw := V.out.bw
  have wpl : (f.ps.map PV.d).length = N := by rw [List.length_map]; exact hN
  have WPL := Lib.hid wpl
  clear wpl hN
  by_cases q1 : N ≤ n
  · have R : Hid (r = none) := Lib.hid (by rw [← HR.out]; exact vis_no (by rw [WPL.out]; omega))
    have d1 : decide ((N : Int) ≤ (n : Int)) = true := decide_eq_true (by omega)
    go_enter Tryd.func70, Tryd.ntmps70
    go_wp2_with fail
    go_ret
    exact .inr ⟨R.out, rfl, Lib.hid (Kp.refl _ _)⟩
  have d1 : decide ((N : Int) ≤ (n : Int)) = false := decide_eq_false (by omega)
  by_cases q2 : n ∈ S
  · have R : Hid (r = none) := Lib.hid (by rw [← HR.out]; exact vis_no fun h => h.2.1 q2)
    have lk := V.out.mp.look (wf_nat hn)
    rw [inS_nat, decide_eq_true q2] at lk
    go_enter Tryd.func70, Tryd.ntmps70
    go_wp2_with fail
    go_ret
    exact .inr ⟨R.out, rfl, Lib.hid (Kp.refl _ _)⟩
  have lk := V.out.mp.look (wf_nat hn)
  rw [inS_nat, decide_eq_false q2] at lk
  have hfr : Hid (Rd W 1 f.FA f.free.length f.fc (iv f.free)) := Lib.hid (HF.out.fr.below bw)
  have hSl := V.out.slt
  obtain ⟨W2, hst, mb2, gr2⟩ := V.out.mp.store (n := n) (by omega) (by have := HN.out; omega)
  obtain ⟨V2, K2⟩ := V.out.see B.out (m := n) (by have := HN.out; omega) q2 gr2 mb2
  have V2 := Lib.hid V2
  have K2 := Lib.hid K2
  clear mb2 gr2
  have bw2 := V2.out.bw
  obtain ⟨gp, op, x, hPA, hgp, hx, hcx⟩ := Rd.at1 (val := PV.v) (HF.out.pg.row.below bw2) (show n < f.ps.length by have := HN.out; omega)
  have hxm := List.mem_of_getElem? hx
  have hx256 := RY.out.p256 x hxm
  have hxr := HF.out.pg.dat x hxm
  obtain ⟨gx, ox, hxA, hgx, _⟩ := hxr.at_ (by omega)
  rw [hx256, hxA] at hxr
  have hxv : x.v = .slice (some ⟨gx, ox, none⟩) 256 x.c := by unfold PV.v; rw [hx256, hxA]
  rw [hxv] at hcx
  have z0' : W2.cell? ⟨bf, 0, none⟩ = some (.slice (some ⟨gp, op, none⟩) N f.pc) := by rw [← hPA, ← HN.out]; exact V2.out.xf.at_ 0 (by simp [FV.cs])
  have RX := Lib.hid (hxr.below bw2)
  have HXP : Hid ((f.ps.map PV.d)[n]? = some x.d) := Lib.hid (by rw [List.getElem?_map, hx]; rfl)
  have hpc := HF.out.pg.row.nc
  have hpc63 := HF.out.pg.row.c63
  have HPC : N ≤ f.pc := by have := HN.out; omega
  clear hx hxm hxr hxv hx256 hxA hpc
  go_enter Tryd.func70, Tryd.ntmps70
  go_wp2_with fail
  go_at_call 71
  refine (bsearch_any (n : Int) W hfr (Lib.hid RY.out.fs) (by have := RY.out.fl; omega)).mono ?_
  rintro e w' ⟨i, b, rfl, hb, rfl⟩
  by_cases hbt : b = true
  · subst hbt
    have R : Hid (r = none) := Lib.hid (by rw [← HR.out]; exact vis_no fun h => h.2.2 (hb.1 rfl))
    clear hb
    go_wp2_with fail
    go_ret
    exact .inr ⟨R.out, rfl, Lib.hid (Kp.refl _ _)⟩
  obtain rfl : b = false := by simpa using hbt
  clear hbt
  have HY : Hid (n < (f.ps.map PV.d).length ∧ n ∉ S ∧ (n : Int) ∉ f.free) := Lib.hid ⟨by rw [WPL.out]; omega, q2, fun h => by have := hb.2 h; cases this⟩
  have HR := Lib.hid ((vis_yes (k := k) (s := (S, its L)) HY.out HXP.out).symm.trans HR.out)
  clear hb q2 HY
  go_wp2_with fail
  go_at_call 72
  have G2 := Lib.hid (G.out.low bw2 G.out.sz)
  refine (decode_any _ G2 RX).mono ?_
  rintro e W3 ⟨D3, b3⟩
  have V3 := Lib.hid (V2.out.below b3)
  have K3 := Lib.hid (K2.out.below b3)
  have bw3 := V3.out.bw
  clear z0 z2 zm lk hst hcx z0'
  rcases D3 with ⟨hdn, rfl⟩ | ⟨kd, Al, nl, cl, Ll, hdn, rfl, ol, kl⟩
  · have R : Hid (r = none) := Lib.hid (by rw [← HR.out, hdn])
    clear hdn
    go_wp2_with fail
    go_ret
    exact .inr ⟨R.out, rfl, K3⟩
  have HR : Hid ((if kd = 1 then some (n :: S, its L ++ its Ll) else visL (vis (f.ps.map PV.d) f.free k) (its Ll) (n :: S, its L)) = r) := Lib.hid (by rw [← HR.out, hdn])
  have OK : Hid (DecOk kd (its Ll)) := Lib.hid (dec_ok (by have := RX.out.len; rw [bv_len] at this; omega) hdn)
  have DL : Hid (∀ x ∈ Ll, Dw w0 x) := Lib.hid fun y hy => (kl.out y hy).back bw3 (by have := bw3.size; omega)
  clear hdn kl
  have hll : Hid (3 * Ll.length ≤ 250) := Lib.hid (by have := tot_ge OK.out.it; rw [its_len] at this; have := OK.out.tt; omega)
  have hnl := Lib.hid (len3 (Rd.of_own ol.out))
  have hLn := Lib.hid V3.out.nlen
  have hLl := V3.out.lim
  have hSl3 := V3.out.slt
  simp only [List.length_cons] at hLl hSl3
  have hm4 : m ≤ 344064 := by have := hLn.out; have := HN.out; omega
  have hnl2 : nl ≤ 100 := by have := hll.out; have := hnl.out; omega
  clear hLl hSl3
  have za : W3.cell? ⟨ba, 0, none⟩ = some (.slice A m c) := V3.out.xa.at_ 0 (by simp)
  have fa : W3.frozen? ⟨ba, 0, none⟩ = false := V3.out.xa.fz 0 (by simp)
  have hb3 := bw3.size
  rcases OK.out.kd with rfl | rfl
  · have HR1 : Hid (r = some (n :: S, its (L ++ Ll))) := Lib.hid (by rw [← HR.out, if_pos rfl, its_app])
    clear HR
    have olr := Lib.hid (Rd.of_own ol.out)
    have vo := V3.out.own
    have hba : ba < W3.heap.size := V3.out.xa.lt
    go_wp2_with (at_builtin; apply hold)
    unfold Hold
    refine wpList_app _ rfl (.tmp 49) (.tmp 50) 92 rfl w0.heap.size 117 i0 (.agg #[.slice none 0 0, .slice none 0 0, .int .i64 0]) 3 56 Tryd.underlying92 hi hz0 hz1 hz2 rfl (by omega) (by rfl) vo (by rfl) olr.out (ic_one _) (by omega) (by omega) hb3 ?_
    intro A5 c5 W5 own5 g5
    rw [← ic_app] at own5
    obtain ⟨V6, K6, N6⟩ := V3.out.add B.out hb3 own5 g5 (v := .slice A5 (m + nl) c5) rfl DL.out (by rw [List.length_append]; have := hll.out; have := V3.out.lim; have := V2.out.lim; have := V.out.lim; simp only [List.length_cons] at *; omega)
    have V6 := Lib.hid V6
    have K6 := Lib.hid (K3.out.wx K6 (Nw.refl _ _))
    have N6 := Lib.hid ((Nw.refl W A).trans N6 K3.out.size)
    have za5 : W5.cell? ⟨ba, 0, none⟩ = some (.slice A m c) := ((Kp.of_grew (X := fun i => blk A = some i) g5 fun _ e => e).cell hba fun e => (V3.out.ap _ e).2.2.1 rfl).trans za
    have fa5 : W5.frozen? ⟨ba, 0, none⟩ = false := (World.frozen?_of_block ((Kp.of_grew (X := fun i => blk A = some i) g5 fun _ e => e).block ba hba fun e => (V3.out.ap _ e).2.2.1 rfl)).trans fa
    clear own5 g5 za fa
    go_wp2_with fail
    go_ret
    exact .inl ⟨_, _, _, _, _, HR1.out, rfl, V6, K6, N6⟩
  · have HR1 : Hid (visL (vis (f.ps.map PV.d) f.free k) (its Ll) (n :: S, its L) = r) := Lib.hid (by rw [← HR.out, if_neg (by decide)])
    clear HR
    have olr := Lib.hid (Rd.of_own ol.out)
    have hAl : Hid (∀ g, blk Al = some g → W2.heap.size ≤ g ∧ g < W3.heap.size) := Lib.hid fun g e => own_blk_le ol.out e
    have hclc := olr.out.nc
    have hcl63 := olr.out.c63
    have CN : Hid (∀ (n : Nat) (S' : List Nat) (A' : Option Addr) (n' c' : Nat) (L' : List IV) (U : World), n ≤ 100000 → S.length + 1 ≤ S'.length → Vi w0 U f bf bm ba bv M S' A' n' c' L' → vis (f.ps.map PV.d) f.free k n (S', its L') = none →
        Calls Tryd.prog 70 #[.int .i64 (n : Int), .pointer (some ⟨bf, 0, none⟩), .pointer (some ⟨bm, 0, none⟩), .pointer (some ⟨ba, 0, none⟩), .pointer (some ⟨bv, 0, none⟩)] U fun e W' => e = .returned (.bool false) ∧ Hid (Kp U W' (Wx M ba A'))) := Lib.hid fun n S' A' n' c' L' U hn hS V hr => (IH.out n U S' A' n' c' L' hn (by omega) (Lib.hid V)).mono fun e W' D => by
      rcases D with ⟨S2, A2, n2, c2, L2, e1, _⟩ | ⟨_, e2, e3⟩
      · rw [hr] at e1; cases e1
      · exact ⟨e2, e3⟩
    have CY : Hid (∀ (n : Nat) (S' : List Nat) (A' : Option Addr) (n' c' : Nat) (L' : List IV) (U : World) (S2 : List Nat) (I2 : List It), n ≤ 100000 → S.length + 1 ≤ S'.length → Vi w0 U f bf bm ba bv M S' A' n' c' L' → vis (f.ps.map PV.d) f.free k n (S', its L') = some (S2, I2) →
        Calls Tryd.prog 70 #[.int .i64 (n : Int), .pointer (some ⟨bf, 0, none⟩), .pointer (some ⟨bm, 0, none⟩), .pointer (some ⟨ba, 0, none⟩), .pointer (some ⟨bv, 0, none⟩)] U fun e W' => ∃ A2 n2 c2 L2, I2 = its L2 ∧ e = .returned (.bool true) ∧ Hid (Vi w0 W' f bf bm ba bv M S2 A2 n2 c2 L2) ∧ Hid (Kp U W' (Wx M ba A')) ∧ Hid (Nw U A' A2)) := Lib.hid fun n S' A' n' c' L' U S2 I2 hn hS V hr => (IH.out n U S' A' n' c' L' hn (by omega) (Lib.hid V)).mono fun e W' D => by
      rcases D with ⟨S3, A2, n2, c2, L2, e1, e2, e3, e4, e5⟩ | ⟨e1, _⟩
      · rw [hr] at e1; injection e1 with e1; injection e1 with h1 h2; subst h1 h2
        exact ⟨A2, n2, c2, L2, rfl, e2, e3, e4, e5⟩
      · rw [hr] at e1; cases e1
    clear IH
    go_wp2_with fail
    go_loopw [54] (fun iv wr => ∃ (j : Nat) (S' : List Nat) (A' : Option Addr) (n' c' : Nat) (L' : List IV), j ≤ nl ∧ iv = .int .i64 j ∧ Hid (Vi w0 wr f bf bm ba bv M S' A' n' c' L') ∧ Hid (Kp W wr (Wx M ba A)) ∧ Hid (Nw W A A') ∧ Hid (∀ g, blk Al = some g → blk A' ≠ some g) ∧
        Hid (visL (vis (f.ps.map PV.d) f.free k) (its (Ll.take j)) (n :: S, its L) = some (S', its L')) ∧ Hid (Rd wr 3 Al nl cl (ic Ll)) ∧ S.length + 1 ≤ S'.length) (fun iv _ => (nl - intOf iv).toNat)
    case atStart => exact ⟨0, n :: S, A, m, c, L, by omega, rfl, V3, K3, Lib.hid (Nw.refl _ _), Lib.hid fun g e e' => by have := (hAl.out g e).1; have := (own_blk_le V2.out.own e').2; omega, Lib.hid rfl, olr, by simp⟩
    case round =>
      obtain ⟨j, S', A', n', c', L', hj, rfl, V', K', N', apl, hvl, ol', hS'⟩ := hrel
      by_cases hlt : j < nl
      · obtain ⟨gl, ogl, y, rfl, hgl, hy, y0, y1, y2⟩ := Rd.item ol'.out hlt
        have HY := Lib.hid hy
        have HYM := Lib.hid (List.mem_of_getElem? hy)
        have SPL := Lib.hid (its_split hy)
        clear hy
        simp only [IV.kv, IV.vv] at y0 y1 y2
        have hych : y.ch ≤ 100000 := by
          have := (OK.out.it y.it (its_mem HYM.out)).fk (by decide); have h2 : y.ch < 65536 := this.2; omega
        have za' : wr.cell? ⟨ba, 0, none⟩ = some (.slice A' n' c') := V'.out.xa.at_ 0 (by simp)
        have hba' : ba < wr.heap.size := V'.out.xa.lt
        obtain ⟨X, hX⟩ : ∃ X, wr.heap.size = X := ⟨_, rfl⟩
        obtain ⟨W5, hW5⟩ : ∃ W5, wr.alloc (.cells #[.slice y.kA y.k.length y.kc, .slice y.vA y.v.length y.vc, .int .i64 (y.ch : Int)] 117) = W5 := ⟨_, rfl⟩
        have bx : Below wr.heap.size wr W5 := hW5 ▸ bal _ _
        have V5 := Lib.hid (V'.out.below bx)
        have X5 : Hid (Bx W5 X [.slice y.kA y.k.length y.kc, .slice y.vA y.v.length y.vc, .int .i64 (y.ch : Int)]) := hW5 ▸ Lib.hid (Bx.put wr hX #[.slice y.kA y.k.length y.kc, .slice y.vA y.v.length y.vc, .int .i64 (y.ch : Int)] 117)
        have zv5 := V5.out.xv.at_ 0 (by simp)
        simp only [fvis, List.getElem?_cons_zero] at zv5
        have hbv : bv < X := hX ▸ V'.out.xv.lt
        have hbX : ba < X := hX ▸ V'.out.xa.lt
        have hMX : M < X := hX ▸ V'.out.mp.lt
        have hAX : Hid (∀ g, blk A' = some g → g < X) := Lib.hid fun g e => hX ▸ (own_blk_le V'.out.own e).2
        have hX5 : W5.heap.size = X + 1 := by rw [← hW5, ← hX]; simp
        have HW5 := Lib.hid hW5
        clear hW5
        have KK : Hid (∀ U : World, (∀ i, i < X + 1 → ¬ Wx M ba A' i → U.heap[i]? = W5.heap[i]?) →
            U.cell? ⟨bv, 0, none⟩ = some (.func (.func 70) #[] #[.pointer (some ⟨bf, 0, none⟩), .pointer (some ⟨bm, 0, none⟩), .pointer (some ⟨ba, 0, none⟩), .pointer (some ⟨bv, 0, none⟩)]) ∧ U.cell? ⟨X, 0, none⟩ = some (.slice y.kA y.k.length y.kc) ∧ U.cell? ⟨X, 2, none⟩ = some (.int .i64 (y.ch : Int))) := Lib.hid fun U hU => by
          have nb : ¬ Wx M ba A' bv := by rintro (h | h | h); exact B.out.vM h; exact B.out.va h; exact (V'.out.ap _ h).2.2.2.1 rfl
          have nX : ¬ Wx M ba A' X := by rintro (h | h | h); omega; omega; have := hAX.out _ h; omega
          exact ⟨(World.cell?_of_block (hU bv (by omega) nb)).trans zv5, (World.cell?_of_block (hU X (by omega) nX)).trans (X5.out.at_ 0 (by simp)), (World.cell?_of_block (hU X (by omega) nX)).trans (X5.out.at_ 2 (by simp))⟩
        clear zv5
        go_wp2_with fail
        rw [HW5.out]
        rcases hv : vis (f.ps.map PV.d) f.free k y.ch (S', its L') with _ | ⟨S2, I2⟩
        · have R : Hid (r = none) := Lib.hid (by
            rw [← HR1.out, SPL.out]
            exact visL_none hvl.out fun s2 e => by have e : vis (f.ps.map PV.d) f.free k y.ch (S', its L') = some s2 := e; rw [hv] at e; cases e)
          have C1 : Hid (∀ q, Calls Tryd.prog 70 #[.int .i64 (y.ch : Int), .pointer (some ⟨bf, 0, none⟩), .pointer (some ⟨bm, 0, none⟩), .pointer (some ⟨ba, 0, none⟩), .pointer (some ⟨bv, 0, none⟩)] (W5.drewN q) fun e W' => e = .returned (.bool false) ∧ Hid (Kp (W5.drewN q) W' (Wx M ba A'))) :=
            Lib.hid fun q => CN.out y.ch S' A' n' c' L' _ hych hS' (V5.out.below (bdrewN (Below.refl _ _))) hv
          clear hv
          have zz := KK.out W5 fun _ _ _ => rfl
          obtain ⟨zb, z0, z2⟩ := zz
          refine wp_region_mid (fun w' => ∃ q : Nat, w' = W5.drewN q) 3 3 (by kernel_rfl) (by kernel_rfl) ⟨1, rfl⟩ ?_
          simp only [List.take_succ_cons, List.take_zero, List.drop_succ_cons, List.drop_zero]
          repeat (go_big_quiet_step (fail))
          refine wpQuiet_nil ?_
          rintro w6 ⟨q6, rfl⟩
          go_wp2_with fail
          go_at_call 70
          refine (C1.out q6).mono ?_
          rintro e w7 ⟨rfl, k7⟩
          obtain ⟨zb7, z07, z27⟩ := KK.out w7 fun i hi hn => k7.out.block i (show i < W5.heap.size by omega) hn
          go_wp2_with fail
          refine MidQ.intro (fun w' => ∃ q : Nat, w' = w7.drewN q) ⟨0, rfl⟩ ?_
          try simp only [Nat.reduceAdd, List.drop_succ_cons, List.drop_zero]
          repeat (go_big_quiet_step (fail))
          refine wpQuiet_nil ?_
          rintro w8 ⟨q8, rfl⟩
          go_wp2_with fail
          go_ret
          exact .inr ⟨R.out, rfl, Lib.hid (((((K'.out.below bx).below (bdrewN (Below.refl _ _))).wx k7.out N'.out).below (bdrewN (Below.refl _ _))))⟩
        · have C1 : Hid (∀ q, Calls Tryd.prog 70 #[.int .i64 (y.ch : Int), .pointer (some ⟨bf, 0, none⟩), .pointer (some ⟨bm, 0, none⟩), .pointer (some ⟨ba, 0, none⟩), .pointer (some ⟨bv, 0, none⟩)] (W5.drewN q) fun e W' => ∃ A2 n2 c2 L2, I2 = its L2 ∧ e = .returned (.bool true) ∧ Hid (Vi w0 W' f bf bm ba bv M S2 A2 n2 c2 L2) ∧ Hid (Kp (W5.drewN q) W' (Wx M ba A')) ∧ Hid (Nw (W5.drewN q) A' A2)) :=
            Lib.hid fun q => CY.out y.ch S' A' n' c' L' _ S2 I2 hych hS' (V5.out.below (bdrewN (Below.refl _ _))) hv
          have MORE : Hid (n' < I2.length) := Lib.hid (by have h1 := vis_more hv; have h2 := V'.out.nlen; simp only [its_len] at h1; omega)
          have NL : Hid (n' = (its L').length) := Lib.hid (by rw [its_len]; exact V'.out.nlen)
          have hS2 : S.length + 1 ≤ S2.length := by
            have := (vis_grw (fun p hp => by obtain ⟨x, hx, rfl⟩ := List.mem_map.1 hp; exact RY.out.p256 x hx) V'.out.mp.nd (fun m hm => by rw [WPL.out, ← HN.out]; exact V'.out.lt m hm) hv).2
            simp only at this; omega
          have HV := Lib.hid hv
          clear hv
          have zz := KK.out W5 fun _ _ _ => rfl
          obtain ⟨zb, z0, z2⟩ := zz
          refine wp_region_mid (fun w' => ∃ q : Nat, w' = W5.drewN q) 3 3 (by kernel_rfl) (by kernel_rfl) ⟨1, rfl⟩ ?_
          simp only [List.take_succ_cons, List.take_zero, List.drop_succ_cons, List.drop_zero]
          repeat (go_big_quiet_step (fail))
          refine wpQuiet_nil ?_
          rintro w6 ⟨q6, rfl⟩
          go_wp2_with fail
          go_at_call 70
          refine (C1.out q6).mono ?_
          rintro e w7 ⟨A2, n2, c2, L2, rfl, rfl, V7, k7, N7⟩
          obtain ⟨zb7, z07, z27⟩ := KK.out w7 fun i hi hn => k7.out.block i (show i < W5.heap.size by omega) hn
          have zz7 := V7.out.xa.at_ 0 (by simp)
          have hL2 := Lib.hid V7.out.nlen
          have hn2 : n' < n2 := by have := MORE.out; have := hL2.out; rw [its_len] at *; omega
          have hc2 := (Rd.of_own V7.out.own).nc
          have hc63 := (Rd.of_own V7.out.own).c63
          obtain ⟨g2, o2, z, rfl, hg2, hz, d0, d1, d2⟩ := Rd.item (Rd.of_own V7.out.own) hn2
          have HZ : Hid ((its L2)[(its L').length]? = some z.it) := Lib.hid (by rw [← NL.out]; unfold its; rw [List.getElem?_map, hz]; rfl)
          have hzd := V7.out.dat z (List.mem_of_getElem? hz)
          have hzd := Lib.hid (hzd.below V7.out.bw).1
          have hyd := Lib.hid ((DL.out y HYM.out).below V7.out.bw).1
          clear hz
          simp only [IV.kv, IV.vv] at d0 d1 d2
          have K8 := Lib.hid (((K'.out.below bx).below (bdrewN (n := q6) (Below.refl _ _))).wx k7.out N'.out)
          have EQ : Hid (∀ q, Calls Tryd.prog 16 #[.slice z.kA z.k.length z.kc, .slice y.kA y.k.length y.kc] (w7.drewN q) fun e w' => e = .returned (.bool (eqB z.k y.k)) ∧ w7.drewN q = w') := Lib.hid fun q => Equal_any _ (Lib.hid (hzd.out.drewN q)) (Lib.hid (hyd.out.drewN q))
          by_cases hzy : z.k = y.k
          · have HK : Hid (((its L2)[(its L').length]?).map It.k = some y.it.k) := by rw [HZ.out]; exact Lib.hid (congrArg some hzy)
            have hvl2 : Hid (visL (vis (f.ps.map PV.d) f.free k) (its (Ll.take (j + 1))) (n :: S, its L) = some (S2, its L2)) := Lib.hid (by
              rw [its_take HY.out]
              exact visL_snoc hvl.out HV.out HK.out)
            have EQ : Hid (∀ q, Calls Tryd.prog 16 #[.slice z.kA z.k.length z.kc, .slice y.kA y.k.length y.kc] (w7.drewN q) fun e w' => e = .returned (.bool true) ∧ w7.drewN q = w') := by rw [hzy] at EQ; rw [eqB_self] at EQ; rw [hzy]; exact EQ
            clear hzy
            go_wp2_with fail
            refine MidQ.intro (fun w' => ∃ q : Nat, w' = w7.drewN q) ⟨0, rfl⟩ ?_
            try simp only [Nat.reduceAdd, List.drop_succ_cons, List.drop_zero]
            repeat (go_big_quiet_step (first | (go_at_call 16; exact q0_same (EQ.out _))))
            refine wpQuiet_nil ?_
            rintro w8 ⟨q8, rfl⟩
            have bd8 : Below w7.heap.size w7 (w7.drewN q8) := bdrewN (Below.refl _ _)
            go_wp2_with fail
            go_roundw
            case rel =>
              have hgM : gl ≠ M := by have := (hAl.out gl rfl).1; have := V2.out.mp.lt; omega
              have hgb : gl ≠ ba := by have := (hAl.out gl rfl).1; have := V2.out.xa.lt; omega
              have hgA : blk A' ≠ some gl := apl.out gl rfl
              have nX : ¬ Wx M ba A' gl := by rintro (h | h | h); exact hgM h; exact hgb h; exact hgA h
              refine ⟨j + 1, S2, some ⟨g2, o2, none⟩, n2, c2, L2, by omega, by go_num, Lib.hid (V7.out.below bd8), Lib.hid (K8.out.below bd8), Lib.hid (N'.out.trans N7.out (by have := K'.out.size; have := bx.size; show W.heap.size ≤ W5.heap.size; omega)), Lib.hid ?_, hvl2, Lib.hid ?_, hS2⟩
              · intro g e e2
                injection e with e; simp only at e; subst e
                rcases N7.out with h | ⟨q, h1, h2⟩
                · exact hgA (h.symm.trans e2)
                · rw [h1] at e2; injection e2 with e2; have h2 : W5.heap.size ≤ q := h2; omega
              · have r1 : Rd (W5.drewN q6) 3 (some ⟨gl, ogl, none⟩) nl cl (ic Ll) := (ol'.out.below bx).drewN q6
                exact (Rd.kp r1 k7.out fun g _ e => by injection e with e; simp only at e; subst e; exact nX).below bd8
            case measure => simp [intOf]; omega
          · have R : Hid (r = none) := Lib.hid (by
              rw [← HR1.out, SPL.out]
              exact visL_none hvl.out fun s2 e => by
                have e : vis (f.ps.map PV.d) f.free k y.ch (S', its L') = some s2 := e
                rw [HV.out] at e; injection e with e; subst e
                show ((its L2)[(its L').length]?).map It.k ≠ some y.it.k
                rw [HZ.out]
                intro h; injection h with h; exact hzy h)
            have EQ : Hid (∀ q, Calls Tryd.prog 16 #[.slice z.kA z.k.length z.kc, .slice y.kA y.k.length y.kc] (w7.drewN q) fun e w' => e = .returned (.bool false) ∧ w7.drewN q = w') := by rw [eqB_f hzy] at EQ; exact EQ
            clear hzy
            go_wp2_with fail
            refine MidQ.intro (fun w' => ∃ q : Nat, w' = w7.drewN q) ⟨0, rfl⟩ ?_
            try simp only [Nat.reduceAdd, List.drop_succ_cons, List.drop_zero]
            repeat (go_big_quiet_step (first | (go_at_call 16; exact q0_same (EQ.out _))))
            refine wpQuiet_nil ?_
            rintro w8 ⟨q8, rfl⟩
            have bd8 : Below w7.heap.size w7 (w7.drewN q8) := bdrewN (Below.refl _ _)
            go_wp2_with fail
            go_ret
            exact .inr ⟨R.out, rfl, Lib.hid (K8.out.below bd8)⟩
      · obtain rfl : j = nl := by omega
        have R : Hid (r = some (S', its L')) := Lib.hid (by
          have := hvl.out
          rw [List.take_of_length_le (by have := hnl.out; omega), HR1.out] at this
          exact this)
        go_wp2_with fail
        go_ret
        exact .inl ⟨_, _, _, _, _, R.out, rfl, V', K', N'⟩
end Go.Proofs.YtpmkohnljngbhaaDoor.Pg
