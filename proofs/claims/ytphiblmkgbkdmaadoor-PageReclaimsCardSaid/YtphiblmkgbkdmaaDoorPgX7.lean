/- The walks of Put and Delete. -/
import Derived.Test.YtphiblmkgbkdmaaDoorPgX6
import Derived.Test.YtphiblmkgbkdmaaDoorPgP4
namespace Go.Proofs.YtphiblmkgbkdmaaDoor.Pg
set_option linter.unusedVariables false
set_option linter.unusedSimpArgs false
open Go.RowKit Wl

/-- A file, and an error. -/
def FilPost (w : World) (O : Fi → Int → Prop) (e : Ending) (w' : World) : Prop := ∃ (f : FV) (er : Int), O f.f er ∧ e = .returned (.tuple #[f.val, .int .i64 er]) ∧ Hid (FlT w' f) ∧ Below w.heap.size w w'
def zeroV : FV := ⟨none, 0, [], 0, none, 0, []⟩
theorem FilPost.zero {w w' : World} {O : Fi → Int → Prop} {er : Int} (h : O zeroF er) (hb : Below w.heap.size w w') : FilPost w O (.returned (.tuple #[.agg #[.slice none 0 0, .int .i64 0, .slice none 0 0], .int .i64 er])) w' :=
  ⟨zeroV, er, h, rfl, Lib.hid ⟨⟨⟨Rd.nil_ _ _, by simp [zeroV]⟩, Rd.nil_ _ _⟩, fun g e => by simp [zeroV, blk] at e, by simp [zeroV], fun g h0 _ => by simp [zeroV] at h0⟩, hb⟩
theorem lenB_kv {key value : List UInt8} {kn vn : Nat} (h : kn = key.length) (h2 : vn = value.length) : lenB kn vn = true ↔ lenKV key value := by
  unfold lenB lenKV; rw [decide_eq_true_iff, h, h2]
theorem vld_pok {F : Fi} (hv : Vld F) (hr : ¬ F.root < 0) (key : List UInt8) : Pok F.pg key (F.pg.length + 1) F.root.toNat := by
  obtain ⟨sh, s, hs⟩ := hv
  cases hs with
  | no h => exact absurd h hr
  | yes _ h hv hs => exact vis_pok sh.p256 key hv hs
theorem dn_of {W : World} {base : Nat} {r : List It × Ws} {e : Ending} {W' : World} {a : List It × Ws} (hr : r = dnF 1000 a.1 a.2) (h : DnPost W base r e W') :
    (((dnF 1000 a.1 a.2).2.full = true ∧ e = .returned (.tuple #[.agg #[.slice none 0 0, .int .i64 0, .slice none 0 0], .int .i64 5])) ∨ ((dnF 1000 a.1 a.2).2.full = false ∧ ∃ f : FV, e = .returned (.tuple #[f.val, .int .i64 0]) ∧ f.f = outF a ∧ Hid (FlT W' f))) ∧ Below base W W' := by
  subst hr; exact h
theorem ty_ne {W : World} {g R T S : Nat} (h : Ty W g T) (k : Ty W R S) (hne : T ≠ S) : g ≠ R := by
  intro e
  subst e
  obtain ⟨a, h1⟩ := h
  obtain ⟨b, h2⟩ := k
  rw [h1] at h2; injection h2 with h2; injection h2 with _ h2; exact hne h2
/-- A file is laid as a result. -/
theorem fl_res {W : World} {R : Nat} {f : FV} {a b c : Value} (h : FlT W f) (hR : Ty W R 30) : FlT (((W.setCell ⟨R, 0, none⟩ a).setCell ⟨R, 1, none⟩ b).setCell ⟨R, 2, none⟩ c) f := by
  have k1 : Kp W (W.setCell ⟨R, 0, none⟩ a) (· = R) := Kp.of_set W ⟨R, 0, none⟩ _ rfl
  have k2 : Kp (W.setCell ⟨R, 0, none⟩ a) ((W.setCell ⟨R, 0, none⟩ a).setCell ⟨R, 1, none⟩ b) (· = R) := Kp.of_set _ ⟨R, 1, none⟩ _ rfl
  have k3 : Kp ((W.setCell ⟨R, 0, none⟩ a).setCell ⟨R, 1, none⟩ b) (((W.setCell ⟨R, 0, none⟩ a).setCell ⟨R, 1, none⟩ b).setCell ⟨R, 2, none⟩ c) (· = R) := Kp.of_set _ ⟨R, 2, none⟩ _ rfl
  have kk := (k1.trans k2 fun _ _ e => e).trans k3 fun _ _ e => e
  refine ⟨⟨⟨Rd.kp h.fl.pg.row kk fun g _ e => ty_ne (h.pa g e) hR (by decide), fun x hx => Rd.kp (h.fl.pg.dat x hx) kk fun g h0 e => ty_ne (h.da x hx g e) hR (by decide)⟩, Rd.kp h.fl.fr kk fun g h0 e => ty_ne (h.fa g h0 e) hR (by decide)⟩, fun g e => (((h.pa g e).set R 0 a).set R 1 b).set R 2 c, fun x hx g e => (((h.da x hx g e).set R 0 a).set R 1 b).set R 2 c, fun g h0 e => (((h.fa g h0 e).set R 0 a).set R 1 b).set R 2 c⟩
theorem res_below {w W : World} {R : Nat} {a b c : Value} (h : Below w.heap.size w W) (hR : w.heap.size ≤ R) : Below w.heap.size w (((W.setCell ⟨R, 0, none⟩ a).setCell ⟨R, 1, none⟩ b).setCell ⟨R, 2, none⟩ c) :=
  ((h.setCell (p := ⟨R, 0, none⟩) hR a).setCell (p := ⟨R, 1, none⟩) hR b).setCell (p := ⟨R, 2, none⟩) hR c
theorem res_cells {W : World} {R : Nat} {x y z : Value} (h : Bx W R [x, y, z]) : (∀ a, (W.setCell ⟨R, 0, none⟩ a).cell? ⟨R, 0, none⟩ = some a) ∧ (∀ a b, ((W.setCell ⟨R, 0, none⟩ a).setCell ⟨R, 1, none⟩ b).cell? ⟨R, 1, none⟩ = some b) ∧
    (∀ a b c, (((W.setCell ⟨R, 0, none⟩ a).setCell ⟨R, 1, none⟩ b).setCell ⟨R, 2, none⟩ c).cell? ⟨R, 2, none⟩ = some c) :=
  ⟨fun a => World.cell?_setCell_same W ⟨R, 0, none⟩ a (h.at_ 0 (by simp)), fun a b => World.cell?_setCell_same (W.setCell ⟨R, 0, none⟩ a) ⟨R, 1, none⟩ b ((World.cell?_setCell_other _ _ _ _ (by simp)).trans (h.at_ 1 (by simp))),
    fun a b c => World.cell?_setCell_same ((W.setCell ⟨R, 0, none⟩ a).setCell ⟨R, 1, none⟩ b) ⟨R, 2, none⟩ c ((World.cell?_setCell_other _ _ _ _ (by simp)).trans ((World.cell?_setCell_other _ _ _ _ (by simp)).trans (h.at_ 2 (by simp))))⟩
section
variable {f : FV} {PA FA : Option Addr} {n pc m fc : Nat} {r0 : Int}
set_option maxRecDepth 20000 in
set_option maxHeartbeats 12800000 in
theorem Put_cs (hcs : CsOf f PA n pc r0 FA m fc) {K V : Option Addr} {kn kc vn vc : Nat} {key value : List UInt8} (w : World) (G : Hid (Gl w)) (HF : Hid (Fl w f)) (hk : Hid (Rd w 1 K kn kc (bv key))) (hv : Hid (Rd w 1 V vn vc (bv value))) :
    Calls Tryd.prog 19 #[.agg #[.slice PA n pc, .int .i64 r0, .slice FA m fc], .slice K kn kc, .slice V vn vc] w (FilPost w (PutO f.f key value)) := by
  obtain ⟨W0, hW0⟩ : ∃ W0, (w.alloc (.cells #[.slice PA n pc, .int .i64 r0, .slice FA m fc] 30)).alloc (.cells #[.slice none 0 0, .int .i64 0, .slice none 0 0] 30) = W0 := ⟨_, rfl⟩
  obtain ⟨S, hS⟩ : ∃ S, w.heap.size = S := ⟨_, rfl⟩
  have hb0 : Below w.heap.size w W0 := hW0 ▸ bel_alloc (bal _ _) (Nat.le_refl _) _
  have B0 : Hid (Bx W0 S [.slice PA n pc, .int .i64 r0, .slice FA m fc]) := hW0 ▸ Lib.hid ((Bx.put w hS #[.slice PA n pc, .int .i64 r0, .slice FA m fc] 30).step (bal _ _))
  have X0 : Hid (Bx W0 (S + 1) [.slice none 0 0, .int .i64 0, .slice none 0 0]) := hW0 ▸ Lib.hid (Bx.put _ (by simp; exact hS) #[.slice none 0 0, .int .i64 0, .slice none 0 0] 30)
  have T0 : Hid (Ty W0 (S + 1) 30) := by
    have := Ty.new (w.alloc (.cells #[.slice PA n pc, .int .i64 r0, .slice FA m fc] 30)) #[.slice none 0 0, .int .i64 0, .slice none 0 0] 30
    rw [hW0] at this
    have e : (w.alloc (.cells #[.slice PA n pc, .int .i64 r0, .slice FA m fc] 30)).heap.size = S + 1 := by simp; exact hS
    rw [e] at this
    exact Lib.hid this
  have HF0 := Lib.hid (HF.out.below hb0)
  have G0 := Lib.hid (G.out.below hb0)
  have K0 := Lib.hid (Rd.below hk.out hb0)
  have V0 := Lib.hid (Rd.below hv.out hb0)
  have hr0 := Lib.hid (cs_root hcs).1
  have LK : Hid (lenB kn vn = true ↔ lenKV key value) := Lib.hid (lenB_kv (by have := hk.out.len; rw [bv_len] at this; omega) (by have := hv.out.len; rw [bv_len] at this; omega))
  have hs0 : W0.heap.size = S + 2 := by rw [← hW0, ← hS]; simp
  have HW0 := Lib.hid hW0
  have z0 := B0.out.at_ 0 (by simp)
  have z1 := B0.out.at_ 1 (by simp)
  have z2 := B0.out.at_ 2 (by simp)
  simp only [List.getElem?_cons_succ, List.getElem?_cons_zero] at z0 z1 z2
  clear hW0
  go_enter Tryd.func19, Tryd.ntmps19
  go_wp2_with fail
  rw [HW0.out]
  go_at_call 47
  refine (lengths_any _).mono ?_
  rintro e w' ⟨rfl, rfl⟩
  by_cases q1 : lenB kn vn = true
  · have HK := Lib.hid (LK.out.1 q1)
    rw [q1]
    clear q1
    go_wp2_with fail
    go_at_call 16
    refine (Valid_cs hcs _ G0 HF0).mono ?_
    rintro e w2 ⟨b, rfl, hb, b2⟩
    have bw2 := hb0.trans (b2.mono hb0.size)
    have X2 := Lib.hid (X0.out.step b2)
    by_cases hbt : b = true
    · subst hbt
      have VL := Lib.hid (hb.1 rfl)
      clear hb
      have HF2 := Lib.hid (HF0.out.below b2)
      have G2 := Lib.hid (G0.out.below b2)
      have K2 := Lib.hid (Rd.below K0.out b2)
      have V2 := Lib.hid (Rd.below V0.out b2)
      have B2 := Lib.hid (B0.out.step b2)
      have T2 := Lib.hid (T0.out.step b2)
      obtain ⟨fr, hfr, hfl⟩ := frok_nat VL.out.1.fr
      have HFR : Hid (f.f.free = nat_int fr) := Lib.hid hfr
      have HFL : Hid (∀ x ∈ fr, x < f.ps.length) := Lib.hid fun x hx => by have := hfl x hx; simpa [FV.f] using this
      have z0 := B2.out.at_ 0 (by simp)
      have z1 := B2.out.at_ 1 (by simp)
      have z2 := B2.out.at_ 2 (by simp)
      simp only [List.getElem?_cons_succ, List.getElem?_cons_zero] at z0 z1 z2
      obtain ⟨base, hbase⟩ : ∃ base, w2.heap.size = base := ⟨_, rfl⟩
      have hSb : S + 1 < base := by have := b2.size; omega
      have hbs : w.heap.size ≤ base := by omega
      clear hfr hfl
      go_wp2_with fail
      go_at_call 49
      refine (begin_cs hcs _ G2 HF2 (Lib.hid VL.out.1) HFR HFL).mono ?_
      rintro e w3 ⟨q, v, rfl, M3, b3⟩
      rw [hbase] at M3
      have K3 := Lib.hid (Rd.below K2.out b3)
      have V3 := Lib.hid (Rd.below V2.out b3)
      have hkn : kn ≤ 40 := by have := hk.out.len; rw [bv_len] at this; have := HK.out.2.1; omega
      have hvn : vn ≤ 120 := by have := hv.out.len; rw [bv_len] at this; have := HK.out.2.2; omega
      go_wp2_with fail
      go_at_call 50
      refine (bclone_any _ K3 (bv_one _) (by omega)).mono ?_
      rintro e w4 ⟨A1, c1, rfl, own1, b4⟩
      have V4 := Lib.hid (Rd.below V3.out b4)
      go_wp2_with fail
      go_at_call 50
      refine (bclone_any _ V4 (bv_one _) (by omega)).mono ?_
      rintro e w5 ⟨A2, c2, rfl, own2, b5⟩
      obtain ⟨W6, hW6⟩ : ∃ W6, w5.alloc (.cells #[.slice A1 kn c1, .slice A2 vn c2, .int .i64 0] 86) = W6 := ⟨_, rfl⟩
      have b6 : Below w5.heap.size w5 W6 := hW6 ▸ bal _ _
      have b36 : Below w3.heap.size w3 W6 := b4.trans ((b5.mono b4.size).trans (b6.mono (Nat.le_trans b4.size b5.size)))
      have b26 : Below w2.heap.size w2 W6 := b3.trans (b36.mono b3.size)
      have bw7 : Below w.heap.size w W6 := bw2.trans (b26.mono bw2.size)
      have M6 := Lib.hid (M3.out.low b36)
      have X7 := Lib.hid (X2.out.step b26)
      have T7 := Lib.hid (T2.out.step b26)
      have B6 := Lib.hid (B2.out.step b26)
      have K6 : Hid (Rd W6 1 K kn kc (bv key)) := Lib.hid (Rd.below K3.out b36)
      have hbW6 : base ≤ W6.heap.size := by have := b26.size; omega
      have hkl : kn = key.length := by have := hk.out.len; rw [bv_len] at this; omega
      have hvl : vn = value.length := by have := hv.out.len; rw [bv_len] at this; omega
      obtain ⟨P6, hP6⟩ : ∃ P6, w5.heap.size = P6 := ⟨_, rfl⟩
      have I6 : Hid (Ir W6 base (some ⟨P6, 0, none⟩) 1 1 [⟨A1, c1, key, A2, c2, value, 0⟩]) := Lib.hid ⟨by
        have := Rd.lit w5 86 3 #[.slice A1 kn c1, .slice A2 vn c2, .int .i64 0] 1 (by omega) rfl
        rw [hW6, hP6] at this
        have e : ic [⟨A1, c1, key, A2, c2, value, 0⟩] = (#[.slice A1 kn c1, .slice A2 vn c2, .int .i64 0] : Array Value).toList := by simp [ic, IV.cs, IV.kv, IV.vv, hkl, hvl]
        rw [e]; exact this, fun y hy => by
        obtain rfl : y = _ := by simpa using hy
        have o1 := own_below (own_below own1.out b5) b6
        have o2 := own_below own2.out b6
        rw [hkl] at o1
        rw [hvl] at o2
        exact ⟨⟨Rd.of_own o1, fun g _ e => .inr (own_type o1 e)⟩, ⟨Rd.of_own o2, fun g _ e => .inr (own_type o2 e)⟩⟩⟩
      have hPq : ¬ Xw q v P6 := fun e => by
        have t6 : Ty W6 P6 86 := by rw [← hW6, ← hP6]; exact Ty.new _ _ _
        rcases e with e | e
        · subst e; exact ty_ne t6 M6.out.qt (by decide) rfl
        · exact ty_ne t6 (own_type M6.out.own e) (by decide) rfl
      have OK6 : Hid (∀ x ∈ its [(⟨A1, c1, key, A2, c2, value, 0⟩ : IV)], ItOk 1 x) := Lib.hid fun x hx => by
        obtain rfl : x = _ := by simpa [its] using hx
        exact ⟨HK.out.1, HK.out.2.1, HK.out.2.2, fun _ => rfl, fun e => absurd rfl e⟩
      have HW6 := Lib.hid hW6
      have HP6 := Lib.hid hP6
      have HKL := Lib.hid hkl
      have HVL := Lib.hid hvl
      clear hW6 hP6 hkl hvl own1 own2 z0 z1 z2
      have z0 := B6.out.at_ 0 (by simp)
      have z1 := B6.out.at_ 1 (by simp)
      have z2 := B6.out.at_ 2 (by simp)
      simp only [List.getElem?_cons_succ, List.getElem?_cons_zero] at z0 z1 z2
      have PGL : Hid (f.f.pg = f.ps.map PV.d) := Lib.hid rfl
      go_upto_region 7 with fail
      rw [HW6.out]
      by_cases hroot : r0 < 0
      · have HA : Hid (putA f.f fr key value = stoF 1 [⟨key, value, 0⟩] ⟨f.f.pg, fr, false⟩) := Lib.hid (by unfold putA; rw [if_pos (by have := hr0.out; show f.root < 0; omega)])
        have ST := store_any (base := base) (q := q) (kind := 1) (root := r0) (.inl rfl) 2 v ⟨f.ps.map PV.d, fr, false⟩ (some ⟨P6, 0, none⟩) 1 1 [⟨A1, c1, key, A2, c2, value, 0⟩] W6 (by simp) M6 I6 (Lib.hid fun g _ e => by simp [blk] at e; subst e; exact hPq) OK6 (by omega) hbW6
        have ST := Lib.hid ST
        go_wp2_with fail
        rw [HP6.out]
        go_at_call 52
        refine ST.out.mono ?_
        rintro e w7 ⟨A7, n7, c7, l7, v7, rfl, S7⟩
        have AP7 : Hid (∀ g, 0 < n7 → blk A7 = some g → ¬ Xw q v7 g) := Lib.hid fun g _ e => by
          rcases S7.out.ow with ⟨⟨h, _⟩, _⟩ | h
          · cases h
          · exact own_apx h S7.out.wm g e
        have OK7 : Hid (∀ x ∈ its l7, ItOk 2 x) := Lib.hid (by rw [S7.out.it]; exact (sto_ok (kind := 1) (ows_ok M6.out) OK6.out).1)
        have hn7 : n7 ≤ 1 := by
          have := (sto_len (kind := 1) (f := 2) (s := ⟨f.ps.map PV.d, fr, false⟩) OK6.out).1
          rw [← S7.out.it, its_len, ← S7.out.ir.len] at this; exact this
        have bB7 : Below base W6 w7 := S7.out.kp.low hbW6 fun i h => by
          rcases h with h | h
          · exact h ▸ M6.out.q1
          · exact (own_blk_le M6.out.own h).1
        have DN := done_any (F := 1000) w7 (Lib.hid S7.out.wm) (Lib.hid S7.out.ir) AP7 OK7 (by omega) (by omega) (Nat.le_trans hbW6 bB7.size)
        have DN := Lib.hid DN
        have HRA : Hid (dnF 1000 (its l7) (sto 1 2 (its [(⟨A1, c1, key, A2, c2, value, 0⟩ : IV)]) ⟨f.ps.map PV.d, fr, false⟩).2 = dnF 1000 (putA f.f fr key value).1 (putA f.f fr key value).2) := Lib.hid (by rw [S7.out.it, HA.out]; rfl)
        have bw7 : Below w.heap.size w w7 := bw7.trans (bB7.mono hbs)
        have X7 := Lib.hid (X7.out.below bB7 hSb)
        have T7 : Hid (Ty w7 (S + 1) 30) := Lib.hid (T7.out.kp ⟨bB7.os, bB7.tape, bB7.output, bB7.size, fun i hi hn => bB7.block i (by omega)⟩ (X := fun i => base ≤ i) (by omega))
        go_wp2_with fail
        go_at_call 51
        refine DN.out.mono ?_
        rintro e w8 D8
        obtain ⟨D8, b8⟩ := dn_of HRA.out D8
        have bw8 : Below w.heap.size w w8 := (bw7.mono (Nat.le_refl _)).trans (b8.mono hbs)
        have X8 := Lib.hid (X7.out.below b8 hSb)
        have T8 : Hid (Ty w8 (S + 1) 30) := Lib.hid (T7.out.kp ⟨b8.os, b8.tape, b8.output, b8.size, fun i hi hn => b8.block i (by omega)⟩ (X := fun i => base ≤ i) (by omega))
        rcases D8 with ⟨hfull, rfl⟩ | ⟨hfull, f8, rfl, hf8, F8⟩
        · have R : Hid (PutO f.f key value zeroF 5) := Lib.hid (.full fr HFR.out HK.out VL.out hfull)
          clear hfull
          have x0 := X8.out.at_ 0 (by simp)
          have x1 := X8.out.at_ 1 (by simp)
          have x2 := X8.out.at_ 2 (by simp)
          simp only [List.getElem?_cons_succ, List.getElem?_cons_zero] at x0 x1 x2
          have g0 := X8.out.fz 0 (by simp)
          have g1 := X8.out.fz 1 (by simp)
          have g2 := X8.out.fz 2 (by simp)
          obtain ⟨C0, C1, C2⟩ := res_cells X8.out
          have C0 := Lib.hid C0
          have C1 := Lib.hid C1
          have C2 := Lib.hid C2
          go_wp2_with fail
          refine bodyPost_ret (v := .tuple #[.agg #[.slice none 0 0, .int .i64 0, .slice none 0 0], .int .i64 5]) (by simp [results, Tryd.results19, go_sem, C0.out, C1.out, C2.out]) rfl (FilPost.zero R.out (res_below bw8 (by omega)))
        · have R : Hid (PutO f.f key value f8.f 0) := Lib.hid (by rw [hf8]; exact .ok fr HFR.out HK.out VL.out hfull)
          clear hfull hf8
          obtain ⟨PA8, pc8, ps8, r8, FA8, fc8, free8⟩ := f8
          obtain ⟨pn8, hpn8⟩ : ∃ pn8, ps8.length = pn8 := ⟨_, rfl⟩
          obtain ⟨fn8, hfn8⟩ : ∃ fn8, free8.length = fn8 := ⟨_, rfl⟩
          have HV8 : Hid (FV.val ⟨PA8, pc8, ps8, r8, FA8, fc8, free8⟩ = .agg #[.slice PA8 pn8 pc8, .int .i64 r8, .slice FA8 fn8 fc8]) := by unfold FV.val; rw [hpn8, hfn8]; exact Lib.hid rfl
          rw [HV8.out]
          clear hpn8 hfn8
          have x0 := X8.out.at_ 0 (by simp)
          have x1 := X8.out.at_ 1 (by simp)
          have x2 := X8.out.at_ 2 (by simp)
          simp only [List.getElem?_cons_succ, List.getElem?_cons_zero] at x0 x1 x2
          have g0 := X8.out.fz 0 (by simp)
          have g1 := X8.out.fz 1 (by simp)
          have g2 := X8.out.fz 2 (by simp)
          obtain ⟨C0, C1, C2⟩ := res_cells X8.out
          have C0 := Lib.hid C0
          have C1 := Lib.hid C1
          have C2 := Lib.hid C2
          go_wp2_with fail
          refine bodyPost_ret (v := .tuple #[.agg #[.slice PA8 pn8 pc8, .int .i64 r8, .slice FA8 fn8 fc8], .int .i64 0]) (by simp [results, Tryd.results19, go_sem, C0.out, C1.out, C2.out]) rfl (⟨_, 0, R.out, by rw [HV8.out], Lib.hid (fl_res F8.out T8.out), res_below bw8 (by omega)⟩)
      · have HA : Hid (putA f.f fr key value = chg key [⟨key, value, 0⟩] (f.f.pg.length + 1) f.f.root.toNat ⟨f.f.pg, fr, false⟩) := Lib.hid (by unfold putA; rw [if_neg (by have := hr0.out; show ¬ f.root < 0; omega)])
        obtain ⟨rn, rfl⟩ : ∃ rn : Nat, r0 = (rn : Int) := ⟨r0.toNat, by omega⟩
        have HRN : Hid (f.f.root.toNat = rn) := Lib.hid (by have := hr0.out; show f.root.toNat = rn; omega)
        have POK : Hid (Pok (f.ps.map PV.d) key (f.f.pg.length + 1) rn) := Lib.hid (by rw [← HRN.out]; exact vld_pok VL.out (by have := hr0.out; show ¬ f.root < 0; omega) key)
        have CH := change_any (base := base) (q := q) (root := (rn : Int)) (key := key) (lb := [⟨A1, c1, key, A2, c2, value, 0⟩]) OK6 (by simp) (f.f.pg.length + 1) rn v ⟨f.ps.map PV.d, fr, false⟩ K kn kc (some ⟨P6, 0, none⟩) 1 1 W6 POK M6 K6 I6 hbW6
        have CH := Lib.hid CH
        obtain ⟨CO1, _, CO2⟩ := chg_ok (key := key) (bl := [⟨key, value, 0⟩]) (k := f.f.pg.length + 1) (n := rn) (s := ⟨f.ps.map PV.d, fr, false⟩) OK6.out (by simp) POK.out (ows_ok M6.out)
        have CO1 := Lib.hid CO1
        have CO2 := Lib.hid CO2
        go_wp2_with fail
        rw [HP6.out]
        go_at_call 53
        refine CH.out.mono ?_
        rintro e w7 ⟨A7, n7, c7, l7, v7, rfl, S7⟩
        have OK7 : Hid (∀ x ∈ its l7, ItOk 2 x) := Lib.hid (by rw [S7.out.it]; exact CO1.out)
        have hn7 : n7 ≤ 84 := by
          have := CO2.out
          have e : its l7 = (chg key [⟨key, value, 0⟩] (f.f.pg.length + 1) rn ⟨f.ps.map PV.d, fr, false⟩).1 := S7.out.it
          rw [← e, its_len, ← S7.out.ir.len] at this; exact this
        have bB7 : Below base W6 w7 := S7.out.kp.low hbW6 fun i h => by
          rcases h with h | h
          · exact h ▸ M6.out.q1
          · exact (own_blk_le M6.out.own h).1
        have DN := done_any (F := 1000) w7 (Lib.hid S7.out.wm) (Lib.hid S7.out.ir) (Lib.hid S7.out.ap) OK7 (by omega) (by omega) (Nat.le_trans hbW6 bB7.size)
        have DN := Lib.hid DN
        have HRA : Hid (dnF 1000 (its l7) (chg key (its [(⟨A1, c1, key, A2, c2, value, 0⟩ : IV)]) (f.f.pg.length + 1) rn ⟨f.ps.map PV.d, fr, false⟩).2 = dnF 1000 (putA f.f fr key value).1 (putA f.f fr key value).2) := Lib.hid (by rw [S7.out.it, HA.out, HRN.out]; rfl)
        have bw7 : Below w.heap.size w w7 := bw7.trans (bB7.mono hbs)
        have X7 := Lib.hid (X7.out.below bB7 hSb)
        have T7 : Hid (Ty w7 (S + 1) 30) := Lib.hid (T7.out.kp ⟨bB7.os, bB7.tape, bB7.output, bB7.size, fun i hi hn => bB7.block i (by omega)⟩ (X := fun i => base ≤ i) (by omega))
        go_wp2_with fail
        go_at_call 51
        refine DN.out.mono ?_
        rintro e w8 D8
        obtain ⟨D8, b8⟩ := dn_of HRA.out D8
        have bw8 : Below w.heap.size w w8 := (bw7.mono (Nat.le_refl _)).trans (b8.mono hbs)
        have X8 := Lib.hid (X7.out.below b8 hSb)
        have T8 : Hid (Ty w8 (S + 1) 30) := Lib.hid (T7.out.kp ⟨b8.os, b8.tape, b8.output, b8.size, fun i hi hn => b8.block i (by omega)⟩ (X := fun i => base ≤ i) (by omega))
        rcases D8 with ⟨hfull, rfl⟩ | ⟨hfull, f8, rfl, hf8, F8⟩
        · have R : Hid (PutO f.f key value zeroF 5) := Lib.hid (.full fr HFR.out HK.out VL.out hfull)
          clear hfull
          have x0 := X8.out.at_ 0 (by simp)
          have x1 := X8.out.at_ 1 (by simp)
          have x2 := X8.out.at_ 2 (by simp)
          simp only [List.getElem?_cons_succ, List.getElem?_cons_zero] at x0 x1 x2
          have g0 := X8.out.fz 0 (by simp)
          have g1 := X8.out.fz 1 (by simp)
          have g2 := X8.out.fz 2 (by simp)
          obtain ⟨C0, C1, C2⟩ := res_cells X8.out
          have C0 := Lib.hid C0
          have C1 := Lib.hid C1
          have C2 := Lib.hid C2
          go_wp2_with fail
          refine bodyPost_ret (v := .tuple #[.agg #[.slice none 0 0, .int .i64 0, .slice none 0 0], .int .i64 5]) (by simp [results, Tryd.results19, go_sem, C0.out, C1.out, C2.out]) rfl (FilPost.zero R.out (res_below bw8 (by omega)))
        · have R : Hid (PutO f.f key value f8.f 0) := Lib.hid (by rw [hf8]; exact .ok fr HFR.out HK.out VL.out hfull)
          clear hfull hf8
          obtain ⟨PA8, pc8, ps8, r8, FA8, fc8, free8⟩ := f8
          obtain ⟨pn8, hpn8⟩ : ∃ pn8, ps8.length = pn8 := ⟨_, rfl⟩
          obtain ⟨fn8, hfn8⟩ : ∃ fn8, free8.length = fn8 := ⟨_, rfl⟩
          have HV8 : Hid (FV.val ⟨PA8, pc8, ps8, r8, FA8, fc8, free8⟩ = .agg #[.slice PA8 pn8 pc8, .int .i64 r8, .slice FA8 fn8 fc8]) := by unfold FV.val; rw [hpn8, hfn8]; exact Lib.hid rfl
          rw [HV8.out]
          clear hpn8 hfn8
          have x0 := X8.out.at_ 0 (by simp)
          have x1 := X8.out.at_ 1 (by simp)
          have x2 := X8.out.at_ 2 (by simp)
          simp only [List.getElem?_cons_succ, List.getElem?_cons_zero] at x0 x1 x2
          have g0 := X8.out.fz 0 (by simp)
          have g1 := X8.out.fz 1 (by simp)
          have g2 := X8.out.fz 2 (by simp)
          obtain ⟨C0, C1, C2⟩ := res_cells X8.out
          have C0 := Lib.hid C0
          have C1 := Lib.hid C1
          have C2 := Lib.hid C2
          go_wp2_with fail
          refine bodyPost_ret (v := .tuple #[.agg #[.slice PA8 pn8 pc8, .int .i64 r8, .slice FA8 fn8 fc8], .int .i64 0]) (by simp [results, Tryd.results19, go_sem, C0.out, C1.out, C2.out]) rfl (⟨_, 0, R.out, by rw [HV8.out], Lib.hid (fl_res F8.out T8.out), res_below bw8 (by omega)⟩)
    · obtain rfl : b = false := by simpa using hbt
      have R : Hid (PutO f.f key value zeroF 16) := Lib.hid (.log HK.out fun h => by have := hb.2 h; cases this)
      clear hb hbt
      have x0 := X2.out.at_ 0 (by simp)
      have x1 := X2.out.at_ 1 (by simp)
      have x2 := X2.out.at_ 2 (by simp)
      simp only [List.getElem?_cons_succ, List.getElem?_cons_zero] at x0 x1 x2
      have g0 := X2.out.fz 0 (by simp)
      have g1 := X2.out.fz 1 (by simp)
      have g2 := X2.out.fz 2 (by simp)
      obtain ⟨C0, C1, C2⟩ := res_cells X2.out
      have C0 := Lib.hid C0
      have C1 := Lib.hid C1
      have C2 := Lib.hid C2
      go_wp2_with fail
      refine bodyPost_ret (v := .tuple #[.agg #[.slice none 0 0, .int .i64 0, .slice none 0 0], .int .i64 16]) (by simp [results, Tryd.results19, go_sem, C0.out, C1.out, C2.out]) rfl (FilPost.zero R.out (res_below bw2 (by omega)))
  · have R : Hid (PutO f.f key value zeroF 1) := Lib.hid (.arg fun h => q1 (LK.out.2 h))
    have q1 : lenB kn vn = false := by simpa using q1
    rw [q1]
    clear q1
    have x0 := X0.out.at_ 0 (by simp)
    have x1 := X0.out.at_ 1 (by simp)
    have x2 := X0.out.at_ 2 (by simp)
    simp only [List.getElem?_cons_succ, List.getElem?_cons_zero] at x0 x1 x2
    have g0 := X0.out.fz 0 (by simp)
    have g1 := X0.out.fz 1 (by simp)
    have g2 := X0.out.fz 2 (by simp)
    obtain ⟨C0, C1, C2⟩ := res_cells X0.out
    have C0 := Lib.hid C0
    have C1 := Lib.hid C1
    have C2 := Lib.hid C2
    go_wp2_with fail
    refine bodyPost_ret (v := .tuple #[.agg #[.slice none 0 0, .int .i64 0, .slice none 0 0], .int .i64 1]) (by simp [results, Tryd.results19, go_sem, C0.out, C1.out, C2.out]) rfl (FilPost.zero R.out (res_below hb0 (by omega)))
end
end Go.Proofs.YtphiblmkgbkdmaaDoor.Pg
