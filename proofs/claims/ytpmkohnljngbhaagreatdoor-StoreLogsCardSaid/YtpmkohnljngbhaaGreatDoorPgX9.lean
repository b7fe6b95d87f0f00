/- The walks of Put and Delete. -/
import Derived.Test.YtpmkohnljngbhaaGreatDoorPgX6
import Derived.Test.YtpmkohnljngbhaaGreatDoorPgTP
import Derived.Deep.RegionWith
set_option linter.all false
namespace Go.Proofs.YtpmkohnljngbhaaGreatDoor.Pg
set_option linter.unusedVariables false
set_option linter.unusedSimpArgs false
set_option maxRecDepth 1000000
open Go.RowKit Wl

/-- A file, and an error. -/
def FilPost (w : World) (O : Fi → Int → Prop) (e : Ending) (w' : World) : Prop := ∃ (f : FV) (er : Int), O f.f er ∧ e = .returned (.tuple #[f.val, .int .i64 er]) ∧ Hid (FlT w' f) ∧ Below w.heap.size w w'
def zeroV : FV := ⟨none, 0, [], 0, none, 0, []⟩
theorem FilPost.zero {w w' : World} {O : Fi → Int → Prop} {er : Int} (h : O zeroF er) (hb : Below w.heap.size w w') : FilPost w O (.returned (.tuple #[.agg #[.slice none 0 0, .int .i64 0, .slice none 0 0], .int .i64 er])) w' :=
  ⟨zeroV, er, h, rfl, Lib.hid ⟨⟨⟨Rd.nil_ _ _, by simp [zeroV]⟩, Rd.nil_ _ _⟩, fun g e => by simp [zeroV, blk] at e, by simp [zeroV], fun g h0 _ => by simp [zeroV] at h0⟩, hb⟩
theorem lenB_kv {key value : List UInt8} {kn vn : Nat} (h : kn = key.length) (h2 : vn = value.length) : lenB kn vn = true ↔ lenKV key value := by
  unfold lenB lenKV; rw [decide_eq_true_iff, h, h2]
theorem vld_pok {F : Fi} (hv : Vld F) (hr : ¬ F.root < 0) (key : List UInt8) : Pok F.pg key (F.pg.length + 1) F.root.toNat := by
  obtain ⟨sh, s, hs⟩ := hv
  cases hs with
  | no h => exact absurd h hr
  | yes _ h hv hs => exact vis_pok sh.p256 key hv hs
theorem dn_of {W : World} {base : Nat} {r : List It × Ws} {e : Ending} {W' : World} {a : List It × Ws} (hr : r = dnF 1000 a.1 a.2) (h : DnPost W base r e W') :
    (((dnF 1000 a.1 a.2).2.full = true ∧ e = .returned (.tuple #[.agg #[.slice none 0 0, .int .i64 0, .slice none 0 0], .int .i64 5])) ∨ ((dnF 1000 a.1 a.2).2.full = false ∧ ∃ f : FV, e = .returned (.tuple #[f.val, .int .i64 0]) ∧ f.f = outF a ∧ Hid (FlT W' f))) ∧ Below base W W' := by
  subst hr; exact h
theorem ty_ne {W : World} {g R T S : Nat} (h : Ty W g T) (k : Ty W R S) (hne : T ≠ S) : g ≠ R := by
  intro e
  subst e
  obtain ⟨a, h1⟩ := h
  obtain ⟨b, h2⟩ := k
  rw [h1] at h2; injection h2 with h2; injection h2 with _ h2; exact hne h2
/-- A file is laid as a result. -/
theorem fl_res {W : World} {R : Nat} {f : FV} {a b c : Value} (h : FlT W f) (hR : Ty W R 29) : FlT (((W.setCell ⟨R, 0, none⟩ a).setCell ⟨R, 1, none⟩ b).setCell ⟨R, 2, none⟩ c) f := by
  have k1 : Kp W (W.setCell ⟨R, 0, none⟩ a) (· = R) := Kp.of_set W ⟨R, 0, none⟩ _ rfl
  have k2 : Kp (W.setCell ⟨R, 0, none⟩ a) ((W.setCell ⟨R, 0, none⟩ a).setCell ⟨R, 1, none⟩ b) (· = R) := Kp.of_set _ ⟨R, 1, none⟩ _ rfl
  have k3 : Kp ((W.setCell ⟨R, 0, none⟩ a).setCell ⟨R, 1, none⟩ b) (((W.setCell ⟨R, 0, none⟩ a).setCell ⟨R, 1, none⟩ b).setCell ⟨R, 2, none⟩ c) (· = R) := Kp.of_set _ ⟨R, 2, none⟩ _ rfl
  have kk := (k1.trans k2 fun _ _ e => e).trans k3 fun _ _ e => e
  refine ⟨⟨⟨Rd.kp h.fl.pg.row kk fun g _ e => ty_ne (h.pa g e) hR (by decide), fun x hx => Rd.kp (h.fl.pg.dat x hx) kk fun g h0 e => ty_ne (h.da x hx g e) hR (by decide)⟩, Rd.kp h.fl.fr kk fun g h0 e => ty_ne (h.fa g h0 e) hR (by decide)⟩, fun g e => (((h.pa g e).set R 0 a).set R 1 b).set R 2 c, fun x hx g e => (((h.da x hx g e).set R 0 a).set R 1 b).set R 2 c, fun g h0 e => (((h.fa g h0 e).set R 0 a).set R 1 b).set R 2 c⟩
theorem res_below {w W : World} {R : Nat} {a b c : Value} (h : Below w.heap.size w W) (hR : w.heap.size ≤ R) : Below w.heap.size w (((W.setCell ⟨R, 0, none⟩ a).setCell ⟨R, 1, none⟩ b).setCell ⟨R, 2, none⟩ c) :=
  ((h.setCell (p := ⟨R, 0, none⟩) hR a).setCell (p := ⟨R, 1, none⟩) hR b).setCell (p := ⟨R, 2, none⟩) hR c
theorem res_cells {W : World} {R : Nat} {x y z : Value} (h : Bx W R [x, y, z]) : (∀ a, (W.setCell ⟨R, 0, none⟩ a).cell? ⟨R, 0, none⟩ = some a) ∧ (∀ a b, ((W.setCell ⟨R, 0, none⟩ a).setCell ⟨R, 1, none⟩ b).cell? ⟨R, 1, none⟩ = some b) ∧
    (∀ a b c, (((W.setCell ⟨R, 0, none⟩ a).setCell ⟨R, 1, none⟩ b).setCell ⟨R, 2, none⟩ c).cell? ⟨R, 2, none⟩ = some c) :=
  ⟨fun a => World.cell?_setCell_same W ⟨R, 0, none⟩ a (h.at_ 0 (by simp)), fun a b => World.cell?_setCell_same (W.setCell ⟨R, 0, none⟩ a) ⟨R, 1, none⟩ b ((World.cell?_setCell_other _ _ _ _ (by simp)).trans (h.at_ 1 (by simp))),
    fun a b c => World.cell?_setCell_same ((W.setCell ⟨R, 0, none⟩ a).setCell ⟨R, 1, none⟩ b) ⟨R, 2, none⟩ c ((World.cell?_setCell_other _ _ _ _ (by simp)).trans ((World.cell?_setCell_other _ _ _ _ (by simp)).trans (h.at_ 2 (by simp))))⟩
section
variable {f : FV} {PA FA : Option Addr} {n pc m fc : Nat} {r0 : Int}
set_option maxRecDepth 1000000 in
set_option maxHeartbeats 12800000 in
theorem Put_cs (hcs : CsOf f PA n pc r0 FA m fc) {K V : Option Addr} {kn kc vn vc : Nat} {key value : List UInt8} (w : World) (G : Hid (Gl w)) (HF : Hid (Fl w f)) (hk : Hid (Rd w 1 K kn kc (bv key))) (hv : Hid (Rd w 1 V vn vc (bv value))) :
    Calls Tryz.prog 35 #[.agg #[.slice PA n pc, .int .i64 r0, .slice FA m fc], .slice K kn kc, .slice V vn vc] w (FilPost w (PutO f.f key value)) := by
  obtain ⟨W0, hW0⟩ : ∃ W0, (w.alloc (.cells #[.slice PA n pc, .int .i64 r0, .slice FA m fc] 29)).alloc (.cells #[.slice none 0 0, .int .i64 0, .slice none 0 0] 29) = W0 := ⟨_, rfl⟩
  obtain ⟨S, hS⟩ : ∃ S, w.heap.size = S := ⟨_, rfl⟩
  have hb0 : Below w.heap.size w W0 := hW0 ▸ bel_alloc (bal _ _) (Nat.le_refl _) _
  have B0 : Hid (Bx W0 S [.slice PA n pc, .int .i64 r0, .slice FA m fc]) := hW0 ▸ Lib.hid ((Bx.put w hS #[.slice PA n pc, .int .i64 r0, .slice FA m fc] 29).step (bal _ _))
  have X0 : Hid (Bx W0 (S + 1) [.slice none 0 0, .int .i64 0, .slice none 0 0]) := hW0 ▸ Lib.hid (Bx.put _ (by simp; exact hS) #[.slice none 0 0, .int .i64 0, .slice none 0 0] 29)
  have T0 : Hid (Ty W0 (S + 1) 29) := by
    have := Ty.new (w.alloc (.cells #[.slice PA n pc, .int .i64 r0, .slice FA m fc] 29)) #[.slice none 0 0, .int .i64 0, .slice none 0 0] 29
    rw [hW0] at this
    have e : (w.alloc (.cells #[.slice PA n pc, .int .i64 r0, .slice FA m fc] 29)).heap.size = S + 1 := by simp; exact hS
    rw [e] at this
    exact Lib.hid this
  have HF0 := Lib.hid (HF.out.below hb0)
  have G0 := Lib.hid (G.out.below hb0)
  have K0 := Lib.hid (Rd.below hk.out hb0)
  have V0 := Lib.hid (Rd.below hv.out hb0)
  have hr0 := Lib.hid (cs_root hcs).1
  have LK : Hid (lenB kn vn = true ↔ lenKV key value) := Lib.hid (lenB_kv (by have := hk.out.len; rw [bv_len] at this; omega) (by have := hv.out.len; rw [bv_len] at this; omega))
  have hs0 : W0.heap.size = S + 2 := by rw [← hW0, ← hS]; simp
  have HW0 := Lib.hid hW0
  have z0 := B0.out.at_ 0 (by simp)
  have z1 := B0.out.at_ 1 (by simp)
  have z2 := B0.out.at_ 2 (by simp)
  simp only [List.getElem?_cons_succ, List.getElem?_cons_zero] at z0 z1 z2
  clear hW0
  go_enter Tryz.func35, Tryz.ntmps35
  go_wp2_with fail
  rw [HW0.out]
  go_at_call 67
  refine (lengths_any _).mono ?_
  rintro e w' ⟨rfl, rfl⟩
  by_cases q1 : lenB kn vn = true
  · have HK := Lib.hid (LK.out.1 q1)
    rw [q1]
    clear q1
    go_wp2_with fail
    go_at_call 23
    refine (Valid_cs hcs _ G0 HF0).mono ?_
    rintro e w2 ⟨b, rfl, hb, b2⟩
    have bw2 := hb0.trans (b2.mono hb0.size)
    have X2 := Lib.hid (X0.out.step b2)
    by_cases hbt : b = true
    · subst hbt
      have VL := Lib.hid (hb.1 rfl)
      clear hb
      have HF2 := Lib.hid (HF0.out.below b2)
      have G2 := Lib.hid (G0.out.below b2)
      have K2 := Lib.hid (Rd.below K0.out b2)
      have V2 := Lib.hid (Rd.below V0.out b2)
      have B2 := Lib.hid (B0.out.step b2)
      have T2 := Lib.hid (T0.out.step b2)
      obtain ⟨fr, hfr, hfl⟩ := frok_nat VL.out.1.fr
      have HFR : Hid (f.f.free = nat_int fr) := Lib.hid hfr
      have HFL : Hid (∀ x ∈ fr, x < f.ps.length) := Lib.hid fun x hx => by have := hfl x hx; simpa [FV.f] using this
      have z0 := B2.out.at_ 0 (by simp)
      have z1 := B2.out.at_ 1 (by simp)
      have z2 := B2.out.at_ 2 (by simp)
      simp only [List.getElem?_cons_succ, List.getElem?_cons_zero] at z0 z1 z2
      obtain ⟨base, hbase⟩ : ∃ base, w2.heap.size = base := ⟨_, rfl⟩
      have hSb : S + 1 < base := by have := b2.size; omega
      have hbs : w.heap.size ≤ base := by omega
      clear hfr hfl
      go_wp2_with fail
      go_at_call 64
      refine (begin_cs hcs _ G2 HF2 (Lib.hid VL.out.1) HFR HFL).mono ?_
      rintro e w3 ⟨q, v, rfl, M3, b3⟩
      rw [hbase] at M3
      have K3 := Lib.hid (Rd.below K2.out b3)
      have V3 := Lib.hid (Rd.below V2.out b3)
      have hkn : kn ≤ 40 := by have := hk.out.len; rw [bv_len] at this; have := HK.out.2.1; omega
      have hvn : vn ≤ 120 := by have := hv.out.len; rw [bv_len] at this; have := HK.out.2.2; omega
      go_wp2_with fail
      go_at_call 48
      refine (bclone_any _ K3 (bv_one _) (by omega)).mono ?_
      rintro e w4 ⟨A1, c1, rfl, own1, b4⟩
      have V4 := Lib.hid (Rd.below V3.out b4)
      go_wp2_with fail
      go_at_call 48
      refine (bclone_any _ V4 (bv_one _) (by omega)).mono ?_
      rintro e w5 ⟨A2, c2, rfl, own2, b5⟩
      obtain ⟨W6, hW6⟩ : ∃ W6, w5.alloc (.cells #[.slice A1 kn c1, .slice A2 vn c2, .int .i64 0] 96) = W6 := ⟨_, rfl⟩
      have b6 : Below w5.heap.size w5 W6 := hW6 ▸ bal _ _
      have b36 : Below w3.heap.size w3 W6 := b4.trans ((b5.mono b4.size).trans (b6.mono (Nat.le_trans b4.size b5.size)))
      have b26 : Below w2.heap.size w2 W6 := b3.trans (b36.mono b3.size)
      have bw7 : Below w.heap.size w W6 := bw2.trans (b26.mono bw2.size)
      have M6 := Lib.hid (M3.out.low b36)
      have X7 := Lib.hid (X2.out.step b26)
      have T7 := Lib.hid (T2.out.step b26)
      have B6 := Lib.hid (B2.out.step b26)
      have K6 : Hid (Rd W6 1 K kn kc (bv key)) := Lib.hid (Rd.below K3.out b36)
      have hbW6 : base ≤ W6.heap.size := by have := b26.size; omega
      have hkl : kn = key.length := by have := hk.out.len; rw [bv_len] at this; omega
      have hvl : vn = value.length := by have := hv.out.len; rw [bv_len] at this; omega
      obtain ⟨P6, hP6⟩ : ∃ P6, w5.heap.size = P6 := ⟨_, rfl⟩
      have I6 : Hid (Ir W6 base (some ⟨P6, 0, none⟩) 1 1 [⟨A1, c1, key, A2, c2, value, 0⟩]) := Lib.hid ⟨by
        have := Rd.lit w5 96 3 #[.slice A1 kn c1, .slice A2 vn c2, .int .i64 0] 1 (by omega) rfl
        rw [hW6, hP6] at this
        have e : ic [⟨A1, c1, key, A2, c2, value, 0⟩] = (#[.slice A1 kn c1, .slice A2 vn c2, .int .i64 0] : Array Value).toList := by simp [ic, IV.cs, IV.kv, IV.vv, hkl, hvl]
        rw [e]; exact this, fun y hy => by
        obtain rfl : y = _ := by simpa using hy
        have o1 := own_below (own_below own1.out b5) b6
        have o2 := own_below own2.out b6
        rw [hkl] at o1
        rw [hvl] at o2
        exact ⟨⟨Rd.of_own o1, fun g _ e => .inr (own_type o1 e)⟩, ⟨Rd.of_own o2, fun g _ e => .inr (own_type o2 e)⟩⟩⟩
      have hPq : ¬ Xw q v P6 := fun e => by
        have t6 : Ty W6 P6 96 := by rw [← hW6, ← hP6]; exact Ty.new _ _ _
        rcases e with e | e
        · subst e; exact ty_ne t6 M6.out.qt (by decide) rfl
        · exact ty_ne t6 (own_type M6.out.own e) (by decide) rfl
      have OK6 : Hid (∀ x ∈ its [(⟨A1, c1, key, A2, c2, value, 0⟩ : IV)], ItOk 1 x) := Lib.hid fun x hx => by
        obtain rfl : x = _ := by simpa [its] using hx
        exact ⟨HK.out.1, HK.out.2.1, HK.out.2.2, fun _ => rfl, fun e => absurd rfl e⟩
      have HW6 := Lib.hid hW6
      have HP6 := Lib.hid hP6
      have HKL := Lib.hid hkl
      have HVL := Lib.hid hvl
      clear hW6 hP6 hkl hvl own1 own2 z0 z1 z2
      have z0 := B6.out.at_ 0 (by simp)
      have z1 := B6.out.at_ 1 (by simp)
      have z2 := B6.out.at_ 2 (by simp)
      simp only [List.getElem?_cons_succ, List.getElem?_cons_zero] at z0 z1 z2
      have PGL : Hid (f.f.pg = f.ps.map PV.d) := Lib.hid rfl
      go_upto_region 7 with fail
      rw [HW6.out]
      by_cases hroot : r0 < 0
      · have HA : Hid (putA f.f fr key value = stoF 1 [⟨key, value, 0⟩] ⟨f.f.pg, fr, false⟩) := Lib.hid (by unfold putA; rw [if_pos (by have := hr0.out; show f.root < 0; omega)])
        have ST := store_any (base := base) (q := q) (kind := 1) (root := r0) (.inl rfl) 2 v ⟨f.ps.map PV.d, fr, false⟩ (some ⟨P6, 0, none⟩) 1 1 [⟨A1, c1, key, A2, c2, value, 0⟩] W6 (by simp) M6 I6 (Lib.hid fun g _ e => by simp [blk] at e; subst e; exact hPq) OK6 (by omega) hbW6
        have ST := Lib.hid ST
        go_wp2_with fail
        rw [HP6.out]
        go_at_call 68
        refine ST.out.mono ?_
        rintro e w7 ⟨A7, n7, c7, l7, v7, rfl, S7⟩
        have AP7 : Hid (∀ g, 0 < n7 → blk A7 = some g → ¬ Xw q v7 g) := Lib.hid fun g _ e => by
          rcases S7.out.ow with ⟨⟨h, _⟩, _⟩ | h
          · cases h
          · exact own_apx h S7.out.wm g e
        have OK7 : Hid (∀ x ∈ its l7, ItOk 2 x) := Lib.hid (by rw [S7.out.it]; exact (sto_ok (kind := 1) (ows_ok M6.out) OK6.out).1)
        have hn7 : n7 ≤ 1 := by
          have := (sto_len (kind := 1) (f := 2) (s := ⟨f.ps.map PV.d, fr, false⟩) OK6.out).1
          rw [← S7.out.it, its_len, ← S7.out.ir.len] at this; exact this
        have bB7 : Below base W6 w7 := S7.out.kp.low hbW6 fun i h => by
          rcases h with h | h
          · exact h ▸ M6.out.q1
          · exact (own_blk_le M6.out.own h).1
        have DN := done_any (F := 1000) w7 (Lib.hid S7.out.wm) (Lib.hid S7.out.ir) AP7 OK7 (by omega) (by omega) (Nat.le_trans hbW6 bB7.size)
        have DN := Lib.hid DN
        have HRA : Hid (dnF 1000 (its l7) (sto 1 2 (its [(⟨A1, c1, key, A2, c2, value, 0⟩ : IV)]) ⟨f.ps.map PV.d, fr, false⟩).2 = dnF 1000 (putA f.f fr key value).1 (putA f.f fr key value).2) := Lib.hid (by rw [S7.out.it, HA.out]; rfl)
        have bw7 : Below w.heap.size w w7 := bw7.trans (bB7.mono hbs)
        have X7 := Lib.hid (X7.out.below bB7 hSb)
        have T7 : Hid (Ty w7 (S + 1) 29) := Lib.hid (T7.out.kp ⟨bB7.os, bB7.tape, bB7.output, bB7.size, fun i hi hn => bB7.block i (by omega)⟩ (X := fun i => base ≤ i) (by omega))
        go_wp2_with fail
        go_at_call 65
        refine DN.out.mono ?_
        rintro e w8 D8
        obtain ⟨D8, b8⟩ := dn_of HRA.out D8
        have bw8 : Below w.heap.size w w8 := (bw7.mono (Nat.le_refl _)).trans (b8.mono hbs)
        have X8 := Lib.hid (X7.out.below b8 hSb)
        have T8 : Hid (Ty w8 (S + 1) 29) := Lib.hid (T7.out.kp ⟨b8.os, b8.tape, b8.output, b8.size, fun i hi hn => b8.block i (by omega)⟩ (X := fun i => base ≤ i) (by omega))
        rcases D8 with ⟨hfull, rfl⟩ | ⟨hfull, f8, rfl, hf8, F8⟩
        · have R : Hid (PutO f.f key value zeroF 5) := Lib.hid (.full fr HFR.out HK.out VL.out hfull)
          clear hfull
          have x0 := X8.out.at_ 0 (by simp)
          have x1 := X8.out.at_ 1 (by simp)
          have x2 := X8.out.at_ 2 (by simp)
          simp only [List.getElem?_cons_succ, List.getElem?_cons_zero] at x0 x1 x2
          have g0 := X8.out.fz 0 (by simp)
          have g1 := X8.out.fz 1 (by simp)
          have g2 := X8.out.fz 2 (by simp)
          obtain ⟨C0, C1, C2⟩ := res_cells X8.out
          have C0 := Lib.hid C0
          have C1 := Lib.hid C1
          have C2 := Lib.hid C2
          go_wp2_with fail
          refine bodyPost_ret (v := .tuple #[.agg #[.slice none 0 0, .int .i64 0, .slice none 0 0], .int .i64 5]) (by simp [results, Tryz.results35, go_sem, C0.out, C1.out, C2.out]) rfl (FilPost.zero R.out (res_below bw8 (by omega)))
        · have R : Hid (PutO f.f key value f8.f 0) := Lib.hid (by rw [hf8]; exact .ok fr HFR.out HK.out VL.out hfull)
          clear hfull hf8
          obtain ⟨PA8, pc8, ps8, r8, FA8, fc8, free8⟩ := f8
          obtain ⟨pn8, hpn8⟩ : ∃ pn8, ps8.length = pn8 := ⟨_, rfl⟩
          obtain ⟨fn8, hfn8⟩ : ∃ fn8, free8.length = fn8 := ⟨_, rfl⟩
          have HV8 : Hid (FV.val ⟨PA8, pc8, ps8, r8, FA8, fc8, free8⟩ = .agg #[.slice PA8 pn8 pc8, .int .i64 r8, .slice FA8 fn8 fc8]) := by unfold FV.val; rw [hpn8, hfn8]; exact Lib.hid rfl
          rw [HV8.out]
          clear hpn8 hfn8
          have x0 := X8.out.at_ 0 (by simp)
          have x1 := X8.out.at_ 1 (by simp)
          have x2 := X8.out.at_ 2 (by simp)
          simp only [List.getElem?_cons_succ, List.getElem?_cons_zero] at x0 x1 x2
          have g0 := X8.out.fz 0 (by simp)
          have g1 := X8.out.fz 1 (by simp)
          have g2 := X8.out.fz 2 (by simp)
          obtain ⟨C0, C1, C2⟩ := res_cells X8.out
          have C0 := Lib.hid C0
          have C1 := Lib.hid C1
          have C2 := Lib.hid C2
          go_wp2_with fail
          refine bodyPost_ret (v := .tuple #[.agg #[.slice PA8 pn8 pc8, .int .i64 r8, .slice FA8 fn8 fc8], .int .i64 0]) (by simp [results, Tryz.results35, go_sem, C0.out, C1.out, C2.out]) rfl (⟨_, 0, R.out, by rw [HV8.out], Lib.hid (fl_res F8.out T8.out), res_below bw8 (by omega)⟩)
      · have HA : Hid (putA f.f fr key value = chg key [⟨key, value, 0⟩] (f.f.pg.length + 1) f.f.root.toNat ⟨f.f.pg, fr, false⟩) := Lib.hid (by unfold putA; rw [if_neg (by have := hr0.out; show ¬ f.root < 0; omega)])
        obtain ⟨rn, rfl⟩ : ∃ rn : Nat, r0 = (rn : Int) := ⟨r0.toNat, by omega⟩
        have HRN : Hid (f.f.root.toNat = rn) := Lib.hid (by have := hr0.out; show f.root.toNat = rn; omega)
        have POK : Hid (Pok (f.ps.map PV.d) key (f.f.pg.length + 1) rn) := Lib.hid (by rw [← HRN.out]; exact vld_pok VL.out (by have := hr0.out; show ¬ f.root < 0; omega) key)
        have CH := change_any (base := base) (q := q) (root := (rn : Int)) (key := key) (lb := [⟨A1, c1, key, A2, c2, value, 0⟩]) OK6 (by simp) (f.f.pg.length + 1) rn v ⟨f.ps.map PV.d, fr, false⟩ K kn kc (some ⟨P6, 0, none⟩) 1 1 W6 POK M6 K6 I6 hbW6
        have CH := Lib.hid CH
        obtain ⟨CO1, _, CO2⟩ := chg_ok (key := key) (bl := [⟨key, value, 0⟩]) (k := f.f.pg.length + 1) (n := rn) (s := ⟨f.ps.map PV.d, fr, false⟩) OK6.out (by simp) POK.out (ows_ok M6.out)
        have CO1 := Lib.hid CO1
        have CO2 := Lib.hid CO2
        go_wp2_with fail
        rw [HP6.out]
        go_at_call 66
        refine CH.out.mono ?_
        rintro e w7 ⟨A7, n7, c7, l7, v7, rfl, S7⟩
        have OK7 : Hid (∀ x ∈ its l7, ItOk 2 x) := Lib.hid (by rw [S7.out.it]; exact CO1.out)
        have hn7 : n7 ≤ 84 := by
          have := CO2.out
          have e : its l7 = (chg key [⟨key, value, 0⟩] (f.f.pg.length + 1) rn ⟨f.ps.map PV.d, fr, false⟩).1 := S7.out.it
          rw [← e, its_len, ← S7.out.ir.len] at this; exact this
        have bB7 : Below base W6 w7 := S7.out.kp.low hbW6 fun i h => by
          rcases h with h | h
          · exact h ▸ M6.out.q1
          · exact (own_blk_le M6.out.own h).1
        have DN := done_any (F := 1000) w7 (Lib.hid S7.out.wm) (Lib.hid S7.out.ir) (Lib.hid S7.out.ap) OK7 (by omega) (by omega) (Nat.le_trans hbW6 bB7.size)
        have DN := Lib.hid DN
        have HRA : Hid (dnF 1000 (its l7) (chg key (its [(⟨A1, c1, key, A2, c2, value, 0⟩ : IV)]) (f.f.pg.length + 1) rn ⟨f.ps.map PV.d, fr, false⟩).2 = dnF 1000 (putA f.f fr key value).1 (putA f.f fr key value).2) := Lib.hid (by rw [S7.out.it, HA.out, HRN.out]; rfl)
        have bw7 : Below w.heap.size w w7 := bw7.trans (bB7.mono hbs)
        have X7 := Lib.hid (X7.out.below bB7 hSb)
        have T7 : Hid (Ty w7 (S + 1) 29) := Lib.hid (T7.out.kp ⟨bB7.os, bB7.tape, bB7.output, bB7.size, fun i hi hn => bB7.block i (by omega)⟩ (X := fun i => base ≤ i) (by omega))
        go_wp2_with fail
        go_at_call 65
        refine DN.out.mono ?_
        rintro e w8 D8
        obtain ⟨D8, b8⟩ := dn_of HRA.out D8
        have bw8 : Below w.heap.size w w8 := (bw7.mono (Nat.le_refl _)).trans (b8.mono hbs)
        have X8 := Lib.hid (X7.out.below b8 hSb)
        have T8 : Hid (Ty w8 (S + 1) 29) := Lib.hid (T7.out.kp ⟨b8.os, b8.tape, b8.output, b8.size, fun i hi hn => b8.block i (by omega)⟩ (X := fun i => base ≤ i) (by omega))
        rcases D8 with ⟨hfull, rfl⟩ | ⟨hfull, f8, rfl, hf8, F8⟩
        · have R : Hid (PutO f.f key value zeroF 5) := Lib.hid (.full fr HFR.out HK.out VL.out hfull)
          clear hfull
          have x0 := X8.out.at_ 0 (by simp)
          have x1 := X8.out.at_ 1 (by simp)
          have x2 := X8.out.at_ 2 (by simp)
          simp only [List.getElem?_cons_succ, List.getElem?_cons_zero] at x0 x1 x2
          have g0 := X8.out.fz 0 (by simp)
          have g1 := X8.out.fz 1 (by simp)
          have g2 := X8.out.fz 2 (by simp)
          obtain ⟨C0, C1, C2⟩ := res_cells X8.out
          have C0 := Lib.hid C0
          have C1 := Lib.hid C1
          have C2 := Lib.hid C2
          go_wp2_with fail
          refine bodyPost_ret (v := .tuple #[.agg #[.slice none 0 0, .int .i64 0, .slice none 0 0], .int .i64 5]) (by simp [results, Tryz.results35, go_sem, C0.out, C1.out, C2.out]) rfl (FilPost.zero R.out (res_below bw8 (by omega)))
        · have R : Hid (PutO f.f key value f8.f 0) := Lib.hid (by rw [hf8]; exact .ok fr HFR.out HK.out VL.out hfull)
          clear hfull hf8
          obtain ⟨PA8, pc8, ps8, r8, FA8, fc8, free8⟩ := f8
          obtain ⟨pn8, hpn8⟩ : ∃ pn8, ps8.length = pn8 := ⟨_, rfl⟩
          obtain ⟨fn8, hfn8⟩ : ∃ fn8, free8.length = fn8 := ⟨_, rfl⟩
          have HV8 : Hid (FV.val ⟨PA8, pc8, ps8, r8, FA8, fc8, free8⟩ = .agg #[.slice PA8 pn8 pc8, .int .i64 r8, .slice FA8 fn8 fc8]) := by unfold FV.val; rw [hpn8, hfn8]; exact Lib.hid rfl
          rw [HV8.out]
          clear hpn8 hfn8
          have x0 := X8.out.at_ 0 (by simp)
          have x1 := X8.out.at_ 1 (by simp)
          have x2 := X8.out.at_ 2 (by simp)
          simp only [List.getElem?_cons_succ, List.getElem?_cons_zero] at x0 x1 x2
          have g0 := X8.out.fz 0 (by simp)
          have g1 := X8.out.fz 1 (by simp)
          have g2 := X8.out.fz 2 (by simp)
          obtain ⟨C0, C1, C2⟩ := res_cells X8.out
          have C0 := Lib.hid C0
          have C1 := Lib.hid C1
          have C2 := Lib.hid C2
          go_wp2_with fail
          refine bodyPost_ret (v := .tuple #[.agg #[.slice PA8 pn8 pc8, .int .i64 r8, .slice FA8 fn8 fc8], .int .i64 0]) (by simp [results, Tryz.results35, go_sem, C0.out, C1.out, C2.out]) rfl (⟨_, 0, R.out, by rw [HV8.out], Lib.hid (fl_res F8.out T8.out), res_below bw8 (by omega)⟩)
    · obtain rfl : b = false := by simpa using hbt
      have R : Hid (PutO f.f key value zeroF 16) := Lib.hid (.log HK.out fun h => by have := hb.2 h; cases this)
      clear hb hbt
      have x0 := X2.out.at_ 0 (by simp)
      have x1 := X2.out.at_ 1 (by simp)
      have x2 := X2.out.at_ 2 (by simp)
      simp only [List.getElem?_cons_succ, List.getElem?_cons_zero] at x0 x1 x2
      have g0 := X2.out.fz 0 (by simp)
      have g1 := X2.out.fz 1 (by simp)
      have g2 := X2.out.fz 2 (by simp)
      obtain ⟨C0, C1, C2⟩ := res_cells X2.out
      have C0 := Lib.hid C0
      have C1 := Lib.hid C1
      have C2 := Lib.hid C2
      go_wp2_with fail
      refine bodyPost_ret (v := .tuple #[.agg #[.slice none 0 0, .int .i64 0, .slice none 0 0], .int .i64 16]) (by simp [results, Tryz.results35, go_sem, C0.out, C1.out, C2.out]) rfl (FilPost.zero R.out (res_below bw2 (by omega)))
  · have R : Hid (PutO f.f key value zeroF 1) := Lib.hid (.arg fun h => q1 (LK.out.2 h))
    have q1 : lenB kn vn = false := by simpa using q1
    rw [q1]
    clear q1
    have x0 := X0.out.at_ 0 (by simp)
    have x1 := X0.out.at_ 1 (by simp)
    have x2 := X0.out.at_ 2 (by simp)
    simp only [List.getElem?_cons_succ, List.getElem?_cons_zero] at x0 x1 x2
    have g0 := X0.out.fz 0 (by simp)
    have g1 := X0.out.fz 1 (by simp)
    have g2 := X0.out.fz 2 (by simp)
    obtain ⟨C0, C1, C2⟩ := res_cells X0.out
    have C0 := Lib.hid C0
    have C1 := Lib.hid C1
    have C2 := Lib.hid C2
    go_wp2_with fail
    refine bodyPost_ret (v := .tuple #[.agg #[.slice none 0 0, .int .i64 0, .slice none 0 0], .int .i64 1]) (by simp [results, Tryz.results35, go_sem, C0.out, C1.out, C2.out]) rfl (FilPost.zero R.out (res_below hb0 (by omega)))
end
end Go.Proofs.YtpmkohnljngbhaaGreatDoor.Pg
/- The walk of Delete. -/
namespace Go.Proofs.YtpmkohnljngbhaaGreatDoor.Pg
set_option maxRecDepth 1000000
open Go.RowKit Wl

theorem get_ok {F : Fi} {key d : List UInt8} (h : GetO F key d 0) : lenK key ∧ Vld F ∧ ¬ F.root < 0 := by
  cases h
  case get h hs hf =>
    cases hf
    case some s hr hn =>
      refine ⟨h, ⟨hs, s, hr⟩, fun hlt => ?_⟩
      cases hr
      case no _ => cases hn
      case yes _ h2 => omega
section
variable {f : FV} {PA FA : Option Addr} {n pc m fc : Nat} {r0 : Int}
set_option maxRecDepth 1000000 in
set_option maxHeartbeats 12800000 in
theorem Delete_cs (hcs : CsOf f PA n pc r0 FA m fc) {K : Option Addr} {kn kc : Nat} {key : List UInt8} (w : World) (G : Hid (Gl w)) (HF : Hid (Fl w f)) (hk : Hid (Rd w 1 K kn kc (bv key))) :
    Calls Tryz.prog 34 #[.agg #[.slice PA n pc, .int .i64 r0, .slice FA m fc], .slice K kn kc] w (FilPost w (DelO f.f key)) := by
  obtain ⟨W0, hW0⟩ : ∃ W0, (w.alloc (.cells #[.slice PA n pc, .int .i64 r0, .slice FA m fc] 29)).alloc (.cells #[.slice none 0 0, .int .i64 0, .slice none 0 0] 29) = W0 := ⟨_, rfl⟩
  obtain ⟨S, hS⟩ : ∃ S, w.heap.size = S := ⟨_, rfl⟩
  have hb0 : Below w.heap.size w W0 := hW0 ▸ bel_alloc (bal _ _) (Nat.le_refl _) _
  have B0 : Hid (Bx W0 S [.slice PA n pc, .int .i64 r0, .slice FA m fc]) := hW0 ▸ Lib.hid ((Bx.put w hS #[.slice PA n pc, .int .i64 r0, .slice FA m fc] 29).step (bal _ _))
  have X0 : Hid (Bx W0 (S + 1) [.slice none 0 0, .int .i64 0, .slice none 0 0]) := hW0 ▸ Lib.hid (Bx.put _ (by simp; exact hS) #[.slice none 0 0, .int .i64 0, .slice none 0 0] 29)
  have T0 : Hid (Ty W0 (S + 1) 29) := by
    have := Ty.new (w.alloc (.cells #[.slice PA n pc, .int .i64 r0, .slice FA m fc] 29)) #[.slice none 0 0, .int .i64 0, .slice none 0 0] 29
    rw [hW0] at this
    have e : (w.alloc (.cells #[.slice PA n pc, .int .i64 r0, .slice FA m fc] 29)).heap.size = S + 1 := by simp; exact hS
    rw [e] at this
    exact Lib.hid this
  have HF0 := Lib.hid (HF.out.below hb0)
  have G0 := Lib.hid (G.out.below hb0)
  have K0 := Lib.hid (Rd.below hk.out hb0)
  have hr0 := Lib.hid (cs_root hcs).1
  have hs0 : W0.heap.size = S + 2 := by rw [← hW0, ← hS]; simp
  have HW0 := Lib.hid hW0
  have z0 := B0.out.at_ 0 (by simp)
  have z1 := B0.out.at_ 1 (by simp)
  have z2 := B0.out.at_ 2 (by simp)
  simp only [List.getElem?_cons_succ, List.getElem?_cons_zero] at z0 z1 z2
  clear hW0
  go_enter Tryz.func34, Tryz.ntmps34
  go_wp2_with fail
  rw [HW0.out]
  go_at_call 63
  refine (Get_cs hcs _ G0 HF0 K0).mono ?_
  rintro e w2 ⟨d, er, Ad, cd, hget, rfl, _, b2⟩
  have bw2 := hb0.trans (b2.mono hb0.size)
  have X2 := Lib.hid (X0.out.step b2)
  by_cases her : er = 0
  · subst her
    have GO := Lib.hid hget
    obtain ⟨gk, gv, gr⟩ := get_ok hget
    have VL := Lib.hid gv
    have ROOT : Hid (0 ≤ f.root) := Lib.hid (by have h : ¬ f.root < 0 := gr; omega)
    clear hget gk gv gr
    have HF2 := Lib.hid (HF0.out.below b2)
    have G2 := Lib.hid (G0.out.below b2)
    have K2 := Lib.hid (Rd.below K0.out b2)
    have B2 := Lib.hid (B0.out.step b2)
    have T2 := Lib.hid (T0.out.step b2)
    obtain ⟨fr, hfr, hfl⟩ := frok_nat VL.out.1.fr
    have HFR : Hid (f.f.free = nat_int fr) := Lib.hid hfr
    have HFL : Hid (∀ x ∈ fr, x < f.ps.length) := Lib.hid fun x hx => by have := hfl x hx; simpa [FV.f] using this
    have z0 := B2.out.at_ 0 (by simp)
    have z1 := B2.out.at_ 1 (by simp)
    have z2 := B2.out.at_ 2 (by simp)
    simp only [List.getElem?_cons_succ, List.getElem?_cons_zero] at z0 z1 z2
    obtain ⟨base, hbase⟩ : ∃ base, w2.heap.size = base := ⟨_, rfl⟩
    have hSb : S + 1 < base := by have := b2.size; omega
    have hbs : w.heap.size ≤ base := by omega
    clear hfr hfl
    obtain ⟨rn, rfl⟩ : ∃ rn : Nat, r0 = (rn : Int) := ⟨r0.toNat, by have h1 := ROOT.out; have h2 := hr0.out; omega⟩
    go_wp2_with fail
    go_at_call 64
    refine (begin_cs hcs _ G2 HF2 (Lib.hid VL.out.1) HFR HFL).mono ?_
    rintro e w3 ⟨q, v, rfl, M3, b3⟩
    rw [hbase] at M3
    have bw7 : Below w.heap.size w w3 := bw2.trans (b3.mono bw2.size)
    have X7 := Lib.hid (X2.out.step b3)
    have T7 := Lib.hid (T2.out.step b3)
    have B6 := Lib.hid (B2.out.step b3)
    have K6 : Hid (Rd w3 1 K kn kc (bv key)) := Lib.hid (Rd.below K2.out b3)
    have hbW6 : base ≤ w3.heap.size := by have := b3.size; omega
    clear z0 z1 z2
    have z0 := B6.out.at_ 0 (by simp)
    have z1 := B6.out.at_ 1 (by simp)
    have z2 := B6.out.at_ 2 (by simp)
    simp only [List.getElem?_cons_succ, List.getElem?_cons_zero] at z0 z1 z2
    have HRN : Hid (f.f.root.toNat = rn) := Lib.hid (by have := hr0.out; show f.root.toNat = rn; omega)
    have HA : Hid (delA f.f fr key = chg key [] (f.f.pg.length + 1) f.f.root.toNat ⟨f.f.pg, fr, false⟩) := Lib.hid rfl
    have POK : Hid (Pok (f.ps.map PV.d) key (f.f.pg.length + 1) rn) := Lib.hid (by rw [← HRN.out]; exact vld_pok VL.out (by have h1 := ROOT.out; show ¬ f.root < 0; omega) key)
    have OK6 : Hid (∀ x ∈ its [], ItOk 1 x) := Lib.hid (by simp [its])
    have CH := change_any (base := base) (q := q) (root := (rn : Int)) (key := key) (lb := []) OK6 (by simp) (f.f.pg.length + 1) rn v ⟨f.ps.map PV.d, fr, false⟩ K kn kc none 0 0 w3 POK M3 K6 (Lib.hid ⟨Rd.nil_ _ _, by simp⟩) hbW6
    have CH := Lib.hid CH
    obtain ⟨CO1, _, CO2⟩ := chg_ok (key := key) (bl := []) (k := f.f.pg.length + 1) (n := rn) (s := ⟨f.ps.map PV.d, fr, false⟩) OK6.out (by simp) POK.out (ows_ok M3.out)
    have CO1 := Lib.hid CO1
    have CO2 := Lib.hid CO2
    go_wp2_with fail
    go_at_call 66
    refine CH.out.mono ?_
    rintro e w7 ⟨A7, n7, c7, l7, v7, rfl, S7⟩
    have OK7 : Hid (∀ x ∈ its l7, ItOk 2 x) := Lib.hid (by rw [S7.out.it]; exact CO1.out)
    have hn7 : n7 ≤ 84 := by
      have := CO2.out
      have e : its l7 = (chg key [] (f.f.pg.length + 1) rn ⟨f.ps.map PV.d, fr, false⟩).1 := S7.out.it
      rw [← e, its_len, ← S7.out.ir.len] at this; exact this
    have bB7 : Below base w3 w7 := S7.out.kp.low hbW6 fun i h => by
      rcases h with h | h
      · exact h ▸ M3.out.q1
      · exact (own_blk_le M3.out.own h).1
    have DN := done_any (F := 1000) w7 (Lib.hid S7.out.wm) (Lib.hid S7.out.ir) (Lib.hid S7.out.ap) OK7 (by omega) (by omega) (Nat.le_trans hbW6 bB7.size)
    have DN := Lib.hid DN
    have HRA : Hid (dnF 1000 (its l7) (chg key (its []) (f.f.pg.length + 1) rn ⟨f.ps.map PV.d, fr, false⟩).2 = dnF 1000 (delA f.f fr key).1 (delA f.f fr key).2) := Lib.hid (by rw [S7.out.it, HA.out, HRN.out]; rfl)
    have bw7 : Below w.heap.size w w7 := bw7.trans (bB7.mono hbs)
    have X7 := Lib.hid (X7.out.below bB7 hSb)
    have T7 : Hid (Ty w7 (S + 1) 29) := Lib.hid (T7.out.kp ⟨bB7.os, bB7.tape, bB7.output, bB7.size, fun i hi hn => bB7.block i (by omega)⟩ (X := fun i => base ≤ i) (by omega))
    go_wp2_with fail
    go_at_call 65
    refine DN.out.mono ?_
    rintro e w8 D8
    obtain ⟨D8, b8⟩ := dn_of HRA.out D8
    have bw8 : Below w.heap.size w w8 := (bw7.mono (Nat.le_refl _)).trans (b8.mono hbs)
    have X8 := Lib.hid (X7.out.below b8 hSb)
    have T8 : Hid (Ty w8 (S + 1) 29) := Lib.hid (T7.out.kp ⟨b8.os, b8.tape, b8.output, b8.size, fun i hi hn => b8.block i (by omega)⟩ (X := fun i => base ≤ i) (by omega))
    rcases D8 with ⟨hfull, rfl⟩ | ⟨hfull, f8, rfl, hf8, F8⟩
    · have R : Hid (DelO f.f key zeroF 5) := Lib.hid (.full fr HFR.out d GO.out hfull)
      clear hfull
      have x0 := X8.out.at_ 0 (by simp)
      have x1 := X8.out.at_ 1 (by simp)
      have x2 := X8.out.at_ 2 (by simp)
      simp only [List.getElem?_cons_succ, List.getElem?_cons_zero] at x0 x1 x2
      have g0 := X8.out.fz 0 (by simp)
      have g1 := X8.out.fz 1 (by simp)
      have g2 := X8.out.fz 2 (by simp)
      obtain ⟨C0, C1, C2⟩ := res_cells X8.out
      have C0 := Lib.hid C0
      have C1 := Lib.hid C1
      have C2 := Lib.hid C2
      go_wp2_with fail
      refine bodyPost_ret (v := .tuple #[.agg #[.slice none 0 0, .int .i64 0, .slice none 0 0], .int .i64 5]) (by simp [results, Tryz.results34, go_sem, C0.out, C1.out, C2.out]) rfl (FilPost.zero R.out (res_below bw8 (by omega)))
    · have R : Hid (DelO f.f key f8.f 0) := Lib.hid (by rw [hf8]; exact .ok fr HFR.out d GO.out hfull)
      clear hfull hf8
      obtain ⟨PA8, pc8, ps8, r8, FA8, fc8, free8⟩ := f8
      obtain ⟨pn8, hpn8⟩ : ∃ pn8, ps8.length = pn8 := ⟨_, rfl⟩
      obtain ⟨fn8, hfn8⟩ : ∃ fn8, free8.length = fn8 := ⟨_, rfl⟩
      have HV8 : Hid (FV.val ⟨PA8, pc8, ps8, r8, FA8, fc8, free8⟩ = .agg #[.slice PA8 pn8 pc8, .int .i64 r8, .slice FA8 fn8 fc8]) := by unfold FV.val; rw [hpn8, hfn8]; exact Lib.hid rfl
      rw [HV8.out]
      clear hpn8 hfn8
      have x0 := X8.out.at_ 0 (by simp)
      have x1 := X8.out.at_ 1 (by simp)
      have x2 := X8.out.at_ 2 (by simp)
      simp only [List.getElem?_cons_succ, List.getElem?_cons_zero] at x0 x1 x2
      have g0 := X8.out.fz 0 (by simp)
      have g1 := X8.out.fz 1 (by simp)
      have g2 := X8.out.fz 2 (by simp)
      obtain ⟨C0, C1, C2⟩ := res_cells X8.out
      have C0 := Lib.hid C0
      have C1 := Lib.hid C1
      have C2 := Lib.hid C2
      go_wp2_with fail
      refine bodyPost_ret (v := .tuple #[.agg #[.slice PA8 pn8 pc8, .int .i64 r8, .slice FA8 fn8 fc8], .int .i64 0]) (by simp [results, Tryz.results34, go_sem, C0.out, C1.out, C2.out]) rfl (⟨_, 0, R.out, by rw [HV8.out], Lib.hid (fl_res F8.out T8.out), res_below bw8 (by omega)⟩)
  · have R : Hid (DelO f.f key zeroF er) := Lib.hid (.err d er hget her)
    have her1 : (er == 0) = false := by simpa using her
    clear hget
    have x0 := X2.out.at_ 0 (by simp)
    have x1 := X2.out.at_ 1 (by simp)
    have x2 := X2.out.at_ 2 (by simp)
    simp only [List.getElem?_cons_succ, List.getElem?_cons_zero] at x0 x1 x2
    have g0 := X2.out.fz 0 (by simp)
    have g1 := X2.out.fz 1 (by simp)
    have g2 := X2.out.fz 2 (by simp)
    obtain ⟨C0, C1, C2⟩ := res_cells X2.out
    have C0 := Lib.hid C0
    have C1 := Lib.hid C1
    have C2 := Lib.hid C2
    go_wp2_with fail
    refine bodyPost_ret (v := .tuple #[.agg #[.slice none 0 0, .int .i64 0, .slice none 0 0], .int .i64 er]) (by simp [results, Tryz.results34, go_sem, C0.out, C1.out, C2.out]) rfl (FilPost.zero R.out (res_below bw2 (by omega)))
end
end Go.Proofs.YtpmkohnljngbhaaGreatDoor.Pg
/- The walk of Range. -/
namespace Go.Proofs.YtpmkohnljngbhaaGreatDoor.Pg
set_option maxRecDepth 1000000
open Go.RowKit Wl

/-- A key with its value, in memory. -/
structure EV where
  A : Option Addr
  c : Nat
  k : List UInt8
  B : Option Addr
  d : Nat
  v : List UInt8
def EV.kv (x : EV) : List UInt8 × List UInt8 := (x.k, x.v)
def EV.cs (x : EV) : List Value := [.slice x.A x.k.length x.c, .slice x.B x.v.length x.d]
def evc (l : List EV) : List Value := l.flatMap EV.cs
def kvs (l : List It) : List (List UInt8 × List UInt8) := l.map fun x => (x.k, x.v)
structure Er (w : World) (A : Option Addr) (n c : Nat) (L : List EV) : Prop where
  row : Rd w 2 A n c (evc L)
  dat : ∀ x ∈ L, Rd w 1 x.A x.k.length x.c (bv x.k) ∧ Rd w 1 x.B x.v.length x.d (bv x.v)
def RgPost (w : World) (F : Fi) (a b : List UInt8) (e : Ending) (w' : World) : Prop := ∃ (es : List It) (er : Int) (L : List EV) (A : Option Addr) (n c : Nat), RngO F a b es er ∧ L.map EV.kv = kvs es ∧ e = .returned (.tuple #[.slice A n c, .int .i64 er]) ∧ Hid (Er w' A n c L) ∧ Below w.heap.size w w'
theorem rd_nil2 (w : World) : Er w none 0 0 [] := ⟨Rd.nil_ _ _, by simp⟩
theorem RgPost.nil_ {w w' : World} {F : Fi} {a b : List UInt8} {er : Int} (h : RngO F a b [] er) (hb : Below w.heap.size w w') : RgPost w F a b (.returned (.tuple #[.slice none 0 0, .int .i64 er])) w' := ⟨[], er, [], none, 0, 0, h, rfl, rfl, Lib.hid (rd_nil2 _), hb⟩
/-- Entries of the call's own. -/
structure Eo (w : World) (b0 : Nat) (A : Option Addr) (n c : Nat) (L : List EV) : Prop where
  own : w.ownsRow b0 48 2 (.slice A n c) n (evc L)
  dat : ∀ x ∈ L, w.ownsRow b0 5 1 (.slice x.A x.k.length x.c) x.k.length (bv x.k) ∧ w.ownsRow b0 5 1 (.slice x.B x.v.length x.d) x.v.length (bv x.v)
theorem info_pair : (Tryz.prog.info? 48).map (fun i => (i.zero, i.size, i.bytes)) = some (some (.agg #[.slice none 0 0, .slice none 0 0]), 2, 48) := by kernel_rfl
theorem evc_app (a b : List EV) : evc (a ++ b) = evc a ++ evc b := by simp [evc]
theorem pone2 (a b : Value) (h1 : a.oneCell' = true) (h2 : b.oneCell' = true) : ∀ u ∈ (#[a, b] : Array Value).toList, u.oneCell' = true := by
  intro u hu
  simp at hu
  rcases hu with rfl | rfl
  · exact h1
  · exact h2
/-- An entry more. -/
theorem rg_all {W3 w2 Ud U6 U7 U8 U9 : World} {q3 no co c6 c7 c9 : Nat} {Ao A6 A7 A9 : Option Addr} {Lo : List EV} {x : IV} {cs : List Value} (hw : w2.heap.size ≤ W3.heap.size) (b34 : Below w2.heap.size w2 W3) (X3 : Bx W3 q3 cs) (T3 : Ty W3 q3 96)
    (OW : W3.ownsRow w2.heap.size 48 2 (.slice Ao no co) no (evc Lo)) (OD : ∀ y ∈ Lo, W3.ownsRow w2.heap.size 5 1 (.slice y.A y.k.length y.c) y.k.length (bv y.k) ∧ W3.ownsRow w2.heap.size 5 1 (.slice y.B y.v.length y.d) y.v.length (bv y.v))
    (vd : Below W3.heap.size W3 Ud) (own6 : U6.ownsRow Ud.heap.size 5 1 (.slice A6 x.k.length c6) x.k.length (bv x.k)) (b6 : Below Ud.heap.size Ud U6)
    (own7 : U7.ownsRow U6.heap.size 5 1 (.slice A7 x.v.length c7) x.v.length (bv x.v)) (b7 : Below U6.heap.size U6 U7) (b8 : Below U7.heap.size U7 U8)
    (own9 : U9.ownsRow w2.heap.size 48 2 (.slice A9 (no + 1) c9) (no + 1) (evc Lo ++ [.slice A6 x.k.length c6, .slice A7 x.v.length c7])) (g9 : Grew U8 Ao U9 A9) :
    (∀ j, j < cs.length → U9.cell? ⟨q3, j, none⟩ = cs[j]?) ∧ Eo U9 w2.heap.size A9 (no + 1) c9 (Lo ++ [⟨A6, c6, x.k, A7, c7, x.v⟩]) ∧ Below w2.heap.size w2 U9 := by
  have v6 := vd.trans (b6.mono vd.size)
  have v7 := v6.trans (b7.mono v6.size)
  have v8 := v7.trans (b8.mono v7.size)
  have OW8 := own_below OW v8
  have T8 := T3.step v8
  have hne : blk Ao ≠ some q3 := fun e => by
    obtain ⟨a, h1⟩ := own_type OW8 e
    obtain ⟨b, h2⟩ := T8
    rw [h1] at h2; injection h2 with h2; injection h2 with _ h2; cases h2
  have frz : ∀ {A : Option Addr} {n c b0 : Nat} {xs : List Value}, U8.ownsRow b0 5 1 (.slice A n c) n xs → U9.ownsRow b0 5 1 (.slice A n c) n xs := fun {A n c b0 xs} hz => own_grew hz g9 (by
    rcases hz' : blk A with _ | q
    · exact .inl rfl
    · right; intro e
      obtain ⟨a, h1⟩ := own_type hz hz'
      obtain ⟨b, h2⟩ := own_type OW8 e.symm
      rw [h1] at h2; injection h2 with h2; injection h2 with _ h2; cases h2)
  refine ⟨((X3.step v8).kp (Kp.of_grew g9 (X := fun g => blk Ao = some g) fun g h => h) hne).at_, ⟨by rw [evc_app]; exact own9, fun y hy => ?_⟩, g9.low (b34.trans (v8.mono hw)) (Nat.le_trans hw v8.size) fun q e => (own_blk_le OW8 e).1⟩
  rcases List.mem_append.1 hy with hy | hy
  · exact ⟨frz (own_below (OD y hy).1 v8), frz (own_below (OD y hy).2 v8)⟩
  · obtain rfl : y = _ := by simpa using hy
    have b68 := b7.trans (b8.mono b7.size)
    exact ⟨frz (own_base (own_below own6 b68) (Nat.le_trans hw vd.size)), frz (own_base (own_below own7 b8) (Nat.le_trans hw v6.size))⟩
section
variable {f : FV} {PA FA : Option Addr} {n pc m fc : Nat} {r0 : Int}
set_option maxRecDepth 1000000 in
set_option maxHeartbeats 3200000 in
theorem Range_cs (hcs : CsOf f PA n pc r0 FA m fc) {K : Option Addr} {kn kc : Nat} {ka : List UInt8} {B : Option Addr} {bn bc : Nat} {kb : List UInt8} (w : World) (G : Hid (Gl w)) (HF : Hid (Fl w f)) (hk : Hid (Rd w 1 K kn kc (bv ka))) (hb : Hid (Rd w 1 B bn bc (bv kb))) :
    Calls Tryz.prog 16 #[.agg #[.slice PA n pc, .int .i64 r0, .slice FA m fc], .slice K kn kc, .slice B bn bc] w (RgPost w f.f ka kb) := by
  obtain ⟨i0, hi, hz0, hz1, hz2⟩ := info_parts info_pair
  have hb0 : Below w.heap.size w (w.alloc (.cells #[.slice PA n pc, .int .i64 r0, .slice FA m fc] 29)) := bal _ _
  have HF0 := Lib.hid (HF.out.below hb0)
  have G0 := Lib.hid (G.out.below hb0)
  have K0 := Lib.hid (Rd.below hk.out hb0)
  have B0 := Lib.hid (Rd.below hb.out hb0)
  have hr0 := Lib.hid (cs_root hcs).1
  go_enter Tryz.func16, Tryz.ntmps16
  go_wp2_with fail
  go_at_call 45
  refine (shaped_cs hcs _ HF0).mono ?_
  rintro e w1 ⟨b, rfl, hsh, b1⟩
  have bw1 := hb0.trans (b1.mono hb0.size)
  by_cases hbt : b = true
  · subst hbt
    have SH := Lib.hid (hsh.1 rfl)
    have HF1 := Lib.hid (HF0.out.below b1)
    have G1 := Lib.hid (G0.out.below b1)
    have K1 := Lib.hid (Rd.below K0.out b1)
    have B1 := Lib.hid (Rd.below B0.out b1)
    have RY := Lib.hid (shp_rdy SH.out)
    have hr : r0 ≤ 100000 := by rw [hr0.out]; exact shp_root SH.out
    have Bx0 := Lib.hid ((Bx.new w #[.slice PA n pc, .int .i64 r0, .slice FA m fc] 29).step b1)
    have z0 := Bx0.out.at_ 0 (by simp)
    have z1 := Bx0.out.at_ 1 (by simp)
    have z2 := Bx0.out.at_ 2 (by simp)
    simp only [List.getElem?_cons_succ, List.getElem?_cons_zero] at z0 z1 z2
    clear hsh
    go_wp2_with fail
    go_at_call 46
    refine (read_in r0 r0 _ hcs G1 HF1 RY hr).mono ?_
    rintro e w2 ⟨⟨S, M, A, n7, c7, L, rok, rfl, _, iw, _⟩ | ⟨rok, rfl⟩, b2⟩
    · have ROK : Hid (Rok f.f.pg f.f.free f.f.root (S, its L)) := Lib.hid (by rw [hr0.out] at rok; exact rok)
      have ITM := Lib.hid (ROK.out.items (fun p hp => by obtain ⟨x, hx, rfl⟩ := List.mem_map.1 hp; exact RY.out.p256 x hx))
      have bw2 := bw1.trans (b2.mono bw1.size)
      have K2 := Lib.hid (Rd.below K1.out b2)
      have B2 := Lib.hid (Rd.below B1.out b2)
      have hL := Lib.hid (len3 iw.out.row)
      have hn7 : n7 ≤ 1000000 := by
        have h3 := hL.out
        have h4 := ITM.out.lim
        have h5 := ITM.out.sz
        have h6 := RY.out.n4
        simp only [FV.f, List.length_map] at h5
        simp only [its_len] at h4
        omega
      have hc7 := iw.out.row.nc
      have hc63 := iw.out.row.c63
      clear rok z0 z1 z2
      go_wp2_with fail
      go_loopw [11, 29] (fun ov iv wr => ∃ (j no : Nat) (Ao : Option Addr) (co : Nat) (Lo : List EV), j ≤ n7 ∧ no ≤ j ∧ iv = .int .i64 j ∧ ov = .slice Ao no co ∧ Hid (Lo.map EV.kv = kvs (rng ((its L).take j) ka kb)) ∧ Hid (Eo wr w2.heap.size Ao no co Lo) ∧ Below w2.heap.size w2 wr) (fun _ iv _ => (n7 - intOf iv).toNat)
      case atStart => exact ⟨0, 0, none, 0, [], by omega, by omega, rfl, rfl, Lib.hid rfl, Lib.hid ⟨World.ownsRow_nil _ _ _ _, by simp⟩, Below.refl _ _⟩
      case round =>
        obtain ⟨j, no, Ao, co, Lo, hj, hno, rfl, rfl, hlo, hcp, b3⟩ := hrel
        by_cases hlt : j < n7
        · have I3 := Lib.hid (iw.out.below b3)
          obtain ⟨g, o, x, rfl, hg, hx, a0, a1, a2⟩ := Rd.item I3.out.row hlt
          have hdx := I3.out.dat x (List.mem_of_getElem? hx)
          have hix := ITM.out.ok x.it (by unfold its; exact List.mem_map.2 ⟨x, List.mem_of_getElem? hx, rfl⟩)
          simp only [IV.kv, IV.vv] at a0 a1 a2
          obtain ⟨W3, hW3⟩ : ∃ W3, wr.alloc (.cells #[.slice x.kA x.k.length x.kc, .slice x.vA x.v.length x.vc, .int .i64 (x.ch : Int)] 96) = W3 := ⟨_, rfl⟩
          have b4 : Below wr.heap.size wr W3 := hW3 ▸ bal _ _
          obtain ⟨q3, hq3⟩ : ∃ q3, wr.heap.size = q3 := ⟨_, rfl⟩
          have X3 : Hid (Bx W3 q3 [.slice x.kA x.k.length x.kc, .slice x.vA x.v.length x.vc, .int .i64 (x.ch : Int)]) := hW3 ▸ Lib.hid (Bx.put _ hq3 #[.slice x.kA x.k.length x.kc, .slice x.vA x.v.length x.vc, .int .i64 (x.ch : Int)] 96)
          have T3 : Hid (Ty W3 q3 96) := by
            have := Ty.new wr #[.slice x.kA x.k.length x.kc, .slice x.vA x.v.length x.vc, .int .i64 (x.ch : Int)] 96
            rw [hW3, hq3] at this; exact Lib.hid this
          have K3 := Lib.hid (Rd.below (Rd.below K2.out b3) b4)
          have B3 := Lib.hid (Rd.below (Rd.below B2.out b3) b4)
          have XK := Lib.hid (hdx.1.below b4)
          have XV := Lib.hid (hdx.2.below b4)
          have b34 := b3.trans (b4.mono b3.size)
          have HX : Hid ((its L)[j]? = some x.it) := Lib.hid (by unfold its; rw [List.getElem?_map, hx]; rfl)
          have OW := Lib.hid (own_below hcp.out.own b4)
          have OD : Hid (∀ y ∈ Lo, W3.ownsRow w2.heap.size 5 1 (.slice y.A y.k.length y.c) y.k.length (bv y.k) ∧ W3.ownsRow w2.heap.size 5 1 (.slice y.B y.v.length y.d) y.v.length (bv y.v)) := Lib.hid fun y hy => ⟨own_below (hcp.out.dat y hy).1 b4, own_below (hcp.out.dat y hy).2 b4⟩
          have x0 := X3.out.at_ 0 (by simp)
          have x1 := X3.out.at_ 1 (by simp)
          have x2 := X3.out.at_ 2 (by simp)
          simp only [List.getElem?_cons_succ, List.getElem?_cons_zero] at x0 x1 x2
          have hkl : x.k.length ≤ 40 := hix.k2
          have hvl : x.v.length ≤ 120 := hix.v2
          have HW3 := Lib.hid hW3
          have HLT : Hid (Below wr.heap.size wr W3) := Lib.hid b4
          have BN : Hid (bn = kb.length) := Lib.hid (by have := B3.out.len; rw [bv_len] at this; omega)
          have hno2 : no ≤ n7 := by omega
          have SKIP : ∀ (h : inR ka kb x.it = false), rng ((its L).take (j + 1)) ka kb = rng ((its L).take j) ka kb := fun h => by
            unfold rng; rw [List.take_add_one, HX.out, List.filter_append]; simp [h]
          have TAKE : ∀ (h : inR ka kb x.it = true), rng ((its L).take (j + 1)) ka kb = rng ((its L).take j) ka kb ++ [x.it] := fun h => by
            unfold rng; rw [List.take_add_one, HX.out, List.filter_append]; simp [h]
          have SKIP := Lib.hid SKIP
          have TAKE := Lib.hid TAKE
          clear hix hdx hx hW3
          go_wp2_with fail
          rw [HW3.out]
          go_at_call 47
          refine (Compare_any W3 XK K3).mono ?_
          rintro e w4 ⟨rfl, rfl⟩
          by_cases c1 : cmpB x.k ka < 0
          · have e1 : decide (cmpB x.k ka < 0) = true := decide_eq_true c1
            have R : Hid (Lo.map EV.kv = kvs (rng ((its L).take (j + 1)) ka kb)) := Lib.hid (by
              rw [SKIP.out (by unfold inR; show (decide (0 ≤ cmpB x.k ka) && _) = false; rw [decide_eq_false (by omega)]; rfl)]; exact hlo.out)
            go_wp2_with fail
            go_roundw
            case rel => exact ⟨j + 1, no, Ao, co, Lo, by omega, by omega, by go_num, rfl, R, Lib.hid ⟨OW.out, OD.out⟩, b34⟩
            case measure => simp [intOf]; omega
          · have e1 : decide (cmpB x.k ka < 0) = false := decide_eq_false c1
            have CK : Hid (∀ U, Below W3.heap.size W3 U → Calls Tryz.prog 48 #[.slice x.kA x.k.length x.kc] U (Mv U 5 1 x.k.length (bv x.k))) := Lib.hid fun U hU => bclone_any U (Lib.hid (XK.out.below hU)) (bv_one _) (by omega)
            have CV : Hid (∀ U, Below W3.heap.size W3 U → Calls Tryz.prog 48 #[.slice x.vA x.v.length x.vc] U (Mv U 5 1 x.v.length (bv x.v))) := Lib.hid fun U hU => bclone_any U (Lib.hid (XV.out.below hU)) (bv_one _) (by omega)
            have KK : Hid (∀ U, Below W3.heap.size W3 U → U.cell? ⟨q3, 0, none⟩ = some (.slice x.kA x.k.length x.kc) ∧ U.cell? ⟨q3, 1, none⟩ = some (.slice x.vA x.v.length x.vc)) := Lib.hid fun U hU => by
              have h := X3.out.step hU
              have h0 := h.at_ 0 (by simp)
              have h1 := h.at_ 1 (by simp)
              exact ⟨by simpa using h0, by simpa using h1⟩
            have OG : Hid (∀ U, Below W3.heap.size W3 U → U.ownsRow w2.heap.size 48 2 (.slice Ao no co) no (evc Lo)) := Lib.hid fun U hU => own_below OW.out hU
            have vd : Below W3.heap.size W3 W3.drew := (Below.refl _ _).drew
            have hw23 : w2.heap.size ≤ W3.heap.size := b34.size
            have GG := Lib.hid fun (Ud U6 U7 U8 U9 : World) (A6 A7 A9 : Option Addr) (c6 c7 c9 : Nat) (h0 : Below W3.heap.size W3 Ud) (h1 : Hid (U6.ownsRow Ud.heap.size 5 1 (.slice A6 x.k.length c6) x.k.length (bv x.k))) (h2 : Below Ud.heap.size Ud U6) (h3 : Hid (U7.ownsRow U6.heap.size 5 1 (.slice A7 x.v.length c7) x.v.length (bv x.v))) (h4 : Below U6.heap.size U6 U7) (h5 : Below U7.heap.size U7 U8) h6 (h7 : Grew U8 Ao U9 A9) =>
              Lib.hid (rg_all (c9 := c9) hw23 b34 X3.out T3.out OW.out OD.out h0 h1.out h2 h3.out h4 h5 h6 h7)
            by_cases c2 : bn = 0
            · subst c2
              have INR : Hid (inR ka kb x.it = true) := Lib.hid (by unfold inR; show (decide (0 ≤ cmpB x.k ka) && (decide (kb.length = 0) || _)) = true; rw [← BN.out, decide_eq_true (by omega)]; rfl)
              go_wp2_with fail
              go_region_held3 (fun w' => w'.cell? ⟨q3, 0, none⟩ = some (.slice x.kA x.k.length x.kc) ∧ w'.cell? ⟨q3, 1, none⟩ = some (.slice x.vA x.v.length x.vc))
                (first | exact kk3 | exact KK.out _ v7 | exact KK.out _ v6 | exact KK.out _ vd | (refine KK.out _ ?_; repeat (first | exact v7 | exact vd | (refine Below.drew ?_) | (refine bel_alloc ?_ (Nat.le_refl _) _))))
                (first
                  | (go_at_call_of 48 (Value.slice x.kA x.k.length x.kc); refine (CK.out _ vd).mono ?_; rintro e w6 ⟨A6, c6, rfl, own6, b6⟩; have v6 := vd.trans (b6.mono vd.size))
                  | (go_at_call_of 48 (Value.slice x.vA x.v.length x.vc); refine (CV.out _ v6).mono ?_; rintro e w7 ⟨A7, c7', rfl, own7, b7⟩; have v7 := v6.trans (b7.mono v6.size); have z7 := Nat.le_trans hw23 v7.size)
                  | (refine step_app (news := (#[.slice A6 x.k.length c6, .slice A7 x.v.length c7'] : Array Value).toList) _ (by rfl) (.tmp 50) (.tmp 58) 45 (by rfl) w2.heap.size 48 i0 (.agg #[.slice none 0 0, .slice none 0 0]) 2 48 Tryz.underlying45 hi hz0 hz1 hz2 rfl (by omega) (by rfl) (OG.out _ ?_) (by rfl) ?_ (pone2 _ _ rfl rfl) (by omega) (by omega) ?_ ?_
                     · repeat (first | exact v7 | (refine Below.drew ?_) | (refine bel_alloc ?_ (Nat.le_refl _) _))
                     · repeat (first | exact rd_lit _ rfl _ 2 #[.slice A6 x.k.length c6, .slice A7 x.v.length c7'] 1 (by omega) rfl | refine Rd.drew ?_ | refine Rd.alloc ?_ _)
                     · first | omega | (simp; done) | (simp; omega)
                     intro A8 c8 W8 own8 g8
                     have F8 := GG.out _ _ _ _ _ _ _ _ _ _ _ vd own6 b6 own7 b7 (by repeat (first | exact Below.refl _ _ | (refine Below.drew ?_) | (refine bel_alloc ?_ (Nat.le_refl _) _))) own8 g8
                     clear own8 g8
                     have kk3 : W8.cell? ⟨q3, 0, none⟩ = some (.slice x.kA x.k.length x.kc) ∧ W8.cell? ⟨q3, 1, none⟩ = some (.slice x.vA x.v.length x.vc) := ⟨F8.out.1 0 (by simp), F8.out.1 1 (by simp)⟩))
              have E8 := Lib.hid F8.out.2.1
              have w8b := F8.out.2.2
              have R : Hid ((Lo ++ [(⟨A6, c6, x.k, A7, c7', x.v⟩ : EV)]).map EV.kv = kvs (rng ((its L).take (j + 1)) ka kb)) := Lib.hid (by
                rw [TAKE.out INR.out, List.map_append, hlo.out]; simp [kvs, EV.kv, IV.it])
              clear F8 kk3 own6 b6 own7 b7 v6 v7 z7 CK CV KK OG GG vd
              go_wp2_with fail
              go_roundw
              case rel => exact ⟨j + 1, no + 1, A8, c8, _, by omega, by omega, by go_num, rfl, R, E8, w8b⟩
              case measure => simp [intOf]; omega
            · have hb0' : decide ((bn : Int) > 0) = true := decide_eq_true (by omega)
              go_wp2_with fail
              go_at_call 47
              refine (Compare_any W3 XK B3).mono ?_
              rintro e w5 ⟨rfl, rfl⟩
              by_cases c3 : 0 ≤ cmpB x.k kb
              · have e3 : decide (0 ≤ cmpB x.k kb) = true := decide_eq_true c3
                have R : Hid (Lo.map EV.kv = kvs (rng ((its L).take (j + 1)) ka kb)) := Lib.hid (by
                  rw [SKIP.out (by unfold inR; show (_ && (decide (kb.length = 0) || decide (cmpB x.k kb < 0))) = false; rw [← BN.out, decide_eq_false (show ¬ bn = 0 by omega), decide_eq_false (show ¬ cmpB x.k kb < 0 by omega)]; simp)]; exact hlo.out)
                go_wp2_with fail
                go_roundw
                case rel => exact ⟨j + 1, no, Ao, co, Lo, by omega, by omega, by go_num, rfl, R, Lib.hid ⟨OW.out, OD.out⟩, b34⟩
                case measure => simp [intOf]; omega
              · have e3 : decide (0 ≤ cmpB x.k kb) = false := decide_eq_false c3
                have INR : Hid (inR ka kb x.it = true) := Lib.hid (by unfold inR; show (decide (0 ≤ cmpB x.k ka) && (_ || decide (cmpB x.k kb < 0))) = true; rw [decide_eq_true (show 0 ≤ cmpB x.k ka by omega), decide_eq_true (show cmpB x.k kb < 0 by omega)]; simp)
                go_wp2_with fail
                go_region_held3 (fun w' => w'.cell? ⟨q3, 0, none⟩ = some (.slice x.kA x.k.length x.kc) ∧ w'.cell? ⟨q3, 1, none⟩ = some (.slice x.vA x.v.length x.vc))
                  (first | exact kk3 | exact KK.out _ v7 | exact KK.out _ v6 | exact KK.out _ vd | (refine KK.out _ ?_; repeat (first | exact v7 | exact vd | (refine Below.drew ?_) | (refine bel_alloc ?_ (Nat.le_refl _) _))))
                  (first
                    | (go_at_call_of 48 (Value.slice x.kA x.k.length x.kc); refine (CK.out _ vd).mono ?_; rintro e w6 ⟨A6, c6, rfl, own6, b6⟩; have v6 := vd.trans (b6.mono vd.size))
                    | (go_at_call_of 48 (Value.slice x.vA x.v.length x.vc); refine (CV.out _ v6).mono ?_; rintro e w7 ⟨A7, c7', rfl, own7, b7⟩; have v7 := v6.trans (b7.mono v6.size); have z7 := Nat.le_trans hw23 v7.size)
                    | (refine step_app (news := (#[.slice A6 x.k.length c6, .slice A7 x.v.length c7'] : Array Value).toList) _ (by rfl) (.tmp 50) (.tmp 58) 45 (by rfl) w2.heap.size 48 i0 (.agg #[.slice none 0 0, .slice none 0 0]) 2 48 Tryz.underlying45 hi hz0 hz1 hz2 rfl (by omega) (by rfl) (OG.out _ ?_) (by rfl) ?_ (pone2 _ _ rfl rfl) (by omega) (by omega) ?_ ?_
                       · repeat (first | exact v7 | (refine Below.drew ?_) | (refine bel_alloc ?_ (Nat.le_refl _) _))
                       · repeat (first | exact rd_lit _ rfl _ 2 #[.slice A6 x.k.length c6, .slice A7 x.v.length c7'] 1 (by omega) rfl | refine Rd.drew ?_ | refine Rd.alloc ?_ _)
                       · first | omega | (simp; done) | (simp; omega)
                       intro A8 c8 W8 own8 g8
                       have F8 := GG.out _ _ _ _ _ _ _ _ _ _ _ vd own6 b6 own7 b7 (by repeat (first | exact Below.refl _ _ | (refine Below.drew ?_) | (refine bel_alloc ?_ (Nat.le_refl _) _))) own8 g8
                       clear own8 g8
                       have kk3 : W8.cell? ⟨q3, 0, none⟩ = some (.slice x.kA x.k.length x.kc) ∧ W8.cell? ⟨q3, 1, none⟩ = some (.slice x.vA x.v.length x.vc) := ⟨F8.out.1 0 (by simp), F8.out.1 1 (by simp)⟩))
                have E8 := Lib.hid F8.out.2.1
                have w8b := F8.out.2.2
                have R : Hid ((Lo ++ [(⟨A6, c6, x.k, A7, c7', x.v⟩ : EV)]).map EV.kv = kvs (rng ((its L).take (j + 1)) ka kb)) := Lib.hid (by
                  rw [TAKE.out INR.out, List.map_append, hlo.out]; simp [kvs, EV.kv, IV.it])
                clear F8 kk3 own6 b6 own7 b7 v6 v7 z7 CK CV KK OG GG vd
                go_wp2_with fail
                go_roundw
                case rel => exact ⟨j + 1, no + 1, A8, c8, _, by omega, by omega, by go_num, rfl, R, E8, w8b⟩
                case measure => simp [intOf]; omega
        · obtain rfl : j = n7 := by omega
          have hlo2 : Hid (Lo.map EV.kv = kvs (rng (its L) ka kb)) := Lib.hid (by rw [hlo.out, List.take_of_length_le (by rw [its_len]; have := hL.out; omega)])
          have hlen : Hid (no = (rng (its L) ka kb).length) := Lib.hid (by
            have h1 := congrArg List.length hlo2.out
            have h2 := (Rd.of_own hcp.out.own).len
            have h3 : ∀ l : List EV, (evc l).length = l.length * 2 := fun l => by induction l with
              | nil => rfl
              | cons y l ih => simp only [evc, List.flatMap_cons, List.length_append] at ih ⊢; rw [ih]; simp [EV.cs]; omega
            rw [h3] at h2
            simp only [kvs, List.length_map] at h1
            omega)
          have hon := (Rd.of_own hcp.out.own).nc
          have hoc := (Rd.of_own hcp.out.own).c63
          have ER : Hid (Er wr Ao no co Lo) := Lib.hid ⟨Rd.of_own hcp.out.own, fun x hx => ⟨Rd.of_own (hcp.out.dat x hx).1, Rd.of_own (hcp.out.dat x hx).2⟩⟩
          have bF := bw2.trans (b3.mono bw2.size)
          by_cases hbig : 1000 < no
          · have R : Hid (RngO f.f ka kb [] 5) := Lib.hid (.full (S, its L) SH.out ROK.out (by show 1000 < (rng (its L) ka kb).length; have := hlen.out; omega))
            have d1 : decide ((no : Int) > 1000) = true := decide_eq_true (by omega)
            go_wp2_with fail
            go_ret2
            exact RgPost.nil_ R.out bF
          · have R : Hid (RngO f.f ka kb (rng (its L) ka kb) 0) := Lib.hid (.ok (S, its L) SH.out ROK.out (by show (rng (its L) ka kb).length ≤ 1000; have := hlen.out; omega))
            have d1 : decide ((no : Int) > 1000) = false := decide_eq_false (by omega)
            go_wp2_with fail
            go_ret2
            exact ⟨_, 0, Lo, Ao, no, co, R.out, hlo2.out, rfl, ER, bF⟩
    · have R : Hid (RngO f.f ka kb [] 16) := Lib.hid (.bad fun h => by obtain ⟨s, hs⟩ := h.2; exact absurd hs (by have := rok s; rwa [hr0.out] at this))
      clear rok
      go_wp2_with fail
      go_ret2
      exact RgPost.nil_ R.out (bw1.trans (b2.mono bw1.size))
  · obtain rfl : b = false := by simpa using hbt
    have R : Hid (RngO f.f ka kb [] 16) := Lib.hid (.bad fun h => by have := hsh.2 h.1; cases this)
    clear hsh hbt
    go_wp2_with fail
    go_ret2
    exact RgPost.nil_ R.out bw1
end
end Go.Proofs.YtpmkohnljngbhaaGreatDoor.Pg
