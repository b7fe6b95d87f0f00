/- The walk of Range. -/
import Derived.Test.YtphiblmkgbkdmaaDoorPgX8
import Derived.Deep.RegionWith
namespace Go.Proofs.YtphiblmkgbkdmaaDoor.Pg
set_option linter.unusedVariables false
set_option linter.unusedSimpArgs false
open Go.RowKit Wl

/-- A key with its value, in memory. -/
structure EV where
  A : Option Addr
  c : Nat
  k : List UInt8
  B : Option Addr
  d : Nat
  v : List UInt8
def EV.kv (x : EV) : List UInt8 × List UInt8 := (x.k, x.v)
def EV.cs (x : EV) : List Value := [.slice x.A x.k.length x.c, .slice x.B x.v.length x.d]
def evc (l : List EV) : List Value := l.flatMap EV.cs
def kvs (l : List It) : List (List UInt8 × List UInt8) := l.map fun x => (x.k, x.v)
structure Er (w : World) (A : Option Addr) (n c : Nat) (L : List EV) : Prop where
  row : Rd w 2 A n c (evc L)
  dat : ∀ x ∈ L, Rd w 1 x.A x.k.length x.c (bv x.k) ∧ Rd w 1 x.B x.v.length x.d (bv x.v)
def RgPost (w : World) (F : Fi) (a b : List UInt8) (e : Ending) (w' : World) : Prop := ∃ (es : List It) (er : Int) (L : List EV) (A : Option Addr) (n c : Nat), RngO F a b es er ∧ L.map EV.kv = kvs es ∧ e = .returned (.tuple #[.slice A n c, .int .i64 er]) ∧ Hid (Er w' A n c L) ∧ Below w.heap.size w w'
theorem rd_nil2 (w : World) : Er w none 0 0 [] := ⟨Rd.nil_ _ _, by simp⟩
theorem RgPost.nil_ {w w' : World} {F : Fi} {a b : List UInt8} {er : Int} (h : RngO F a b [] er) (hb : Below w.heap.size w w') : RgPost w F a b (.returned (.tuple #[.slice none 0 0, .int .i64 er])) w' := ⟨[], er, [], none, 0, 0, h, rfl, rfl, Lib.hid (rd_nil2 _), hb⟩
/-- Entries of the call's own. -/
structure Eo (w : World) (b0 : Nat) (A : Option Addr) (n c : Nat) (L : List EV) : Prop where
  own : w.ownsRow b0 60 2 (.slice A n c) n (evc L)
  dat : ∀ x ∈ L, w.ownsRow b0 5 1 (.slice x.A x.k.length x.c) x.k.length (bv x.k) ∧ w.ownsRow b0 5 1 (.slice x.B x.v.length x.d) x.v.length (bv x.v)
theorem info_pair : (Tryd.prog.info? 60).map (fun i => (i.zero, i.size, i.bytes)) = some (some (.agg #[.slice none 0 0, .slice none 0 0]), 2, 48) := by kernel_rfl
theorem evc_app (a b : List EV) : evc (a ++ b) = evc a ++ evc b := by simp [evc]
theorem pone2 (a b : Value) (h1 : a.oneCell' = true) (h2 : b.oneCell' = true) : ∀ u ∈ (#[a, b] : Array Value).toList, u.oneCell' = true := by
  intro u hu
  simp at hu
  rcases hu with rfl | rfl
  · exact h1
  · exact h2
/-- An entry more. -/
theorem rg_all {W3 w2 Ud U6 U7 U8 U9 : World} {q3 no co c6 c7 c9 : Nat} {Ao A6 A7 A9 : Option Addr} {Lo : List EV} {x : IV} {cs : List Value} (hw : w2.heap.size ≤ W3.heap.size) (b34 : Below w2.heap.size w2 W3) (X3 : Bx W3 q3 cs) (T3 : Ty W3 q3 86)
    (OW : W3.ownsRow w2.heap.size 60 2 (.slice Ao no co) no (evc Lo)) (OD : ∀ y ∈ Lo, W3.ownsRow w2.heap.size 5 1 (.slice y.A y.k.length y.c) y.k.length (bv y.k) ∧ W3.ownsRow w2.heap.size 5 1 (.slice y.B y.v.length y.d) y.v.length (bv y.v))
    (vd : Below W3.heap.size W3 Ud) (own6 : U6.ownsRow Ud.heap.size 5 1 (.slice A6 x.k.length c6) x.k.length (bv x.k)) (b6 : Below Ud.heap.size Ud U6)
    (own7 : U7.ownsRow U6.heap.size 5 1 (.slice A7 x.v.length c7) x.v.length (bv x.v)) (b7 : Below U6.heap.size U6 U7) (b8 : Below U7.heap.size U7 U8)
    (own9 : U9.ownsRow w2.heap.size 60 2 (.slice A9 (no + 1) c9) (no + 1) (evc Lo ++ [.slice A6 x.k.length c6, .slice A7 x.v.length c7])) (g9 : Grew U8 Ao U9 A9) :
    (∀ j, j < cs.length → U9.cell? ⟨q3, j, none⟩ = cs[j]?) ∧ Eo U9 w2.heap.size A9 (no + 1) c9 (Lo ++ [⟨A6, c6, x.k, A7, c7, x.v⟩]) ∧ Below w2.heap.size w2 U9 := by
  have v6 := vd.trans (b6.mono vd.size)
  have v7 := v6.trans (b7.mono v6.size)
  have v8 := v7.trans (b8.mono v7.size)
  have OW8 := own_below OW v8
  have T8 := T3.step v8
  have hne : blk Ao ≠ some q3 := fun e => by
    obtain ⟨a, h1⟩ := own_type OW8 e
    obtain ⟨b, h2⟩ := T8
    rw [h1] at h2; injection h2 with h2; injection h2 with _ h2; cases h2
  have frz : ∀ {A : Option Addr} {n c b0 : Nat} {xs : List Value}, U8.ownsRow b0 5 1 (.slice A n c) n xs → U9.ownsRow b0 5 1 (.slice A n c) n xs := fun {A n c b0 xs} hz => own_grew hz g9 (by
    rcases hz' : blk A with _ | q
    · exact .inl rfl
    · right; intro e
      obtain ⟨a, h1⟩ := own_type hz hz'
      obtain ⟨b, h2⟩ := own_type OW8 e.symm
      rw [h1] at h2; injection h2 with h2; injection h2 with _ h2; cases h2)
  refine ⟨((X3.step v8).kp (Kp.of_grew g9 (X := fun g => blk Ao = some g) fun g h => h) hne).at_, ⟨by rw [evc_app]; exact own9, fun y hy => ?_⟩, g9.low (b34.trans (v8.mono hw)) (Nat.le_trans hw v8.size) fun q e => (own_blk_le OW8 e).1⟩
  rcases List.mem_append.1 hy with hy | hy
  · exact ⟨frz (own_below (OD y hy).1 v8), frz (own_below (OD y hy).2 v8)⟩
  · obtain rfl : y = _ := by simpa using hy
    have b68 := b7.trans (b8.mono b7.size)
    exact ⟨frz (own_base (own_below own6 b68) (Nat.le_trans hw vd.size)), frz (own_base (own_below own7 b8) (Nat.le_trans hw v6.size))⟩
section
variable {f : FV} {PA FA : Option Addr} {n pc m fc : Nat} {r0 : Int}
set_option maxRecDepth 20000 in
set_option maxHeartbeats 3200000 in
theorem Range_cs (hcs : CsOf f PA n pc r0 FA m fc) {K : Option Addr} {kn kc : Nat} {ka : List UInt8} {B : Option Addr} {bn bc : Nat} {kb : List UInt8} (w : World) (G : Hid (Gl w)) (HF : Hid (Fl w f)) (hk : Hid (Rd w 1 K kn kc (bv ka))) (hb : Hid (Rd w 1 B bn bc (bv kb))) :
    Calls Tryd.prog 21 #[.agg #[.slice PA n pc, .int .i64 r0, .slice FA m fc], .slice K kn kc, .slice B bn bc] w (RgPost w f.f ka kb) := by
  obtain ⟨i0, hi, hz0, hz1, hz2⟩ := info_parts info_pair
  have hb0 : Below w.heap.size w (w.alloc (.cells #[.slice PA n pc, .int .i64 r0, .slice FA m fc] 30)) := bal _ _
  have HF0 := Lib.hid (HF.out.below hb0)
  have G0 := Lib.hid (G.out.below hb0)
  have K0 := Lib.hid (Rd.below hk.out hb0)
  have B0 := Lib.hid (Rd.below hb.out hb0)
  have hr0 := Lib.hid (cs_root hcs).1
  go_enter Tryd.func21, Tryd.ntmps21
  go_wp2_with fail
  go_at_call 45
  refine (shaped_cs hcs _ HF0).mono ?_
  rintro e w1 ⟨b, rfl, hsh, b1⟩
  have bw1 := hb0.trans (b1.mono hb0.size)
  by_cases hbt : b = true
  · subst hbt
    have SH := Lib.hid (hsh.1 rfl)
    have HF1 := Lib.hid (HF0.out.below b1)
    have G1 := Lib.hid (G0.out.below b1)
    have K1 := Lib.hid (Rd.below K0.out b1)
    have B1 := Lib.hid (Rd.below B0.out b1)
    have RY := Lib.hid (shp_rdy SH.out)
    have hr : r0 ≤ 100000 := by rw [hr0.out]; exact shp_root SH.out
    have Bx0 := Lib.hid ((Bx.new w #[.slice PA n pc, .int .i64 r0, .slice FA m fc] 30).step b1)
    have z0 := Bx0.out.at_ 0 (by simp)
    have z1 := Bx0.out.at_ 1 (by simp)
    have z2 := Bx0.out.at_ 2 (by simp)
    simp only [List.getElem?_cons_succ, List.getElem?_cons_zero] at z0 z1 z2
    clear hsh
    go_wp2_with fail
    go_at_call 46
    refine (read_in r0 r0 _ hcs G1 HF1 RY hr).mono ?_
    rintro e w2 ⟨⟨S, M, A, n7, c7, L, rok, rfl, _, iw, _⟩ | ⟨rok, rfl⟩, b2⟩
    · have ROK : Hid (Rok f.f.pg f.f.free f.f.root (S, its L)) := Lib.hid (by rw [hr0.out] at rok; exact rok)
      have ITM := Lib.hid (ROK.out.items (fun p hp => by obtain ⟨x, hx, rfl⟩ := List.mem_map.1 hp; exact RY.out.p256 x hx))
      have bw2 := bw1.trans (b2.mono bw1.size)
      have K2 := Lib.hid (Rd.below K1.out b2)
      have B2 := Lib.hid (Rd.below B1.out b2)
      have hL := Lib.hid (len3 iw.out.row)
      have hn7 : n7 ≤ 1000000 := by
        have h3 := hL.out
        have h4 := ITM.out.lim
        have h5 := ITM.out.sz
        have h6 := RY.out.n4
        simp only [FV.f, List.length_map] at h5
        simp only [its_len] at h4
        omega
      have hc7 := iw.out.row.nc
      have hc63 := iw.out.row.c63
      clear rok z0 z1 z2
      go_wp2_with fail
      go_loopw [11, 29] (fun ov iv wr => ∃ (j no : Nat) (Ao : Option Addr) (co : Nat) (Lo : List EV), j ≤ n7 ∧ no ≤ j ∧ iv = .int .i64 j ∧ ov = .slice Ao no co ∧ Hid (Lo.map EV.kv = kvs (rng ((its L).take j) ka kb)) ∧ Hid (Eo wr w2.heap.size Ao no co Lo) ∧ Below w2.heap.size w2 wr) (fun _ iv _ => (n7 - intOf iv).toNat)
      case atStart => exact ⟨0, 0, none, 0, [], by omega, by omega, rfl, rfl, Lib.hid rfl, Lib.hid ⟨World.ownsRow_nil _ _ _ _, by simp⟩, Below.refl _ _⟩
      case round =>
        obtain ⟨j, no, Ao, co, Lo, hj, hno, rfl, rfl, hlo, hcp, b3⟩ := hrel
        by_cases hlt : j < n7
        · have I3 := Lib.hid (iw.out.below b3)
          obtain ⟨g, o, x, rfl, hg, hx, a0, a1, a2⟩ := Rd.item I3.out.row hlt
          have hdx := I3.out.dat x (List.mem_of_getElem? hx)
          have hix := ITM.out.ok x.it (by unfold its; exact List.mem_map.2 ⟨x, List.mem_of_getElem? hx, rfl⟩)
          simp only [IV.kv, IV.vv] at a0 a1 a2
          obtain ⟨W3, hW3⟩ : ∃ W3, wr.alloc (.cells #[.slice x.kA x.k.length x.kc, .slice x.vA x.v.length x.vc, .int .i64 (x.ch : Int)] 86) = W3 := ⟨_, rfl⟩
          have b4 : Below wr.heap.size wr W3 := hW3 ▸ bal _ _
          obtain ⟨q3, hq3⟩ : ∃ q3, wr.heap.size = q3 := ⟨_, rfl⟩
          have X3 : Hid (Bx W3 q3 [.slice x.kA x.k.length x.kc, .slice x.vA x.v.length x.vc, .int .i64 (x.ch : Int)]) := hW3 ▸ Lib.hid (Bx.put _ hq3 #[.slice x.kA x.k.length x.kc, .slice x.vA x.v.length x.vc, .int .i64 (x.ch : Int)] 86)
          have T3 : Hid (Ty W3 q3 86) := by
            have := Ty.new wr #[.slice x.kA x.k.length x.kc, .slice x.vA x.v.length x.vc, .int .i64 (x.ch : Int)] 86
            rw [hW3, hq3] at this; exact Lib.hid this
          have K3 := Lib.hid (Rd.below (Rd.below K2.out b3) b4)
          have B3 := Lib.hid (Rd.below (Rd.below B2.out b3) b4)
          have XK := Lib.hid (hdx.1.below b4)
          have XV := Lib.hid (hdx.2.below b4)
          have b34 := b3.trans (b4.mono b3.size)
          have HX : Hid ((its L)[j]? = some x.it) := Lib.hid (by unfold its; rw [List.getElem?_map, hx]; rfl)
          have OW := Lib.hid (own_below hcp.out.own b4)
          have OD : Hid (∀ y ∈ Lo, W3.ownsRow w2.heap.size 5 1 (.slice y.A y.k.length y.c) y.k.length (bv y.k) ∧ W3.ownsRow w2.heap.size 5 1 (.slice y.B y.v.length y.d) y.v.length (bv y.v)) := Lib.hid fun y hy => ⟨own_below (hcp.out.dat y hy).1 b4, own_below (hcp.out.dat y hy).2 b4⟩
          have x0 := X3.out.at_ 0 (by simp)
          have x1 := X3.out.at_ 1 (by simp)
          have x2 := X3.out.at_ 2 (by simp)
          simp only [List.getElem?_cons_succ, List.getElem?_cons_zero] at x0 x1 x2
          have hkl : x.k.length ≤ 40 := hix.k2
          have hvl : x.v.length ≤ 120 := hix.v2
          have HW3 := Lib.hid hW3
          have HLT : Hid (Below wr.heap.size wr W3) := Lib.hid b4
          have BN : Hid (bn = kb.length) := Lib.hid (by have := B3.out.len; rw [bv_len] at this; omega)
          have hno2 : no ≤ n7 := by omega
          have SKIP : ∀ (h : inR ka kb x.it = false), rng ((its L).take (j + 1)) ka kb = rng ((its L).take j) ka kb := fun h => by
            unfold rng; rw [List.take_add_one, HX.out, List.filter_append]; simp [h]
          have TAKE : ∀ (h : inR ka kb x.it = true), rng ((its L).take (j + 1)) ka kb = rng ((its L).take j) ka kb ++ [x.it] := fun h => by
            unfold rng; rw [List.take_add_one, HX.out, List.filter_append]; simp [h]
          have SKIP := Lib.hid SKIP
          have TAKE := Lib.hid TAKE
          clear hix hdx hx hW3
          go_wp2_with fail
          rw [HW3.out]
          go_at_call 54
          refine (Compare_any W3 XK K3).mono ?_
          rintro e w4 ⟨rfl, rfl⟩
          by_cases c1 : cmpB x.k ka < 0
          · have e1 : decide (cmpB x.k ka < 0) = true := decide_eq_true c1
            have R : Hid (Lo.map EV.kv = kvs (rng ((its L).take (j + 1)) ka kb)) := Lib.hid (by
              rw [SKIP.out (by unfold inR; show (decide (0 ≤ cmpB x.k ka) && _) = false; rw [decide_eq_false (by omega)]; rfl)]; exact hlo.out)
            go_wp2_with fail
            go_roundw
            case rel => exact ⟨j + 1, no, Ao, co, Lo, by omega, by omega, by go_num, rfl, R, Lib.hid ⟨OW.out, OD.out⟩, b34⟩
            case measure => simp [intOf]; omega
          · have e1 : decide (cmpB x.k ka < 0) = false := decide_eq_false c1
            have CK : Hid (∀ U, Below W3.heap.size W3 U → Calls Tryd.prog 50 #[.slice x.kA x.k.length x.kc] U (Mv U 5 1 x.k.length (bv x.k))) := Lib.hid fun U hU => bclone_any U (Lib.hid (XK.out.below hU)) (bv_one _) (by omega)
            have CV : Hid (∀ U, Below W3.heap.size W3 U → Calls Tryd.prog 50 #[.slice x.vA x.v.length x.vc] U (Mv U 5 1 x.v.length (bv x.v))) := Lib.hid fun U hU => bclone_any U (Lib.hid (XV.out.below hU)) (bv_one _) (by omega)
            have KK : Hid (∀ U, Below W3.heap.size W3 U → U.cell? ⟨q3, 0, none⟩ = some (.slice x.kA x.k.length x.kc) ∧ U.cell? ⟨q3, 1, none⟩ = some (.slice x.vA x.v.length x.vc)) := Lib.hid fun U hU => by
              have h := X3.out.step hU
              have h0 := h.at_ 0 (by simp)
              have h1 := h.at_ 1 (by simp)
              exact ⟨by simpa using h0, by simpa using h1⟩
            have OG : Hid (∀ U, Below W3.heap.size W3 U → U.ownsRow w2.heap.size 60 2 (.slice Ao no co) no (evc Lo)) := Lib.hid fun U hU => own_below OW.out hU
            have vd : Below W3.heap.size W3 W3.drew := (Below.refl _ _).drew
            have hw23 : w2.heap.size ≤ W3.heap.size := b34.size
            have GG := Lib.hid fun (Ud U6 U7 U8 U9 : World) (A6 A7 A9 : Option Addr) (c6 c7 c9 : Nat) (h0 : Below W3.heap.size W3 Ud) (h1 : Hid (U6.ownsRow Ud.heap.size 5 1 (.slice A6 x.k.length c6) x.k.length (bv x.k))) (h2 : Below Ud.heap.size Ud U6) (h3 : Hid (U7.ownsRow U6.heap.size 5 1 (.slice A7 x.v.length c7) x.v.length (bv x.v))) (h4 : Below U6.heap.size U6 U7) (h5 : Below U7.heap.size U7 U8) h6 (h7 : Grew U8 Ao U9 A9) =>
              Lib.hid (rg_all (c9 := c9) hw23 b34 X3.out T3.out OW.out OD.out h0 h1.out h2 h3.out h4 h5 h6 h7)
            by_cases c2 : bn = 0
            · subst c2
              have INR : Hid (inR ka kb x.it = true) := Lib.hid (by unfold inR; show (decide (0 ≤ cmpB x.k ka) && (decide (kb.length = 0) || _)) = true; rw [← BN.out, decide_eq_true (by omega)]; rfl)
              go_wp2_with fail
              go_region_held3 (fun w' => w'.cell? ⟨q3, 0, none⟩ = some (.slice x.kA x.k.length x.kc) ∧ w'.cell? ⟨q3, 1, none⟩ = some (.slice x.vA x.v.length x.vc))
                (first | exact kk3 | exact KK.out _ v7 | exact KK.out _ v6 | exact KK.out _ vd | (refine KK.out _ ?_; repeat (first | exact v7 | exact vd | (refine Below.drew ?_) | (refine bel_alloc ?_ (Nat.le_refl _) _))))
                (first
                  | (go_at_call_of 50 (Value.slice x.kA x.k.length x.kc); refine (CK.out _ vd).mono ?_; rintro e w6 ⟨A6, c6, rfl, own6, b6⟩; have v6 := vd.trans (b6.mono vd.size))
                  | (go_at_call_of 50 (Value.slice x.vA x.v.length x.vc); refine (CV.out _ v6).mono ?_; rintro e w7 ⟨A7, c7', rfl, own7, b7⟩; have v7 := v6.trans (b7.mono v6.size); have z7 := Nat.le_trans hw23 v7.size)
                  | (refine step_app (news := (#[.slice A6 x.k.length c6, .slice A7 x.v.length c7'] : Array Value).toList) _ (by rfl) (.tmp 50) (.tmp 58) 41 (by rfl) w2.heap.size 60 i0 (.agg #[.slice none 0 0, .slice none 0 0]) 2 48 Tryd.underlying41 hi hz0 hz1 hz2 rfl (by omega) (by rfl) (OG.out _ ?_) (by rfl) ?_ (pone2 _ _ rfl rfl) (by omega) (by omega) ?_ ?_
                     · repeat (first | exact v7 | (refine Below.drew ?_) | (refine bel_alloc ?_ (Nat.le_refl _) _))
                     · repeat (first | exact rd_lit _ rfl _ 2 #[.slice A6 x.k.length c6, .slice A7 x.v.length c7'] 1 (by omega) rfl | refine Rd.drew ?_ | refine Rd.alloc ?_ _)
                     · first | omega | (simp; done) | (simp; omega)
                     intro A8 c8 W8 own8 g8
                     have F8 := GG.out _ _ _ _ _ _ _ _ _ _ _ vd own6 b6 own7 b7 (by repeat (first | exact Below.refl _ _ | (refine Below.drew ?_) | (refine bel_alloc ?_ (Nat.le_refl _) _))) own8 g8
                     clear own8 g8
                     have kk3 : W8.cell? ⟨q3, 0, none⟩ = some (.slice x.kA x.k.length x.kc) ∧ W8.cell? ⟨q3, 1, none⟩ = some (.slice x.vA x.v.length x.vc) := ⟨F8.out.1 0 (by simp), F8.out.1 1 (by simp)⟩))
              have E8 := Lib.hid F8.out.2.1
              have w8b := F8.out.2.2
              have R : Hid ((Lo ++ [(⟨A6, c6, x.k, A7, c7', x.v⟩ : EV)]).map EV.kv = kvs (rng ((its L).take (j + 1)) ka kb)) := Lib.hid (by
                rw [TAKE.out INR.out, List.map_append, hlo.out]; simp [kvs, EV.kv, IV.it])
              clear F8 kk3 own6 b6 own7 b7 v6 v7 z7 CK CV KK OG GG vd
              go_wp2_with fail
              go_roundw
              case rel => exact ⟨j + 1, no + 1, A8, c8, _, by omega, by omega, by go_num, rfl, R, E8, w8b⟩
              case measure => simp [intOf]; omega
            · have hb0' : decide ((bn : Int) > 0) = true := decide_eq_true (by omega)
              go_wp2_with fail
              go_at_call 54
              refine (Compare_any W3 XK B3).mono ?_
              rintro e w5 ⟨rfl, rfl⟩
              by_cases c3 : 0 ≤ cmpB x.k kb
              · have e3 : decide (0 ≤ cmpB x.k kb) = true := decide_eq_true c3
                have R : Hid (Lo.map EV.kv = kvs (rng ((its L).take (j + 1)) ka kb)) := Lib.hid (by
                  rw [SKIP.out (by unfold inR; show (_ && (decide (kb.length = 0) || decide (cmpB x.k kb < 0))) = false; rw [← BN.out, decide_eq_false (show ¬ bn = 0 by omega), decide_eq_false (show ¬ cmpB x.k kb < 0 by omega)]; simp)]; exact hlo.out)
                go_wp2_with fail
                go_roundw
                case rel => exact ⟨j + 1, no, Ao, co, Lo, by omega, by omega, by go_num, rfl, R, Lib.hid ⟨OW.out, OD.out⟩, b34⟩
                case measure => simp [intOf]; omega
              · have e3 : decide (0 ≤ cmpB x.k kb) = false := decide_eq_false c3
                have INR : Hid (inR ka kb x.it = true) := Lib.hid (by unfold inR; show (decide (0 ≤ cmpB x.k ka) && (_ || decide (cmpB x.k kb < 0))) = true; rw [decide_eq_true (show 0 ≤ cmpB x.k ka by omega), decide_eq_true (show cmpB x.k kb < 0 by omega)]; simp)
                go_wp2_with fail
                go_region_held3 (fun w' => w'.cell? ⟨q3, 0, none⟩ = some (.slice x.kA x.k.length x.kc) ∧ w'.cell? ⟨q3, 1, none⟩ = some (.slice x.vA x.v.length x.vc))
                  (first | exact kk3 | exact KK.out _ v7 | exact KK.out _ v6 | exact KK.out _ vd | (refine KK.out _ ?_; repeat (first | exact v7 | exact vd | (refine Below.drew ?_) | (refine bel_alloc ?_ (Nat.le_refl _) _))))
                  (first
                    | (go_at_call_of 50 (Value.slice x.kA x.k.length x.kc); refine (CK.out _ vd).mono ?_; rintro e w6 ⟨A6, c6, rfl, own6, b6⟩; have v6 := vd.trans (b6.mono vd.size))
                    | (go_at_call_of 50 (Value.slice x.vA x.v.length x.vc); refine (CV.out _ v6).mono ?_; rintro e w7 ⟨A7, c7', rfl, own7, b7⟩; have v7 := v6.trans (b7.mono v6.size); have z7 := Nat.le_trans hw23 v7.size)
                    | (refine step_app (news := (#[.slice A6 x.k.length c6, .slice A7 x.v.length c7'] : Array Value).toList) _ (by rfl) (.tmp 50) (.tmp 58) 41 (by rfl) w2.heap.size 60 i0 (.agg #[.slice none 0 0, .slice none 0 0]) 2 48 Tryd.underlying41 hi hz0 hz1 hz2 rfl (by omega) (by rfl) (OG.out _ ?_) (by rfl) ?_ (pone2 _ _ rfl rfl) (by omega) (by omega) ?_ ?_
                       · repeat (first | exact v7 | (refine Below.drew ?_) | (refine bel_alloc ?_ (Nat.le_refl _) _))
                       · repeat (first | exact rd_lit _ rfl _ 2 #[.slice A6 x.k.length c6, .slice A7 x.v.length c7'] 1 (by omega) rfl | refine Rd.drew ?_ | refine Rd.alloc ?_ _)
                       · first | omega | (simp; done) | (simp; omega)
                       intro A8 c8 W8 own8 g8
                       have F8 := GG.out _ _ _ _ _ _ _ _ _ _ _ vd own6 b6 own7 b7 (by repeat (first | exact Below.refl _ _ | (refine Below.drew ?_) | (refine bel_alloc ?_ (Nat.le_refl _) _))) own8 g8
                       clear own8 g8
                       have kk3 : W8.cell? ⟨q3, 0, none⟩ = some (.slice x.kA x.k.length x.kc) ∧ W8.cell? ⟨q3, 1, none⟩ = some (.slice x.vA x.v.length x.vc) := ⟨F8.out.1 0 (by simp), F8.out.1 1 (by simp)⟩))
                have E8 := Lib.hid F8.out.2.1
                have w8b := F8.out.2.2
                have R : Hid ((Lo ++ [(⟨A6, c6, x.k, A7, c7', x.v⟩ : EV)]).map EV.kv = kvs (rng ((its L).take (j + 1)) ka kb)) := Lib.hid (by
                  rw [TAKE.out INR.out, List.map_append, hlo.out]; simp [kvs, EV.kv, IV.it])
                clear F8 kk3 own6 b6 own7 b7 v6 v7 z7 CK CV KK OG GG vd
                go_wp2_with fail
                go_roundw
                case rel => exact ⟨j + 1, no + 1, A8, c8, _, by omega, by omega, by go_num, rfl, R, E8, w8b⟩
                case measure => simp [intOf]; omega
        · obtain rfl : j = n7 := by omega
          have hlo2 : Hid (Lo.map EV.kv = kvs (rng (its L) ka kb)) := Lib.hid (by rw [hlo.out, List.take_of_length_le (by rw [its_len]; have := hL.out; omega)])
          have hlen : Hid (no = (rng (its L) ka kb).length) := Lib.hid (by
            have h1 := congrArg List.length hlo2.out
            have h2 := (Rd.of_own hcp.out.own).len
            have h3 : ∀ l : List EV, (evc l).length = l.length * 2 := fun l => by induction l with
              | nil => rfl
              | cons y l ih => simp only [evc, List.flatMap_cons, List.length_append] at ih ⊢; rw [ih]; simp [EV.cs]; omega
            rw [h3] at h2
            simp only [kvs, List.length_map] at h1
            omega)
          have hon := (Rd.of_own hcp.out.own).nc
          have hoc := (Rd.of_own hcp.out.own).c63
          have ER : Hid (Er wr Ao no co Lo) := Lib.hid ⟨Rd.of_own hcp.out.own, fun x hx => ⟨Rd.of_own (hcp.out.dat x hx).1, Rd.of_own (hcp.out.dat x hx).2⟩⟩
          have bF := bw2.trans (b3.mono bw2.size)
          by_cases hbig : 1000 < no
          · have R : Hid (RngO f.f ka kb [] 5) := Lib.hid (.full (S, its L) SH.out ROK.out (by show 1000 < (rng (its L) ka kb).length; have := hlen.out; omega))
            have d1 : decide ((no : Int) > 1000) = true := decide_eq_true (by omega)
            go_wp2_with fail
            go_ret2
            exact RgPost.nil_ R.out bF
          · have R : Hid (RngO f.f ka kb (rng (its L) ka kb) 0) := Lib.hid (.ok (S, its L) SH.out ROK.out (by show (rng (its L) ka kb).length ≤ 1000; have := hlen.out; omega))
            have d1 : decide ((no : Int) > 1000) = false := decide_eq_false (by omega)
            go_wp2_with fail
            go_ret2
            exact ⟨_, 0, Lo, Ao, no, co, R.out, hlo2.out, rfl, ER, bF⟩
    · have R : Hid (RngO f.f ka kb [] 16) := Lib.hid (.bad fun h => by obtain ⟨s, hs⟩ := h.2; exact absurd hs (by have := rok s; rwa [hr0.out] at this))
      clear rok
      go_wp2_with fail
      go_ret2
      exact RgPost.nil_ R.out (bw1.trans (b2.mono bw1.size))
  · obtain rfl : b = false := by simpa using hbt
    have R : Hid (RngO f.f ka kb [] 16) := Lib.hid (.bad fun h => by have := hsh.2 h.1; cases this)
    clear hsh hbt
    go_wp2_with fail
    go_ret2
    exact RgPost.nil_ R.out bw1
end
end Go.Proofs.YtphiblmkgbkdmaaDoor.Pg
