/- The walk of next. -/
import Derived.Test.YtphiblmkgbkdmaaDoorPgRc
import Derived.Test.YtphiblmkgbkdmaaDoorPgR5
import Derived.Test.YtphiblmkgbkdmaaDoorPgNt
import Derived.BigRegion
namespace Go.Proofs.YtphiblmkgbkdmaaDoor.Pg
set_option linter.unusedVariables false
set_option linter.unusedSimpArgs false
open Go.RowKit Wl

/-- What next answers. -/
def NxPost (w : World) (F : Fi) (es : List It) (o : Op) (j base : Nat) (e : Ending) (w' : World) : Prop :=
  ∃ (f : FV) (g q n c : Nat), e = .returned (.tuple #[f.val, .slice (some ⟨g, q, none⟩) n c, .bool true]) ∧ Hid (Nx F f.f es o j) ∧ Hid (FlT w' f) ∧ Hid (Ls w' base (some ⟨g, q, none⟩) n c (nxt es o)) ∧ Below w.heap.size w w'
theorem kp_res {W U : World} {R : Nat} {a b c : Value} (h : Kp W U (· = R)) : Kp W (((U.setCell ⟨R, 0, none⟩ a).setCell ⟨R, 1, none⟩ b).setCell ⟨R, 2, none⟩ c) (· = R) :=
  ((h.trans (Kp.of_set U ⟨R, 0, none⟩ a (X := (· = R)) rfl) fun _ _ e => e).trans (Kp.of_set _ ⟨R, 1, none⟩ b (X := (· = R)) rfl) fun _ _ e => e).trans (Kp.of_set _ ⟨R, 2, none⟩ c (X := (· = R)) rfl) fun _ _ e => e
theorem kp_dr {W U : World} {X : Nat → Prop} (h : Kp W U X) : Kp W U.drew X := ⟨h.os, h.tape, h.output, h.size, h.block⟩
theorem nx_end {w W : World} {R base j g q n ct : Nat} {f : FV} {F : Fi} {es : List It} {o : Op} {a b c : Value} (bw : Below w.heap.size w W) (hR : w.heap.size ≤ R) (hB : base ≤ R) (TY : Ty W R 30) (FT : FlT W f) (LS : Ls W base (some ⟨g, q, none⟩) n ct (nxt es o)) (NX : Nx F f.f es o j) (hv : f.val = .agg #[a, b, c]) :
    NxPost w F es o j base (.returned (.tuple #[.agg #[a, b, c], .slice (some ⟨g, q, none⟩) n ct, .bool true])) ((((W.setCell ⟨R, 0, none⟩ a).setCell ⟨R, 1, none⟩ b).setCell ⟨R, 2, none⟩ c).drew) ∧
    NxPost w F es o j base (.returned (.tuple #[.agg #[a, b, c], .slice (some ⟨g, q, none⟩) n ct, .bool true])) (((W.setCell ⟨R, 0, none⟩ a).setCell ⟨R, 1, none⟩ b).setCell ⟨R, 2, none⟩ c) := by
  have k := kp_res (a := a) (b := b) (c := c) (Kp.refl W (· = R))
  exact ⟨⟨f, g, q, n, ct, by rw [hv], Lib.hid NX, Lib.hid (FT.kp (kp_dr k) TY), Lib.hid (LS.kp hB (kp_dr k) TY), (res_below bw hR).drew⟩,
    ⟨f, g, q, n, ct, by rw [hv], Lib.hid NX, Lib.hid (FT.kp k TY), Lib.hid (LS.kp hB k TY), res_below bw hR⟩⟩
theorem lenB_val {kn vn : Nat} {k v : List UInt8} (h : kn = k.length) (h2 : vn = v.length) : (lenB kn vn = true ↔ lenKV k v) := lenB_kv h h2
section
variable {f : FV} {PA FA : Option Addr} {n pc m fc : Nat} {r0 : Int}
set_option maxRecDepth 20000 in
set_option maxHeartbeats 12800000 in
theorem next_cs (hcs : CsOf f PA n pc r0 FA m fc) {g q ln lc j base kn kc vn vc : Nat} {es : List It} {kd : Int} {KA VA : Option Addr} {k v : List UInt8} (w : World) (G : Hid (Gl w)) (HF : Hid (FlT w f)) (HL : Hid (Ls w base (some ⟨g, q, none⟩) ln lc es)) (hB : base ≤ w.heap.size)
    (hk : Hid (Rd w 1 KA kn kc (bv k))) (hv : Hid (Rd w 1 VA vn vc (bv v))) (sk : Hid (∀ g, 0 < kn → blk KA = some g → Sf w base g)) (sv : Hid (∀ g, 0 < vn → blk VA = some g → Sf w base g)) (SK : Hid (Sok f.f es j)) (hj : j ≤ 61) :
    Calls Tryd.prog 27 #[.agg #[.slice PA n pc, .int .i64 r0, .slice FA m fc], .slice (some ⟨g, q, none⟩) ln lc, .agg #[.int .i64 kd, .slice KA kn kc, .slice VA vn vc]] w (NxPost w f.f es ⟨kd, k, v⟩ j base) := by
  have KN : Hid (kn = k.length) := Lib.hid (by have := hk.out.len; rw [bv_len] at this; omega)
  have VN : Hid (vn = v.length) := Lib.hid (by have := hv.out.len; rw [bv_len] at this; omega)
  have hln : ln ≤ 61 := by have := HL.out.lr.len; have := SK.out.n; omega
  have SR : Hid (Srt es) := Lib.hid SK.out.srt
  have bw := Below.refl w.heap.size w
  have SFK : Hid (∀ U, Below w.heap.size w U → (∀ g, 0 < kn → blk KA = some g → Sf U base g) ∧ (∀ g, 0 < vn → blk VA = some g → Sf U base g)) := Lib.hid fun U hU => ⟨fun g h0 e => sf_nx (sk.out g h0 e) (rd_lt hk.out h0 e) hU, fun g h0 e => sf_nx (sv.out g h0 e) (rd_lt hv.out h0 e) hU⟩
  obtain ⟨p, hp⟩ : ∃ p, w.heap.size = p := ⟨_, rfl⟩
  obtain ⟨W0, hW0⟩ : ∃ W0, w.alloc (.cells #[.slice PA n pc, .int .i64 r0, .slice FA m fc] 30) = W0 := ⟨_, rfl⟩
  have b0 : Below w.heap.size w W0 := hW0 ▸ bal _ _
  have X : Hid (Bx W0 p [.slice PA n pc, .int .i64 r0, .slice FA m fc]) := hW0 ▸ Lib.hid (Bx.put _ hp #[.slice PA n pc, .int .i64 r0, .slice FA m fc] 30)
  have TX : Hid (Ty W0 p 30) := hW0 ▸ hp ▸ Lib.hid (Ty.new _ _ _)
  have HW0 := Lib.hid hW0
  clear hW0
  replace bw := bw.trans (b0.mono bw.size)
  replace G := Lib.hid (G.out.nx b0)
  replace HF := Lib.hid (HF.out.nx b0)
  replace HL := Lib.hid (HL.out.nx b0)
  replace hk := Lib.hid (hk.out.nx b0)
  replace hv := Lib.hid (hv.out.nx b0)
  obtain ⟨p5, hp5⟩ : ∃ p5, W0.heap.size = p5 := ⟨_, rfl⟩
  obtain ⟨W1, hW1⟩ : ∃ W1, W0.alloc (.cells #[.int .i64 kd, .slice KA kn kc, .slice VA vn vc] 52) = W1 := ⟨_, rfl⟩
  have b1 : Below W0.heap.size W0 W1 := hW1 ▸ bal _ _
  have O : Hid (Bx W1 p5 [.int .i64 kd, .slice KA kn kc, .slice VA vn vc]) := hW1 ▸ Lib.hid (Bx.put _ hp5 #[.int .i64 kd, .slice KA kn kc, .slice VA vn vc] 52)
  have TO : Hid (Ty W1 p5 52) := hW1 ▸ hp5 ▸ Lib.hid (Ty.new _ _ _)
  have HW1 := Lib.hid hW1
  clear hW1
  replace bw := bw.trans (b1.mono bw.size)
  replace G := Lib.hid (G.out.nx b1)
  replace HF := Lib.hid (HF.out.nx b1)
  replace HL := Lib.hid (HL.out.nx b1)
  replace hk := Lib.hid (hk.out.nx b1)
  replace hv := Lib.hid (hv.out.nx b1)
  replace X := Lib.hid (X.out.nx b1)
  replace TX := Lib.hid (TX.out.nx b1)
  obtain ⟨p6, hp6⟩ : ∃ p6, W1.heap.size = p6 := ⟨_, rfl⟩
  obtain ⟨W2, hW2⟩ : ∃ W2, W1.alloc (.cells #[.slice none 0 0, .int .i64 0, .slice none 0 0] 30) = W2 := ⟨_, rfl⟩
  have b2 : Below W1.heap.size W1 W2 := hW2 ▸ bal _ _
  have Y : Hid (Bx W2 p6 [.slice none 0 0, .int .i64 0, .slice none 0 0]) := hW2 ▸ Lib.hid (Bx.put _ hp6 #[.slice none 0 0, .int .i64 0, .slice none 0 0] 30)
  have TY : Hid (Ty W2 p6 30) := hW2 ▸ hp6 ▸ Lib.hid (Ty.new _ _ _)
  have HW2 := Lib.hid hW2
  clear hW2
  replace bw := bw.trans (b2.mono bw.size)
  replace G := Lib.hid (G.out.nx b2)
  replace HF := Lib.hid (HF.out.nx b2)
  replace HL := Lib.hid (HL.out.nx b2)
  replace hk := Lib.hid (hk.out.nx b2)
  replace hv := Lib.hid (hv.out.nx b2)
  replace X := Lib.hid (X.out.nx b2)
  replace TX := Lib.hid (TX.out.nx b2)
  replace O := Lib.hid (O.out.nx b2)
  have e5 : p5 = p + 1 := by rw [← hp5, ← HW0.out, ← hp]; simp
  subst e5
  have e6 : p6 = p + 1 + 1 := by rw [← hp6, ← HW1.out, ← hp5]; simp
  subst e6
  have hwp : w.heap.size ≤ p := by omega
  have z0 := X.out.at_ 0 (by simp)
  have z1 := X.out.at_ 1 (by simp)
  have z2 := X.out.at_ 2 (by simp)
  simp only [List.getElem?_cons_succ, List.getElem?_cons_zero] at z0 z1 z2
  have o0 := O.out.at_ 0 (by simp)
  have o1 := O.out.at_ 1 (by simp)
  have o2 := O.out.at_ 2 (by simp)
  simp only [List.getElem?_cons_succ, List.getElem?_cons_zero] at o0 o1 o2
  go_enter Tryd.func27, Tryd.ntmps27
  go_upto_region 1 with fail
  rw [HW0.out, HW1.out, HW2.out]
  by_cases hk0 : kd = 0
  · subst hk0
    have HQ := Lib.hid (fun (G : Fi) (er : Int) (ho : PutO f.f k v G er) => ho)
    go_wp2_with fail
    go_at_call 19
    refine (Put_cs hcs _ G (Lib.hid HF.out.fl) hk hv).mono ?_
    rintro e w3 ⟨f3, er, ho, rfl, F3, b3⟩
    have PO := Lib.hid ho
    obtain ⟨PA3, n3, pc3, r3, FA3, m3, fc3, V3⟩ := fv_of f3
    rw [V3.out.val]
    clear ho z0 z1 z2 o0 o1 o2
    replace bw := bw.trans (b3.mono bw.size)
    replace G := Lib.hid (G.out.nx b3)
    replace HF := Lib.hid (HF.out.nx b3)
    replace HL := Lib.hid (HL.out.nx b3)
    replace hk := Lib.hid (hk.out.nx b3)
    replace hv := Lib.hid (hv.out.nx b3)
    replace X := Lib.hid (X.out.nx b3)
    replace TX := Lib.hid (TX.out.nx b3)
    replace O := Lib.hid (O.out.nx b3)
    replace Y := Lib.hid (Y.out.nx b3)
    replace TY := Lib.hid (TY.out.nx b3)
    have hlt9 := Y.out.lt
    obtain ⟨p9, hp9⟩ : ∃ p9, w3.heap.size = p9 := ⟨_, rfl⟩
    obtain ⟨W4, hW4⟩ : ∃ W4, w3.alloc (.cells #[.slice PA3 n3 pc3, .int .i64 r3, .slice FA3 m3 fc3] 30) = W4 := ⟨_, rfl⟩
    have b4 : Below w3.heap.size w3 W4 := hW4 ▸ bal _ _
    have Z : Hid (Bx W4 p9 [.slice PA3 n3 pc3, .int .i64 r3, .slice FA3 m3 fc3]) := hW4 ▸ Lib.hid (Bx.put _ hp9 #[.slice PA3 n3 pc3, .int .i64 r3, .slice FA3 m3 fc3] 30)
    have TZ : Hid (Ty W4 p9 30) := hW4 ▸ hp9 ▸ Lib.hid (Ty.new _ _ _)
    have HW4 := Lib.hid hW4
    clear hW4
    replace bw := bw.trans (b4.mono bw.size)
    replace G := Lib.hid (G.out.nx b4)
    replace HF := Lib.hid (HF.out.nx b4)
    replace HL := Lib.hid (HL.out.nx b4)
    replace hk := Lib.hid (hk.out.nx b4)
    replace hv := Lib.hid (hv.out.nx b4)
    replace X := Lib.hid (X.out.nx b4)
    replace TX := Lib.hid (TX.out.nx b4)
    replace O := Lib.hid (O.out.nx b4)
    replace Y := Lib.hid (Y.out.nx b4)
    replace TY := Lib.hid (TY.out.nx b4)
    replace F3 := Lib.hid (F3.out.nx b4)
    have z0 := X.out.at_ 0 (by simp)
    have z1 := X.out.at_ 1 (by simp)
    have z2 := X.out.at_ 2 (by simp)
    simp only [List.getElem?_cons_succ, List.getElem?_cons_zero] at z0 z1 z2
    have o0 := O.out.at_ 0 (by simp)
    have o1 := O.out.at_ 1 (by simp)
    have o2 := O.out.at_ 2 (by simp)
    simp only [List.getElem?_cons_succ, List.getElem?_cons_zero] at o0 o1 o2
    have y0 := Y.out.at_ 0 (by simp)
    have y1 := Y.out.at_ 1 (by simp)
    have y2 := Y.out.at_ 2 (by simp)
    simp only [List.getElem?_cons_succ, List.getElem?_cons_zero] at y0 y1 y2
    have x0 := Z.out.at_ 0 (by simp)
    have x1 := Z.out.at_ 1 (by simp)
    have x2 := Z.out.at_ 2 (by simp)
    simp only [List.getElem?_cons_succ, List.getElem?_cons_zero] at x0 x1 x2
    have ne1 : p9 ≠ p + 1 + 1 := by omega
    have ne2 : p + 1 + 1 ≠ p9 := by omega
    clear hlt9
    go_upto_region 3 with fail
    rw [HW4.out]
    go_wp2_with fail
    go_at_call 24
    refine (rLengths_any _).mono ?_
    rintro e w' ⟨rfl, rfl⟩
    have g0 := Y.out.fz 0 (by simp)
    have g1 := Y.out.fz 1 (by simp)
    have g2 := Y.out.fz 2 (by simp)
    by_cases q1 : lenB kn vn = true
    · have hl : lenKV k v := (lenB_val KN.out VN.out).1 q1
      obtain ⟨rfl, hx, hne⟩ := nx_put SK.out hj hl PO.out
      have HX := Lib.hid hx
      have HNE := Lib.hid hne.symm
      have hzW := bw.size
      have RP : Hid (∀ U, Below W4.heap.size W4 U → Calls Tryd.prog 57 #[.slice (some ⟨g, q, none⟩) ln lc, .slice KA kn kc, .slice VA vn vc] U (LsPost U base (upd es k [⟨k, v, 0⟩]))) := Lib.hid fun U hU => by
        have hU2 := bw.trans (hU.mono bw.size)
        have sf := SFK.out U hU2
        exact rPut_any U SR (by omega) (Nat.le_trans hB hU2.size) (Lib.hid (HL.out.nx hU)) (Lib.hid (hk.out.nx hU)) (Lib.hid (hv.out.nx hU)) (Lib.hid sf.1) (Lib.hid sf.2)
      rw [q1]
      clear hx hne hl q1 sk sv
      go_wp2_with fail
      have KK : Hid (∀ U, Kp W4 U (· = p + 1 + 1) → U.cell? ⟨p9, 0, none⟩ = some (.slice PA3 n3 pc3) ∧ U.cell? ⟨p9, 1, none⟩ = some (.int .i64 r3) ∧ U.cell? ⟨p9, 2, none⟩ = some (.slice FA3 m3 fc3) ∧ U.cell? ⟨p + 1, 1, none⟩ = some (.slice KA kn kc) ∧ U.cell? ⟨p + 1, 2, none⟩ = some (.slice VA vn vc)) := Lib.hid fun U hU => by
        have h := Z.out.kp hU (by omega)
        have h' := O.out.kp hU (by omega)
        have a0 := h.at_ 0 (by simp)
        have a1 := h.at_ 1 (by simp)
        have a2 := h.at_ 2 (by simp)
        have a3 := h'.at_ 1 (by simp)
        have a4 := h'.at_ 2 (by simp)
        exact ⟨by simpa using a0, by simpa using a1, by simpa using a2, by simpa using a3, by simpa using a4⟩
      have YG : Hid (∀ U, Below W4.heap.size W4 U → U.cell? ⟨p + 1 + 1, 0, none⟩ = some (.slice none 0 0) ∧ U.cell? ⟨p + 1 + 1, 1, none⟩ = some (.int .i64 0) ∧ U.cell? ⟨p + 1 + 1, 2, none⟩ = some (.slice none 0 0) ∧ U.frozen? ⟨p + 1 + 1, 0, none⟩ = false ∧ U.frozen? ⟨p + 1 + 1, 1, none⟩ = false ∧ U.frozen? ⟨p + 1 + 1, 2, none⟩ = false) := Lib.hid fun U hU => by
        have h := Y.out.nx hU
        have a0 := h.at_ 0 (by simp)
        have a1 := h.at_ 1 (by simp)
        have a2 := h.at_ 2 (by simp)
        have t0 := h.fz 0 (by simp)
        have t1 := h.fz 1 (by simp)
        have t2 := h.fz 2 (by simp)
        exact ⟨by simpa using a0, by simpa using a1, by simpa using a2, t0, t1, t2⟩
      have vd : Below W4.heap.size W4 W4.drew := (Below.refl _ _).drew
      clear g0 g1 g2
      go_region_held3 (fun w' => w'.cell? ⟨p9, 0, none⟩ = some (.slice PA3 n3 pc3) ∧ w'.cell? ⟨p9, 1, none⟩ = some (.int .i64 r3) ∧ w'.cell? ⟨p9, 2, none⟩ = some (.slice FA3 m3 fc3) ∧ w'.cell? ⟨p + 1, 1, none⟩ = some (.slice KA kn kc) ∧ w'.cell? ⟨p + 1, 2, none⟩ = some (.slice VA vn vc))
        ((refine KK.out _ ?_; repeat (first | exact k5 | exact Kp.refl _ _ | (refine kp_res ?_) | (refine kp_dr ?_))))
        (first
          | (go_at_call 57; refine (RP.out _ vd).mono ?_; rintro e w5 ⟨g5, q5, n5, c5, rfl, LS5, b5⟩; have v5 := vd.trans (b5.mono vd.size); have k5 := Kp.of_below v5 (· = p + 1 + 1); have yy := YG.out _ v5; have y0 := yy.1; have y1 := yy.2.1; have y2 := yy.2.2.1; have t0 := yy.2.2.2.1; have t1 := yy.2.2.2.2.1; have t2 := yy.2.2.2.2.2))
      all_goals
        have F5 := Lib.hid (F3.out.nx v5)
        have T5 := Lib.hid (TY.out.nx v5)
        have Y5 := Lib.hid (Y.out.nx v5)
        have bw5 := bw.trans (v5.mono bw.size)
        obtain ⟨C0, C1, C2⟩ := res_cells Y5.out
        have C0 := Lib.hid C0
        have C1 := Lib.hid C1
        have C2 := Lib.hid C2
        have END := Lib.hid (nx_end (a := .slice PA3 n3 pc3) (b := .int .i64 r3) (c := .slice FA3 m3 fc3) bw5 (by omega) (by omega) T5.out F5.out (HNE.out ▸ LS5.out) HX.out V3.out.val)
        clear yy y0 y1 y2 t0 t1 t2 k5 v5 b5 vd
        go_wp2_with fail
        refine bodyPost_ret (v := .tuple #[.agg #[.slice PA3 n3 pc3, .int .i64 r3, .slice FA3 m3 fc3], .slice (some ⟨g5, q5, none⟩) n5 c5, .bool true]) (by simp [results, Tryd.results27, go_sem, C0.out, C1.out, C2.out]) rfl ?_
        first | exact END.out.1 | exact END.out.2
    · have hl : ¬ lenKV k v := fun h => q1 ((lenB_val KN.out VN.out).2 h)
      obtain ⟨rfl, hz, hx⟩ := nx_put_no SK.out hl PO.out
      have HX := Lib.hid hx
      have HNE : Hid (es = nxt es ⟨0, k, v⟩) := Lib.hid (by unfold nxt; rw [if_pos rfl, if_neg hl])
      obtain rfl : n3 = 0 := by rw [V3.out.len, hz]; rfl
      rw [show lenB kn vn = false by simpa using q1]
      clear hx hz hl q1
      go_wp2_with fail
      obtain ⟨C0, C1, C2⟩ := res_cells Y.out
      have C0 := Lib.hid C0
      have C1 := Lib.hid C1
      have C2 := Lib.hid C2
      have END := Lib.hid (nx_end (a := .slice PA n pc) (b := .int .i64 r0) (c := .slice FA m fc) bw (by omega) (by omega) TY.out HF.out (HNE.out ▸ HL.out) HX.out (cs_val hcs))
      go_region
      all_goals
        go_wp2_with fail
        refine bodyPost_ret (v := .tuple #[.agg #[.slice PA n pc, .int .i64 r0, .slice FA m fc], .slice (some ⟨g, q, none⟩) ln lc, .bool true]) (by simp [results, Tryd.results27, go_sem, C0.out, C1.out, C2.out]) rfl ?_
        first | exact END.out.1 | exact END.out.2
  have d0 : decide (kd = 0) = false := decide_eq_false hk0
  have d0' : (kd == 0) = false := by simpa using hk0
  by_cases hk1 : kd = 1
  · subst hk1
    go_wp2_with fail
    go_at_call 20
    refine (Delete_cs hcs _ G (Lib.hid HF.out.fl) hk).mono ?_
    rintro e w3 ⟨f3, er, ho, rfl, F3, b3⟩
    have PO := Lib.hid ho
    obtain ⟨PA3, n3, pc3, r3, FA3, m3, fc3, V3⟩ := fv_of f3
    rw [V3.out.val]
    clear ho z0 z1 z2 o0 o1 o2
    replace bw := bw.trans (b3.mono bw.size)
    replace G := Lib.hid (G.out.nx b3)
    replace HF := Lib.hid (HF.out.nx b3)
    replace HL := Lib.hid (HL.out.nx b3)
    replace hk := Lib.hid (hk.out.nx b3)
    replace hv := Lib.hid (hv.out.nx b3)
    replace X := Lib.hid (X.out.nx b3)
    replace TX := Lib.hid (TX.out.nx b3)
    replace O := Lib.hid (O.out.nx b3)
    replace Y := Lib.hid (Y.out.nx b3)
    replace TY := Lib.hid (TY.out.nx b3)
    have hlt9 := Y.out.lt
    obtain ⟨p9, hp9⟩ : ∃ p9, w3.heap.size = p9 := ⟨_, rfl⟩
    obtain ⟨W4, hW4⟩ : ∃ W4, w3.alloc (.cells #[.slice PA3 n3 pc3, .int .i64 r3, .slice FA3 m3 fc3] 30) = W4 := ⟨_, rfl⟩
    have b4 : Below w3.heap.size w3 W4 := hW4 ▸ bal _ _
    have Z : Hid (Bx W4 p9 [.slice PA3 n3 pc3, .int .i64 r3, .slice FA3 m3 fc3]) := hW4 ▸ Lib.hid (Bx.put _ hp9 #[.slice PA3 n3 pc3, .int .i64 r3, .slice FA3 m3 fc3] 30)
    have TZ : Hid (Ty W4 p9 30) := hW4 ▸ hp9 ▸ Lib.hid (Ty.new _ _ _)
    have HW4 := Lib.hid hW4
    clear hW4
    replace bw := bw.trans (b4.mono bw.size)
    replace G := Lib.hid (G.out.nx b4)
    replace HF := Lib.hid (HF.out.nx b4)
    replace HL := Lib.hid (HL.out.nx b4)
    replace hk := Lib.hid (hk.out.nx b4)
    replace hv := Lib.hid (hv.out.nx b4)
    replace X := Lib.hid (X.out.nx b4)
    replace TX := Lib.hid (TX.out.nx b4)
    replace O := Lib.hid (O.out.nx b4)
    replace Y := Lib.hid (Y.out.nx b4)
    replace TY := Lib.hid (TY.out.nx b4)
    replace F3 := Lib.hid (F3.out.nx b4)
    have z0 := X.out.at_ 0 (by simp)
    have z1 := X.out.at_ 1 (by simp)
    have z2 := X.out.at_ 2 (by simp)
    simp only [List.getElem?_cons_succ, List.getElem?_cons_zero] at z0 z1 z2
    have o0 := O.out.at_ 0 (by simp)
    have o1 := O.out.at_ 1 (by simp)
    have o2 := O.out.at_ 2 (by simp)
    simp only [List.getElem?_cons_succ, List.getElem?_cons_zero] at o0 o1 o2
    have y0 := Y.out.at_ 0 (by simp)
    have y1 := Y.out.at_ 1 (by simp)
    have y2 := Y.out.at_ 2 (by simp)
    simp only [List.getElem?_cons_succ, List.getElem?_cons_zero] at y0 y1 y2
    have x0 := Z.out.at_ 0 (by simp)
    have x1 := Z.out.at_ 1 (by simp)
    have x2 := Z.out.at_ 2 (by simp)
    simp only [List.getElem?_cons_succ, List.getElem?_cons_zero] at x0 x1 x2
    have ne1 : p9 ≠ p + 1 + 1 := by omega
    have ne2 : p + 1 + 1 ≠ p9 := by omega
    clear hlt9
    go_upto_region 8 with fail
    rw [HW4.out]
    go_wp2_with fail
    go_at_call 24
    refine (rLengths_any _).mono ?_
    rintro e w' ⟨rfl, rfl⟩
    have g0 := Y.out.fz 0 (by simp)
    have g1 := Y.out.fz 1 (by simp)
    have g2 := Y.out.fz 2 (by simp)
    by_cases q1 : lenB kn 0 = true
    · have hl : lenK k := (lenB_key KN.out).1 q1
      have HLK := Lib.hid hl
      rw [q1]
      clear q1 hl d0 d0' hk0
      go_wp2_with fail
      go_at_call 41
      refine (rFind_any _ SR (Lib.hid HL.out.lr) hk).mono ?_
      rintro e w5 ⟨rfl, b5⟩
      obtain ⟨I, hI⟩ : ∃ I, ix es k = I := ⟨_, rfl⟩
      rw [hI]
      clear hI z0 z1 z2 o0 o1 o2 y0 y1 y2 x0 x1 x2 g0 g1 g2
      replace bw := bw.trans (b5.mono bw.size)
      replace G := Lib.hid (G.out.nx b5)
      replace HF := Lib.hid (HF.out.nx b5)
      replace HL := Lib.hid (HL.out.nx b5)
      replace hk := Lib.hid (hk.out.nx b5)
      replace hv := Lib.hid (hv.out.nx b5)
      replace X := Lib.hid (X.out.nx b5)
      replace TX := Lib.hid (TX.out.nx b5)
      replace O := Lib.hid (O.out.nx b5)
      replace Y := Lib.hid (Y.out.nx b5)
      replace TY := Lib.hid (TY.out.nx b5)
      replace F3 := Lib.hid (F3.out.nx b5)
      replace Z := Lib.hid (Z.out.nx b5)
      have z0 := X.out.at_ 0 (by simp)
      have z1 := X.out.at_ 1 (by simp)
      have z2 := X.out.at_ 2 (by simp)
      simp only [List.getElem?_cons_succ, List.getElem?_cons_zero] at z0 z1 z2
      have o0 := O.out.at_ 0 (by simp)
      have o1 := O.out.at_ 1 (by simp)
      have o2 := O.out.at_ 2 (by simp)
      simp only [List.getElem?_cons_succ, List.getElem?_cons_zero] at o0 o1 o2
      have y0 := Y.out.at_ 0 (by simp)
      have y1 := Y.out.at_ 1 (by simp)
      have y2 := Y.out.at_ 2 (by simp)
      simp only [List.getElem?_cons_succ, List.getElem?_cons_zero] at y0 y1 y2
      have x0 := Z.out.at_ 0 (by simp)
      have x1 := Z.out.at_ 1 (by simp)
      have x2 := Z.out.at_ 2 (by simp)
      simp only [List.getElem?_cons_succ, List.getElem?_cons_zero] at x0 x1 x2
      have g0 := Y.out.fz 0 (by simp)
      have g1 := Y.out.fz 1 (by simp)
      have g2 := Y.out.fz 2 (by simp)
      rcases hfd : fd es k with _ | _
      · have HNE : Hid (es = nxt es ⟨1, k, v⟩) := Lib.hid (by unfold nxt; rw [if_neg (show ¬ (1 : Int) = 0 by decide), if_pos rfl, if_neg (fun h => h.2 ((lkp_upd SR.out).2 hfd))])
        obtain ⟨rfl, hz, hx⟩ := nx_del_none (v := v) SK.out hj HLK.out hfd PO.out
        have HX := Lib.hid hx
        obtain rfl : n3 = 0 := by rw [V3.out.len, hz]; rfl
        clear hx hz hfd
        go_wp2_with fail
        obtain ⟨C0, C1, C2⟩ := res_cells Y.out
        have C0 := Lib.hid C0
        have C1 := Lib.hid C1
        have C2 := Lib.hid C2
        have END := Lib.hid (nx_end (a := .slice PA n pc) (b := .int .i64 r0) (c := .slice FA m fc) bw (by omega) (by omega) TY.out HF.out (HNE.out ▸ HL.out) HX.out (cs_val hcs))
        go_region
        all_goals
          go_wp2_with fail
          refine bodyPost_ret (v := .tuple #[.agg #[.slice PA n pc, .int .i64 r0, .slice FA m fc], .slice (some ⟨g, q, none⟩) ln lc, .bool true]) (by simp [results, Tryd.results27, go_sem, C0.out, C1.out, C2.out]) rfl ?_
          first | exact END.out.1 | exact END.out.2
      · obtain ⟨rfl, hx, hne⟩ := nx_del (v := v) SK.out hj HLK.out hfd PO.out
        have HX := Lib.hid hx
        have HNE := Lib.hid hne.symm
        have HFD := Lib.hid hfd
        have hzW := bw.size
        have RP : Hid (∀ U, Below w5.heap.size w5 U → Calls Tryd.prog 58 #[.slice (some ⟨g, q, none⟩) ln lc, .slice KA kn kc] U (LsPost U base (upd es k []))) := Lib.hid fun U hU => by
          have hU2 := bw.trans (hU.mono bw.size)
          exact rDelete_any U SR (by omega) (Nat.le_trans hB hU2.size) (Lib.hid (HL.out.nx hU)) (Lib.hid (hk.out.nx hU)) HFD
        clear hx hne hfd sk sv
        obtain ⟨w4', hw4'⟩ : ∃ u, u = w5 := ⟨_, rfl⟩
        subst hw4'
        go_wp2_with fail
        have KK : Hid (∀ U, Kp w4' U (· = p + 1 + 1) → U.cell? ⟨p9, 0, none⟩ = some (.slice PA3 n3 pc3) ∧ U.cell? ⟨p9, 1, none⟩ = some (.int .i64 r3) ∧ U.cell? ⟨p9, 2, none⟩ = some (.slice FA3 m3 fc3) ∧ U.cell? ⟨p + 1, 1, none⟩ = some (.slice KA kn kc) ∧ U.cell? ⟨p + 1, 2, none⟩ = some (.slice VA vn vc)) := Lib.hid fun U hU => by
          have h := Z.out.kp hU (by omega)
          have h' := O.out.kp hU (by omega)
          have a0 := h.at_ 0 (by simp)
          have a1 := h.at_ 1 (by simp)
          have a2 := h.at_ 2 (by simp)
          have a3 := h'.at_ 1 (by simp)
          have a4 := h'.at_ 2 (by simp)
          exact ⟨by simpa using a0, by simpa using a1, by simpa using a2, by simpa using a3, by simpa using a4⟩
        have YG : Hid (∀ U, Below w4'.heap.size w4' U → U.cell? ⟨p + 1 + 1, 0, none⟩ = some (.slice none 0 0) ∧ U.cell? ⟨p + 1 + 1, 1, none⟩ = some (.int .i64 0) ∧ U.cell? ⟨p + 1 + 1, 2, none⟩ = some (.slice none 0 0) ∧ U.frozen? ⟨p + 1 + 1, 0, none⟩ = false ∧ U.frozen? ⟨p + 1 + 1, 1, none⟩ = false ∧ U.frozen? ⟨p + 1 + 1, 2, none⟩ = false) := Lib.hid fun U hU => by
          have h := Y.out.nx hU
          have a0 := h.at_ 0 (by simp)
          have a1 := h.at_ 1 (by simp)
          have a2 := h.at_ 2 (by simp)
          have t0 := h.fz 0 (by simp)
          have t1 := h.fz 1 (by simp)
          have t2 := h.fz 2 (by simp)
          exact ⟨by simpa using a0, by simpa using a1, by simpa using a2, t0, t1, t2⟩
        have vd : Below w4'.heap.size w4' w4'.drew := (Below.refl _ _).drew
        clear g0 g1 g2
        go_region_held3 (fun w' => w'.cell? ⟨p9, 0, none⟩ = some (.slice PA3 n3 pc3) ∧ w'.cell? ⟨p9, 1, none⟩ = some (.int .i64 r3) ∧ w'.cell? ⟨p9, 2, none⟩ = some (.slice FA3 m3 fc3) ∧ w'.cell? ⟨p + 1, 1, none⟩ = some (.slice KA kn kc) ∧ w'.cell? ⟨p + 1, 2, none⟩ = some (.slice VA vn vc))
          ((refine KK.out _ ?_; repeat (first | exact k5 | exact Kp.refl _ _ | (refine kp_res ?_) | (refine kp_dr ?_))))
          (first
            | (go_at_call 58; refine (RP.out _ vd).mono ?_; rintro e w5 ⟨g5, q5, n5, c5, rfl, LS5, b5⟩; have v5 := vd.trans (b5.mono vd.size); have k5 := Kp.of_below v5 (· = p + 1 + 1); have yy := YG.out _ v5; have y0 := yy.1; have y1 := yy.2.1; have y2 := yy.2.2.1; have t0 := yy.2.2.2.1; have t1 := yy.2.2.2.2.1; have t2 := yy.2.2.2.2.2))
        all_goals
          have F5 := Lib.hid (F3.out.nx v5)
          have T5 := Lib.hid (TY.out.nx v5)
          have Y5 := Lib.hid (Y.out.nx v5)
          have bw5 := bw.trans (v5.mono bw.size)
          obtain ⟨C0, C1, C2⟩ := res_cells Y5.out
          have C0 := Lib.hid C0
          have C1 := Lib.hid C1
          have C2 := Lib.hid C2
          have END := Lib.hid (nx_end (a := .slice PA3 n3 pc3) (b := .int .i64 r3) (c := .slice FA3 m3 fc3) bw5 (by omega) (by omega) T5.out F5.out (HNE.out ▸ LS5.out) HX.out V3.out.val)
          clear yy y0 y1 y2 t0 t1 t2 k5 v5 b5 vd
          go_wp2_with fail
          refine bodyPost_ret (v := .tuple #[.agg #[.slice PA3 n3 pc3, .int .i64 r3, .slice FA3 m3 fc3], .slice (some ⟨g5, q5, none⟩) n5 c5, .bool true]) (by simp [results, Tryd.results27, go_sem, C0.out, C1.out, C2.out]) rfl ?_
          first | exact END.out.1 | exact END.out.2
    · have hl : ¬ lenK k := fun h => q1 ((lenB_key KN.out).2 h)
      obtain ⟨rfl, hz, hx⟩ := nx_del_no (v := v) SK.out hl PO.out
      have HX := Lib.hid hx
      have HNE : Hid (es = nxt es ⟨1, k, v⟩) := Lib.hid (by unfold nxt; rw [if_neg (show ¬ (1 : Int) = 0 by decide), if_pos rfl, if_neg (fun h => hl h.1)])
      obtain rfl : n3 = 0 := by rw [V3.out.len, hz]; rfl
      rw [show lenB kn 0 = false by simpa using q1]
      clear hx hz hl q1 d0 d0' hk0
      go_wp2_with fail
      obtain ⟨C0, C1, C2⟩ := res_cells Y.out
      have C0 := Lib.hid C0
      have C1 := Lib.hid C1
      have C2 := Lib.hid C2
      have END := Lib.hid (nx_end (a := .slice PA n pc) (b := .int .i64 r0) (c := .slice FA m fc) bw (by omega) (by omega) TY.out HF.out (HNE.out ▸ HL.out) HX.out (cs_val hcs))
      go_region
      all_goals
        go_wp2_with fail
        refine bodyPost_ret (v := .tuple #[.agg #[.slice PA n pc, .int .i64 r0, .slice FA m fc], .slice (some ⟨g, q, none⟩) ln lc, .bool true]) (by simp [results, Tryd.results27, go_sem, C0.out, C1.out, C2.out]) rfl ?_
        first | exact END.out.1 | exact END.out.2
  · have d1 : decide (kd = 1) = false := decide_eq_false hk1
    have d1' : (kd == 1) = false := by simpa using hk1
    have HK0 := Lib.hid hk0
    have HK1 := Lib.hid hk1
    clear hk0 hk1
    go_wp2_with fail
    go_at_call 36
    refine (Reclaim_nil hcs _ G (Lib.hid HF.out.fl) (Lib.hid SK.out.vld)).mono ?_
    rintro e w3 ⟨f3, rfl, ho, F3, b3⟩
    obtain ⟨hx, hne⟩ := nx_rcl (o := ⟨kd, k, v⟩) SK.out HK0.out HK1.out ho
    have HX := Lib.hid hx
    have HNE := Lib.hid hne.symm
    obtain ⟨PA3, n3, pc3, r3, FA3, m3, fc3, V3⟩ := fv_of f3
    rw [V3.out.val]
    clear ho z0 z1 z2 o0 o1 o2 hx hne
    replace bw := bw.trans (b3.mono bw.size)
    replace G := Lib.hid (G.out.nx b3)
    replace HF := Lib.hid (HF.out.nx b3)
    replace HL := Lib.hid (HL.out.nx b3)
    replace hk := Lib.hid (hk.out.nx b3)
    replace hv := Lib.hid (hv.out.nx b3)
    replace X := Lib.hid (X.out.nx b3)
    replace TX := Lib.hid (TX.out.nx b3)
    replace O := Lib.hid (O.out.nx b3)
    replace Y := Lib.hid (Y.out.nx b3)
    replace TY := Lib.hid (TY.out.nx b3)
    have hlt9 := Y.out.lt
    obtain ⟨p9, hp9⟩ : ∃ p9, w3.heap.size = p9 := ⟨_, rfl⟩
    obtain ⟨W4, hW4⟩ : ∃ W4, w3.alloc (.cells #[.slice PA3 n3 pc3, .int .i64 r3, .slice FA3 m3 fc3] 30) = W4 := ⟨_, rfl⟩
    have b4 : Below w3.heap.size w3 W4 := hW4 ▸ bal _ _
    have Z : Hid (Bx W4 p9 [.slice PA3 n3 pc3, .int .i64 r3, .slice FA3 m3 fc3]) := hW4 ▸ Lib.hid (Bx.put _ hp9 #[.slice PA3 n3 pc3, .int .i64 r3, .slice FA3 m3 fc3] 30)
    have TZ : Hid (Ty W4 p9 30) := hW4 ▸ hp9 ▸ Lib.hid (Ty.new _ _ _)
    have HW4 := Lib.hid hW4
    clear hW4
    replace bw := bw.trans (b4.mono bw.size)
    replace G := Lib.hid (G.out.nx b4)
    replace HF := Lib.hid (HF.out.nx b4)
    replace HL := Lib.hid (HL.out.nx b4)
    replace hk := Lib.hid (hk.out.nx b4)
    replace hv := Lib.hid (hv.out.nx b4)
    replace X := Lib.hid (X.out.nx b4)
    replace TX := Lib.hid (TX.out.nx b4)
    replace O := Lib.hid (O.out.nx b4)
    replace Y := Lib.hid (Y.out.nx b4)
    replace TY := Lib.hid (TY.out.nx b4)
    replace F3 := Lib.hid (F3.out.nx b4)
    have y0 := Y.out.at_ 0 (by simp)
    have y1 := Y.out.at_ 1 (by simp)
    have y2 := Y.out.at_ 2 (by simp)
    simp only [List.getElem?_cons_succ, List.getElem?_cons_zero] at y0 y1 y2
    have x0 := Z.out.at_ 0 (by simp)
    have x1 := Z.out.at_ 1 (by simp)
    have x2 := Z.out.at_ 2 (by simp)
    simp only [List.getElem?_cons_succ, List.getElem?_cons_zero] at x0 x1 x2
    have g0 := Y.out.fz 0 (by simp)
    have g1 := Y.out.fz 1 (by simp)
    have g2 := Y.out.fz 2 (by simp)
    obtain ⟨C0, C1, C2⟩ := res_cells Y.out
    have C0 := Lib.hid C0
    have C1 := Lib.hid C1
    have C2 := Lib.hid C2
    have END := Lib.hid (nx_end (a := .slice PA3 n3 pc3) (b := .int .i64 r3) (c := .slice FA3 m3 fc3) bw (by omega) (by omega) TY.out F3.out (HNE.out ▸ HL.out) HX.out V3.out.val)
    go_upto_region 15 with fail
    rw [HW4.out]
    go_wp2_with fail
    refine bodyPost_ret (v := .tuple #[.agg #[.slice PA3 n3 pc3, .int .i64 r3, .slice FA3 m3 fc3], .slice (some ⟨g, q, none⟩) ln lc, .bool true]) (by simp [results, Tryd.results27, go_sem, C0.out, C1.out, C2.out]) rfl ?_
    first | exact END.out.1 | exact END.out.2
end
end Go.Proofs.YtphiblmkgbkdmaaDoor.Pg
