/- Walks: the law's model, reads. -/
import Derived.Test.YtpmkohnljngbhaaDoorSrL0
import Derived.Test.YtpmkohnljngbhaaDoorSrR1
namespace Go.Proofs.YtpmkohnljngbhaaDoor.Sr
set_option linter.unusedVariables false
set_option linter.unusedSimpArgs false
set_option maxRecDepth 1000000
open Go.RowKit Wl Pg

/-- Entries: a row of the call's own from base on, of changes that were there in world w0. -/
structure Ew (w0 W : World) (base : Nat) (A : Option Addr) (n c : Nat) (M : List CV) : Prop where
  own : W.ownsRow base 45 3 (.slice A n c) n (cvs M)
  dat : ∀ y ∈ M, Dt w0 y
theorem Ew.nx {w0 W W' : World} {base n c : Nat} {A : Option Addr} {M : List CV} (h : Ew w0 W base A n c M) (b : Below W.heap.size W W') : Ew w0 W' base A n c M := ⟨own_below h.own b, h.dat⟩
theorem Ew.cr {w0 W : World} {base n c : Nat} {A : Option Addr} {M : List CV} (h : Ew w0 W base A n c M) (b : Below w0.heap.size w0 W) : Cr W A n c M := ⟨Rd.of_own h.own, fun y hy => (h.dat y hy).nx b⟩
theorem Ew.rebase {w0 W : World} {base base' n c : Nat} {A : Option Addr} {M : List CV} (h : Ew w0 W base A n c M) (b : base' ≤ base) : Ew w0 W base' A n c M := ⟨own_base h.own b, h.dat⟩
def MlPost (w0 w : World) (M : List Ch) (e : Ending) (w' : World) : Prop :=
  ∃ (A : Option Addr) (n c : Nat) (l : List CV), e = .returned (.slice A n c) ∧ Hid (l.map CV.ch = M) ∧ Hid (Cr w' A n c l) ∧ (n ≤ 1000 ∧ Hid (Ew w0 w' w.heap.size A n c l)) ∧ Below w.heap.size w w'
theorem flat_take {X : List XV} {j : Nat} {x : XV} (h : X[j]? = some x) : ((X.take (j + 1)).map XV.t).flatten = ((X.take j).map XV.t).flatten ++ x.t := by
  rw [List.take_add_one, h]; simp
set_option maxHeartbeats 3200000 in
theorem model_own {A : Option Addr} {n c : Nat} {X : List XV} (w0 w : World) (b0 : Below w0.heap.size w0 w) (HX0 : Hid (Xr w0 A n c X)) (HX : Hid (Xr w A n c X)) (hn : n ≤ 20) (SM : Hid (∀ x ∈ X, x.l.length ≤ 12 ∧ ∀ y ∈ x.l, y.ch.ok = true)) :
    Calls Tryd.prog 12 #[.slice A n c] w (MlPost w0 w (mdl (X.map XV.t).flatten)) := by
  have NX := Lib.hid HX.out.len
  have hnc := HX.out.row.nc
  have hc63 := HX.out.row.c63
  go_enter Tryd.func12, Tryd.ntmps12
  go_wp2_with fail
  go_loopw [3, 10] (fun ov iv wr => ∃ (j : Nat) (OA : Option Addr) (on oc : Nat) (ol : List CV), j ≤ n ∧ iv = .int .i64 j ∧ ov = .slice OA on oc ∧ on ≤ 12 * j ∧ Hid (ol.map CV.ch = mdl ((X.take j).map XV.t).flatten) ∧ Hid (Ew w0 wr w.heap.size OA on oc ol) ∧ Below w.heap.size w wr) (fun _ iv _ => (n - intOf iv).toNat)
  case atStart => exact ⟨0, none, 0, 0, [], by omega, rfl, rfl, by omega, Lib.hid rfl, Lib.hid ⟨World.ownsRow_nil _ _ _ _, by simp⟩, Below.refl _ _⟩
  case round =>
    obtain ⟨j, OA, on, oc, ol, hj, rfl, rfl, hon, OM, OC, bw⟩ := hrel
    obtain ⟨wo, rfl⟩ : ∃ u, u = wr := ⟨_, rfl⟩
    by_cases hlt : j < n
    · have d1 : decide ((j : Int) < (n : Int)) = true := decide_eq_true (by omega)
      obtain ⟨g, o, x, rfl, hg, hx, c0⟩ := (HX.out.nx bw).item hlt
      have FT := Lib.hid (flat_take hx)
      have SMX := Lib.hid (SM.out x (List.mem_of_getElem? hx))
      have CX := Lib.hid ((HX.out.dat x (List.mem_of_getElem? hx)))
      have D0 := Lib.hid (HX0.out.dat x (List.mem_of_getElem? hx)).dat
      obtain ⟨xn, hxn⟩ : ∃ xn, x.l.length = xn := ⟨_, rfl⟩
      obtain ⟨XA, hXA⟩ : ∃ XA, x.A = XA := ⟨_, rfl⟩
      obtain ⟨xc, hxc⟩ : ∃ xc, x.c = xc := ⟨_, rfl⟩
      rw [hxn, hXA, hxc] at c0 CX
      have xn12 : xn ≤ 12 := by rw [← hxn]; exact SMX.out.1
      have HXN := Lib.hid hxn
      have cnc := CX.out.row.nc
      have c63 := CX.out.row.c63
      clear hx hxn hXA hxc
      go_wp2_with fail
      go_loopw [3, 16] (fun ov iv wr => ∃ (i : Nat) (OA : Option Addr) (on oc : Nat) (ol : List CV), i ≤ xn ∧ iv = .int .i64 i ∧ ov = .slice OA on oc ∧ on ≤ 12 * j + i ∧ Hid (ol.map CV.ch = mdl (((X.take j).map XV.t).flatten ++ (x.l.take i).map CV.ch)) ∧ Hid (Ew w0 wr w.heap.size OA on oc ol) ∧ Below w.heap.size w wr) (fun _ iv _ => (xn - intOf iv).toNat)
      case atStart => exact ⟨0, OA, on, oc, ol, by omega, rfl, rfl, by omega, by simpa using OM, OC, bw⟩
      case round =>
        obtain ⟨i, OA2, on2, oc2, ol2, hi, rfl, rfl, hon2, OM2, OC2, bw2⟩ := hrel
        clear OM OC
        by_cases hlt2 : i < xn
        · have d2 : decide ((i : Int) < (xn : Int)) = true := decide_eq_true (by omega)
          obtain ⟨g', o', y, rfl, hg', hy, a0, a1, a2⟩ := (CX.out.nx bw2).item hlt2
          have TK : Hid ((x.l.take (i + 1)).map CV.ch = (x.l.take i).map CV.ch ++ [y.ch]) := Lib.hid (by rw [List.take_add_one, hy]; simp)
          have DY := Lib.hid ((CX.out.dat y (List.mem_of_getElem? hy)))
          have DY0 := Lib.hid (D0.out y (List.mem_of_getElem? hy))
          obtain ⟨kn, hkn⟩ : ∃ kn, y.k.length = kn := ⟨_, rfl⟩
          obtain ⟨vn, hvn⟩ : ∃ vn, y.v.length = vn := ⟨_, rfl⟩
          rw [hkn] at a0
          rw [hvn] at a1
          have HKN := Lib.hid hkn.symm
          have HVN := Lib.hid hvn.symm
          clear hy hkn hvn
          obtain ⟨q11, hq11⟩ : ∃ q11, wr.heap.size = q11 := ⟨_, rfl⟩
          obtain ⟨W7, hW7⟩ : ∃ W7, wr.alloc (.cells #[.slice y.A kn y.c, .slice y.B vn y.d, .bool y.del] 45) = W7 := ⟨_, rfl⟩
          have v7 : Below wr.heap.size wr W7 := hW7 ▸ bal _ _
          have V : Hid (Bx W7 q11 [.slice y.A kn y.c, .slice y.B vn y.d, .bool y.del]) := hW7 ▸ Lib.hid (Bx.put _ hq11 #[.slice y.A kn y.c, .slice y.B vn y.d, .bool y.del] 45)
          have TV : Hid (Ty W7 q11 45) := hW7 ▸ hq11 ▸ Lib.hid (Ty.new _ _ _)
          have HW7 := Lib.hid hW7
          clear hW7
          have bw7 := bw2.trans (v7.mono bw2.size)
          have v0 := V.out.at_ 0 (by simp)
          have v1 := V.out.at_ 1 (by simp)
          have v2 := V.out.at_ 2 (by simp)
          simp only [List.getElem?_cons_succ, List.getElem?_cons_zero] at v0 v1 v2
          have AP := Lib.hid (rApply_any W7 (Lib.hid ((OC2.out.nx v7).cr (b0.trans (bw7.mono b0.size)))) (Lib.hid (show Dt W7 ⟨y.A, y.c, y.k, y.B, y.d, y.v, y.del⟩ from DY.out.nx bw7)) HKN HVN (by omega))
          go_upto_region 8 with fail
          rw [HW7.out]
          go_wp2_with fail
          go_at_call 20
          refine AP.out.mono ?_
          rintro e w8 ⟨A8, n8, c8, l8, rfl, hn8, M8, O8, D8, b8⟩
          have bw8 := bw7.trans (b8.mono bw7.size)
          have OM8 : Hid (l8.map CV.ch = mdl (((X.take j).map XV.t).flatten ++ (x.l.take (i + 1)).map CV.ch)) := Lib.hid (by rw [TK.out, ← List.append_assoc, mdl_snoc, ← OM2.out]; exact M8.out)
          have C8 : Hid (Ew w0 w8 w.heap.size A8 n8 c8 l8) := Lib.hid ⟨own_base O8.out bw7.size, fun z hz => by
            rcases D8.out z hz with h | rfl
            · exact OC2.out.dat z h
            · exact DY0.out⟩
          clear M8 O8 D8 AP a0 a1 a2 v0 v1 v2
          go_wp2_with fail
          go_roundw
          case rel => exact ⟨i + 1, A8, n8, c8, l8, by omega, by go_num, rfl, by omega, OM8, C8, bw8⟩
          case measure => simp [intOf]; omega
        · obtain rfl : i = xn := by omega
          have d2 : decide ((i : Int) < (i : Int)) = false := decide_eq_false (by omega)
          have OM3 : Hid (ol2.map CV.ch = mdl ((X.take (j + 1)).map XV.t).flatten) := Lib.hid (by
            have h := OM2.out
            rw [show x.l.take i = x.l from List.take_of_length_le (by have := HXN.out; omega)] at h
            rw [FT.out]; exact h)
          go_wp2_with fail
          go_roundw
          case rel => exact ⟨j + 1, OA2, on2, oc2, ol2, by omega, by go_num, rfl, by omega, OM3, OC2, bw2⟩
          case measure => simp [intOf]; omega
    · obtain rfl : j = n := by omega
      have d1 : decide ((j : Int) < (j : Int)) = false := decide_eq_false (by omega)
      have OM3 : Hid (ol.map CV.ch = mdl (X.map XV.t).flatten) := by have h := OM.out; rw [List.take_of_length_le (by have := NX.out; omega)] at h; exact Lib.hid h
      go_wp2_with fail
      go_ret
      exact ⟨OA, on, oc, ol, rfl, OM3, Lib.hid (OC.out.cr (b0.trans (bw.mono b0.size))), ⟨by omega, OC⟩, bw⟩
theorem model_any {A : Option Addr} {n c : Nat} {X : List XV} (w : World) (HX : Hid (Xr w A n c X)) (hn : n ≤ 20) (SM : Hid (∀ x ∈ X, x.l.length ≤ 12 ∧ ∀ y ∈ x.l, y.ch.ok = true)) :
    Calls Tryd.prog 12 #[.slice A n c] w (MlPost w w (mdl (X.map XV.t).flatten)) := model_own w w (Below.refl _ _) HX HX hn SM
theorem fnd_cases (M : List Ch) (key : List UInt8) : (fnd M key = -1 ∧ mfd M key = none) ∨ ∃ (i : Nat) (x : Ch), fnd M key = i ∧ M[i]? = some x ∧ mfd M key = some x.v := by
  unfold fnd
  rcases mfi_mfd (M := M) (key := key) with ⟨h1, h2⟩ | ⟨i, x, h1, h2, _, h4⟩
  · exact .inl ⟨by rw [h1], h2⟩
  · exact .inr ⟨i, x, by rw [h1], h2, h4⟩
set_option maxHeartbeats 3200000 in
theorem reads_any {f : FV} {b : Ent} {t0 : Int} {Ts : List (List Ch)} {PA FA LA A E : Option Addr} {np pc m fc ln lc n c en ec : Nat} {r0 last : Int} {X : List XV} {M : List CV} (w : World) (G : Hid (Gl w)) (H : Hid (Stt w f b t0 Ts PA np pc r0 FA m fc LA ln lc last))
    (HE : Hid (Cr w E en ec M)) (HM : Hid (∀ key, mfd (M.map CV.ch) key = app b Ts.flatten key)) (HX : Hid (Xr w A n c X)) (SM : Hid (∀ x ∈ X, x.l.length ≤ 12 ∧ ∀ y ∈ x.l, y.ch.ok = true)) :
    Calls Tryd.prog 11 #[.agg #[.slice PA np pc, .int .i64 r0, .slice FA m fc, .slice LA ln lc, .int .i64 last], .slice E en ec, .slice A n c] w fun e w' => e = .returned (.bool true) ∧ Below w.heap.size w w' := by
  have NX := Lib.hid HX.out.len
  have hnc := HX.out.row.nc
  have hc63 := HX.out.row.c63
  have NE := Lib.hid HE.out.len
  have henc := HE.out.row.nc
  have he63 := HE.out.row.c63
  obtain ⟨p, hp⟩ : ∃ p, w.heap.size = p := ⟨_, rfl⟩
  obtain ⟨W1, hW1⟩ : ∃ W1, w.alloc (.cells #[.slice PA np pc, .int .i64 r0, .slice FA m fc, .slice LA ln lc, .int .i64 last] 31) = W1 := ⟨_, rfl⟩
  have bw : Below w.heap.size w W1 := hW1 ▸ bal _ _
  have Z : Hid (Bx W1 p [.slice PA np pc, .int .i64 r0, .slice FA m fc, .slice LA ln lc, .int .i64 last]) := hW1 ▸ Lib.hid (Bx.put _ hp #[.slice PA np pc, .int .i64 r0, .slice FA m fc, .slice LA ln lc, .int .i64 last] 31)
  have TZ : Hid (Ty W1 p 31) := hW1 ▸ hp ▸ Lib.hid (Ty.new _ _ _)
  have HW1 := Lib.hid hW1
  clear hW1
  go_enter Tryd.func11, Tryd.ntmps11
  go_upto_region 1 with fail
  rw [HW1.out]
  go_wp2_with fail
  go_loopw [16] (fun iv wr => ∃ j : Nat, j ≤ n ∧ iv = .int .i64 j ∧ Below W1.heap.size W1 wr) (fun iv _ => (n - intOf iv).toNat)
  case atStart => exact ⟨0, by omega, rfl, Below.refl _ _⟩
  case round =>
    obtain ⟨j, hj, rfl, b1⟩ := hrel
    obtain ⟨wo, rfl⟩ : ∃ u, u = wr := ⟨_, rfl⟩
    have bw1 := bw.trans (b1.mono bw.size)
    by_cases hlt : j < n
    · have d1 : decide ((j : Int) < (n : Int)) = true := decide_eq_true (by omega)
      obtain ⟨g, o, x, rfl, hg, hx, c0⟩ := (HX.out.nx bw1).item hlt
      have SMX := Lib.hid (SM.out x (List.mem_of_getElem? hx))
      have CX := Lib.hid ((HX.out.dat x (List.mem_of_getElem? hx)))
      obtain ⟨xn, hxn⟩ : ∃ xn, x.l.length = xn := ⟨_, rfl⟩
      obtain ⟨XA, hXA⟩ : ∃ XA, x.A = XA := ⟨_, rfl⟩
      obtain ⟨xc, hxc⟩ : ∃ xc, x.c = xc := ⟨_, rfl⟩
      rw [hxn, hXA, hxc] at c0 CX
      have cnc := CX.out.row.nc
      have c63 := CX.out.row.c63
      clear hx hxn hXA hxc
      go_wp2_with fail
      go_loopw [22] (fun iv wr => ∃ i : Nat, i ≤ xn ∧ iv = .int .i64 i ∧ Below W1.heap.size W1 wr) (fun iv _ => (xn - intOf iv).toNat)
      case atStart => exact ⟨0, by omega, rfl, b1⟩
      case round =>
        obtain ⟨i, hi, rfl, b2⟩ := hrel
        have bw2 := bw.trans (b2.mono bw.size)
        by_cases hlt2 : i < xn
        · have d2 : decide ((i : Int) < (xn : Int)) = true := decide_eq_true (by omega)
          obtain ⟨g', o', y, rfl, hg', hy, a0, a1, a2⟩ := (CX.out.nx bw2).item hlt2
          have DY := Lib.hid ((CX.out.dat y (List.mem_of_getElem? hy)))
          have OKY := Lib.hid (ok_iff.1 (SMX.out.2 y (List.mem_of_getElem? hy)))
          have LK : Hid (lenK y.k) := Lib.hid OKY.out.1
          obtain ⟨kn, hkn⟩ : ∃ kn, y.k.length = kn := ⟨_, rfl⟩
          obtain ⟨vn, hvn⟩ : ∃ vn, y.v.length = vn := ⟨_, rfl⟩
          rw [hkn] at a0
          rw [hvn] at a1
          have HKN := Lib.hid hkn.symm
          clear hy hkn hvn
          obtain ⟨q11, hq11⟩ : ∃ q11, wr.heap.size = q11 := ⟨_, rfl⟩
          obtain ⟨W7, hW7⟩ : ∃ W7, wr.alloc (.cells #[.slice y.A kn y.c, .slice y.B vn y.d, .bool y.del] 45) = W7 := ⟨_, rfl⟩
          have v7 : Below wr.heap.size wr W7 := hW7 ▸ bal _ _
          have V : Hid (Bx W7 q11 [.slice y.A kn y.c, .slice y.B vn y.d, .bool y.del]) := hW7 ▸ Lib.hid (Bx.put _ hq11 #[.slice y.A kn y.c, .slice y.B vn y.d, .bool y.del] 45)
          have TV : Hid (Ty W7 q11 45) := hW7 ▸ hq11 ▸ Lib.hid (Ty.new _ _ _)
          have HW7 := Lib.hid hW7
          clear hW7
          have bw7 := bw2.trans (v7.mono bw2.size)
          have b17 := b2.trans (v7.mono b2.size)
          have Z7 := Lib.hid (Z.out.nx b17)
          have v0 := V.out.at_ 0 (by simp)
          have v1 := V.out.at_ 1 (by simp)
          have v2 := V.out.at_ 2 (by simp)
          simp only [List.getElem?_cons_succ, List.getElem?_cons_zero] at v0 v1 v2
          have z0 := Z7.out.at_ 0 (by simp)
          have z1 := Z7.out.at_ 1 (by simp)
          have z2 := Z7.out.at_ 2 (by simp)
          have z3 := Z7.out.at_ 3 (by simp)
          have z4 := Z7.out.at_ 4 (by simp)
          simp only [List.getElem?_cons_succ, List.getElem?_cons_zero] at z0 z1 z2 z3 z4
          have K7 : Hid (Rd W7 1 y.A kn y.c (bv y.k)) := Lib.hid (by rw [HKN.out]; exact (DY.out.nx bw7).k)
          have RD := Lib.hid (Stt.read (Lib.hid (H.out.nx bw7)) (Lib.hid (G.out.nx bw7)) K7)
          go_upto_region 7 with fail
          rw [HW7.out]
          go_wp2_with fail
          go_at_call 13
          refine RD.out.mono ?_
          rintro e w8 hpost
          rcases hpost with ⟨hno, _⟩ | ⟨_, A8, n8, c8, er, rfl, res, b8⟩
          · exact absurd LK.out hno
          have bw8 := bw7.trans (b8.mono bw7.size)
          have b18 := b17.trans (b8.mono b17.size)
          have V8 := Lib.hid (V.out.nx b8)
          have Z8 := Lib.hid (Z.out.nx b18)
          clear v0 v1 v2 z0 z1 z2 z3 z4 a0 a1 a2 RD
          have v0 := V8.out.at_ 0 (by simp)
          have v1 := V8.out.at_ 1 (by simp)
          have v2 := V8.out.at_ 2 (by simp)
          simp only [List.getElem?_cons_succ, List.getElem?_cons_zero] at v0 v1 v2
          have FD := rFind_any w8 (Lib.hid (HE.out.nx bw8)) (Lib.hid (K7.out.nx b8))
          rcases fnd_cases (M.map CV.ch) y.k with ⟨hf, hm⟩ | ⟨q, z, hf, hz, hm⟩
          · rw [hf] at FD
            have HAP : Hid (app b Ts.flatten y.k = none) := Lib.hid (by rw [← HM.out]; exact hm)
            have FD := Lib.hid FD
            clear hf hm
            rcases res with ⟨rfl, _, rfl⟩ | ⟨_, d, hd, _⟩
            · go_wp2_with fail
              go_at_call 14
              refine FD.out.mono ?_
              rintro e w9 ⟨rfl, nq, rfl⟩
              have b9 : Below W1.heap.size W1 (w8.drewN nq) := bdrewN b18
              go_wp2_with fail
              go_roundw
              case rel => exact ⟨i + 1, by omega, by go_num, b9⟩
              case measure => simp [intOf]; omega
            · rw [HAP.out] at hd; cases hd
          · rw [hf] at FD
            obtain ⟨zc, hzc, rfl⟩ : ∃ zc, M[q]? = some zc ∧ zc.ch = z := by
              rw [List.getElem?_map] at hz
              rcases hq : M[q]? with _ | zc
              · rw [hq] at hz; cases hz
              · rw [hq] at hz; injection hz with hz; exact ⟨zc, rfl, hz⟩
            have HAP : Hid (app b Ts.flatten y.k = some zc.v) := Lib.hid (by rw [← HM.out]; exact hm)
            have FD := Lib.hid FD
            have hqn : q < en := by have := (List.getElem?_eq_some_iff.1 hzc).1; have := NE.out; omega
            obtain ⟨ge, oe, zc', rfl, hge, hzc', e0, e1, e2⟩ := (HE.out.nx bw8).item hqn
            obtain rfl : zc' = zc := by rw [hzc] at hzc'; injection hzc' with h; exact h.symm
            have DZ := Lib.hid ((HE.out.dat zc' (List.mem_of_getElem? hzc)).nx bw8)
            obtain ⟨zn, hzn⟩ : ∃ zn, zc'.v.length = zn := ⟨_, rfl⟩
            have DZV : Hid (Rd w8 1 zc'.B zn zc'.d (bv zc'.v)) := Lib.hid (by rw [← hzn]; exact DZ.out.v)
            rw [hzn] at e1
            clear hf hm hz hzc hzc' hzn
            rcases res with ⟨_, hd, _⟩ | ⟨rfl, d, hd, HN8, R8⟩
            · rw [HAP.out] at hd; cases hd
            obtain rfl : zc'.v = d := by rw [HAP.out] at hd; injection hd
            clear hd
            have EQ : Hid (∀ nq, Calls Tryd.prog 16 #[.slice A8 n8 c8, .slice zc'.B zn zc'.d] (w8.drewN nq) fun e w' => e = .returned (.bool true) ∧ w8.drewN nq = w') := Lib.hid fun nq => by
              have := Pg.Equal_any (w8.drewN nq) (Lib.hid (R8.out.drewN nq)) (Lib.hid (DZV.out.drewN nq))
              rwa [Pg.eqB_self] at this
            have q0 : ¬ ((q : Int) < 0) := by omega
            have q1 : decide ((q : Int) < 0) = false := decide_eq_false (by omega)
            have q2 : decide ((q : Int) ≥ 0) = true := decide_eq_true (by omega)
            go_wp2_with fail
            go_at_call 14
            refine FD.out.mono ?_
            rintro e w9 ⟨rfl, nq, rfl⟩
            go_wp2_with fail
            go_at_call 16
            refine (EQ.out nq).mono ?_
            rintro e w' ⟨rfl, rfl⟩
            have b9 : Below W1.heap.size W1 (w8.drewN nq) := bdrewN b18
            go_wp2_with fail
            go_roundw
            case rel => exact ⟨i + 1, by omega, by go_num, b9⟩
            case measure => simp [intOf]; omega
        · obtain rfl : i = xn := by omega
          have d2 : decide ((i : Int) < (i : Int)) = false := decide_eq_false (by omega)
          go_wp2_with fail
          go_roundw
          case rel => exact ⟨j + 1, by omega, by go_num, b2⟩
          case measure => simp [intOf]; omega
    · obtain rfl : j = n := by omega
      have d1 : decide ((j : Int) < (j : Int)) = false := decide_eq_false (by omega)
      go_wp2_with fail
      go_ret
      exact ⟨rfl, bw1⟩
end Go.Proofs.YtpmkohnljngbhaaDoor.Sr
