/- Walk: the reference's Log. -/
import Derived.Test.YtpmkohnljngbhaaGreatDoorSrRf
import Derived.Test.YtpmkohnljngbhaaGreatDoorSrL3
namespace Go.Proofs.YtpmkohnljngbhaaGreatDoor.Sr
set_option linter.unusedVariables false
set_option linter.unusedSimpArgs false
set_option maxRecDepth 1000000
open Go.RowKit Wl Pg

theorem tx_take {X : List XV} {j : Nat} {x : XV} (h : X[j]? = some x) : (X.take (j + 1)).map XV.t = (X.take j).map XV.t ++ [x.t] := by
  rw [List.take_add_one, h]; simp
theorem ch_take {l : List CV} {j : Nat} {x : CV} (h : l[j]? = some x) : (l.take (j + 1)).map CV.ch = (l.take j).map CV.ch ++ [x.ch] := by
  rw [List.take_add_one, h]; simp
theorem log_bound {t : Int} {X : List XV} (SM : ∀ x ∈ X, x.l.length ≤ 12 ∧ ∀ y ∈ x.l, y.ch.ok = true) : (logL t (X.map XV.t)).length ≤ X.length * 2366 := by
  have h := logL_len (t := t) (Ts := X.map XV.t) fun cs hc => by
    obtain ⟨x, hx, rfl⟩ := List.mem_map.1 hc
    refine ⟨fun c hc => ?_, by show (x.l.map CV.ch).length ≤ 12; rw [List.length_map]; exact (SM x hx).1⟩
    obtain ⟨y, hy, rfl⟩ := List.mem_map.1 hc
    exact (SM x hx).2 y hy
  rwa [List.length_map] at h
theorem pre_bound {t : Int} {l : List CV} (h : ∀ y ∈ l, y.ch.ok = true) : (encs ((l.map CV.ch).map (recC t))).length ≤ l.length * 182 := by
  have := encs_len_le 161 ((l.map CV.ch).map (recC t)) fun r hr => by
    obtain ⟨c, hc, rfl⟩ := List.mem_map.1 hr
    obtain ⟨y, hy, rfl⟩ := List.mem_map.1 hc
    exact recC_len (h y hy)
  simpa using this
theorem enc_code {r : Rec} : (enc r).length = 21 + r.d.length := Wl.enc_len r
set_option maxHeartbeats 6400000 in
theorem rLog_any {A : Option Addr} {n c : Nat} {X : List XV} (first : Int) (w : World) (HX : Hid (Xr w A n c X)) (hn : n ≤ 20) (SM : Hid (∀ x ∈ X, x.l.length ≤ 12 ∧ ∀ y ∈ x.l, y.ch.ok = true)) (f1 : 1 ≤ first) (f2 : first ≤ 1000) :
    Calls Tryz.prog 21 #[.slice A n c, .int .i64 first] w fun e w' => ∃ (OA : Option Addr) (on oc : Nat), e = .returned (.slice OA on oc) ∧ Hid (Rd w' 1 OA on oc (bv (logL first (X.map XV.t)))) ∧ Below w.heap.size w w' := by
  have NX := Lib.hid HX.out.len
  have hnc := HX.out.row.nc
  have hc63 := HX.out.row.c63
  go_enter Tryz.func21, Tryz.ntmps21
  go_wp2_with fail
  go_loopw [5, 6] (fun ov iv' wr => ∃ (j : Nat) (OA : Option Addr) (on oc : Nat), j ≤ n ∧ iv' = .int .i64 (j : Int) ∧ ov = .slice OA on oc ∧ on ≤ 50000 ∧ Hid (Rd wr 1 OA on oc (bv (logL first ((X.take j).map XV.t)))) ∧ Below w.heap.size w wr) (fun _ iv' _ => (n - intOf iv').toNat)
  case atStart => exact ⟨0, none, 0, 0, by omega, rfl, rfl, by omega, Lib.hid (Rd.nil_ _ _), Below.refl _ _⟩
  case round =>
    obtain ⟨j, OA, on, oc, hj, rfl, rfl, hon, OR, bw⟩ := hrel
    obtain ⟨wo, rfl⟩ : ∃ u, u = wr := ⟨_, rfl⟩
    by_cases hlt : j < n
    · have d1 : decide ((j : Int) < (n : Int)) = true := decide_eq_true (by omega)
      obtain ⟨g, o, x, rfl, hg, hx, cw⟩ := HX.out.item hlt
      have c0 : wo.cell? ⟨g, o + j, none⟩ = _ := ((bcell bw).1 _ _ hg).trans cw
      have TX := Lib.hid (tx_take hx)
      have SMX := Lib.hid (SM.out x (List.mem_of_getElem? hx))
      have CX := Lib.hid ((HX.out.dat x (List.mem_of_getElem? hx)))
      have LB : Hid ((logL first ((X.take j).map XV.t)).length ≤ j * 2366) := Lib.hid (by
        have h := log_bound (t := first) (X := X.take j) fun y hy => SM.out y (List.mem_of_mem_take hy)
        rw [List.length_take] at h
        have := NX.out
        rwa [show min j X.length = j by omega] at h)
      have TLn : Hid (((X.take j).map XV.t).length = j) := Lib.hid (by rw [List.length_map, List.length_take]; have := NX.out; omega)
      obtain ⟨xn, hxn⟩ : ∃ xn, x.l.length = xn := ⟨_, rfl⟩
      obtain ⟨XA, hXA⟩ : ∃ XA, x.A = XA := ⟨_, rfl⟩
      obtain ⟨xc, hxc⟩ : ∃ xc, x.c = xc := ⟨_, rfl⟩
      rw [hxn, hXA, hxc] at c0 CX cw
      have CW : Hid (∀ U, Below w.heap.size w U → U.cell? ⟨g, o + j, none⟩ = some (.slice XA xn xc)) := Lib.hid fun U hU => ((bcell hU).1 _ _ hg).trans cw
      have xn12 : xn ≤ 12 := by rw [← hxn]; exact SMX.out.1
      have HXN := Lib.hid hxn
      have cnc := CX.out.row.nc
      have c63 := CX.out.row.c63
      obtain ⟨tx, htx⟩ : ∃ tx, first + (j : Int) = tx := ⟨_, rfl⟩
      have wtx : IntKind.i64.wrap (first + (j : Int)) = tx := by rw [IntKind.wrap_i64]; omega
      have tx1 : 1 ≤ tx := by omega
      have tx2 : tx ≤ 1100 := by omega
      have HTX := Lib.hid htx
      clear hx hxn hXA hxc htx cw
      go_wp2_with fail
      go_loopw [5, 7] (fun ov iv' wr => ∃ (i : Nat) (OA : Option Addr) (on oc : Nat), i ≤ xn ∧ iv' = .int .i64 (i : Int) ∧ ov = .slice OA on oc ∧ Hid (Rd wr 1 OA on oc (bv (logL first ((X.take j).map XV.t) ++ encs (((x.l.take i).map CV.ch).map (recC tx))))) ∧ Below w.heap.size w wr) (fun _ iv' _ => (xn - intOf iv').toNat)
      case atStart => exact ⟨0, OA, on, oc, by omega, rfl, rfl, by simpa [encs] using OR, bw⟩
      case round =>
        obtain ⟨i, OA2, on2, oc2, hi, rfl, rfl, OR2, bw2⟩ := hrel
        clear OR
        have c3 := CW.out _ bw2
        have PB : Hid (on2 ≤ 49000) := Lib.hid (by
          have h := rd_bytes OR2.out
          have h2 := pre_bound (t := tx) (l := x.l.take i) fun y hy => SMX.out.2 y (List.mem_of_mem_take hy)
          rw [List.length_take] at h2
          rw [List.length_append] at h
          have := LB.out
          have h3 : min i x.l.length * 182 ≤ 12 * 182 := Nat.mul_le_mul_right _ (by omega)
          omega)
        have pb := PB.out
        clear PB
        by_cases hlt2 : i < xn
        · have d2 : decide ((i : Int) < (xn : Int)) = true := decide_eq_true (by omega)
          obtain ⟨g', o', y, rfl, hg', hy, a0, a1, a2⟩ := (CX.out.nx bw2).item hlt2
          have TK := Lib.hid (ch_take hy)
          have OKY := Lib.hid (SMX.out.2 y (List.mem_of_getElem? hy))
          have OKI := Lib.hid (ok_iff.1 OKY.out)
          have DY := Lib.hid ((CX.out.dat y (List.mem_of_getElem? hy)).nx bw2)
          obtain ⟨kn, hkn⟩ : ∃ kn, y.k.length = kn := ⟨_, rfl⟩
          obtain ⟨vn, hvn⟩ : ∃ vn, y.v.length = vn := ⟨_, rfl⟩
          have KB : Hid (kn ≤ 255 ∧ vn ≤ 1000) := Lib.hid (by have h : (1 ≤ y.k.length ∧ y.k.length ≤ 40) ∧ y.v.length ≤ 120 ∧ _ := OKI.out; omega)
          rw [hkn] at a0
          rw [hvn] at a1
          have HKN := Lib.hid hkn.symm
          have HVN := Lib.hid hvn.symm
          clear hy hkn hvn
          have RC := rRecord_any tx wr (Lib.hid (show Rd wr 1 y.A kn y.c (bv y.k) by rw [HKN.out]; exact DY.out.k)) (Lib.hid (show Rd wr 1 y.B vn y.d (bv y.v) by rw [HVN.out]; exact DY.out.v)) KB.out.1 KB.out.2 (del := y.del)
          obtain ⟨r, hr⟩ : ∃ r, recC tx y.ch = r := ⟨_, rfl⟩
          rw [show (⟨y.k, y.v, y.del⟩ : Ch) = y.ch from rfl, hr] at RC
          have RC := Lib.hid RC
          have OKR : Hid (Wl.ok r) := Lib.hid (by rw [← hr]; exact recC_ok OKY.out tx1 (by omega))
          have RL : Hid (r.d.length ≤ 161) := Lib.hid (by rw [← hr]; exact recC_len OKY.out)
          have HR := Lib.hid hr
          clear hr
          go_wp2_with fail
          go_at_call 51
          refine RC.out.mono ?_
          rintro e w3 ⟨RA, rc, rfl, RD, b3⟩
          obtain ⟨rn, hrn⟩ : ∃ rn, r.d.length = rn := ⟨_, rfl⟩
          have hv := ((Wl.ok_iff r).1 OKR.out).2
          rw [hrn] at RD hv ⊢
          have EN := rEncode_ok r.k r.t w3 RD hv (by have := OKR.out.2.2.2.1; omega)
          have EN := Lib.hid EN
          have rl := RL.out
          rw [hrn] at rl
          have HRN := Lib.hid hrn
          clear hrn hv RC a0 a1 a2
          go_wp2_with fail
          go_at_call 50
          refine EN.out.mono ?_
          rintro e w4 ⟨EA, ec, rfl, eo, b4⟩
          have b34 := b3.trans (b4.mono b3.size)
          have JN := Lib.hid (rjoin_any w4 (Lib.hid (OR2.out.below b34)) (Lib.hid (Rd.of_own eo)) (by omega) (by omega))
          clear EN
          go_wp2_with fail
          go_at_call 52
          refine JN.out.mono ?_
          rintro e w5 ⟨A5, c5, rfl, jo, b5⟩
          have b35 := b34.trans (b5.mono b34.size)
          have bw5 := bw2.trans (b35.mono bw2.size)
          have JR : Hid (Rd w5 1 A5 (on2 + (21 + rn)) c5 (bv (logL first ((X.take j).map XV.t) ++ encs (((x.l.take (i + 1)).map CV.ch).map (recC tx))))) := Lib.hid (by
            have h := Rd.of_own jo.out
            rw [TK.out, List.map_append, List.map_singleton, encs_snoc, HR.out, ← List.append_assoc]
            exact h)
          clear jo JN
          go_wp2_with fail
          go_roundw
          case rel => exact ⟨i + 1, A5, _, c5, by omega, by first | rfl | go_num, rfl, JR, bw5⟩
          case measure => simp [intOf]; omega
        · obtain rfl : i = xn := by omega
          have d2 : decide ((i : Int) < (i : Int)) = false := decide_eq_false (by omega)
          have hv : okV 3 tx 0 = true := okV_t ⟨by omega, by omega, tx1, by omega, fun _ => rfl⟩
          have EN := Lib.hid (rEncode_ok (data := []) 3 tx wr (Lib.hid (Rd.nil_ wr 1)) hv (by omega))
          clear hv
          go_wp2_with fail
          go_at_call 50
          refine EN.out.mono ?_
          rintro e w4 ⟨EA, ec, rfl, eo, b4⟩
          have JN := Lib.hid (rjoin_any w4 (Lib.hid (OR2.out.below b4)) (Lib.hid (Rd.of_own eo)) (by omega) (by omega))
          clear EN
          go_wp2_with fail
          go_at_call 52
          refine JN.out.mono ?_
          rintro e w5 ⟨A5, c5, rfl, jo, b5⟩
          have b45 := b4.trans (b5.mono b4.size)
          have bw5 := bw2.trans (b45.mono bw2.size)
          have JR : Hid (Rd w5 1 A5 (on2 + (21 + 0)) c5 (bv (logL first ((X.take (j + 1)).map XV.t)))) := Lib.hid (by
            have h := Rd.of_own jo.out
            rw [show x.l.take i = x.l from List.take_of_length_le (by have := HXN.out; omega)] at h
            rw [TX.out, logL_snoc, TLn.out, HTX.out]
            unfold recT
            rw [encs_app, show encs [(⟨3, tx, []⟩ : Rec)] = enc ⟨3, tx, []⟩ by simp [encs], ← List.append_assoc]
            exact h)
          clear jo JN
          go_wp2_with fail
          go_roundw
          case rel => exact ⟨j + 1, A5, _, c5, by omega, by first | rfl | go_num, rfl, by omega, JR, bw5⟩
          case measure => simp [intOf]; omega
    · obtain rfl : j = n := by omega
      have d1 : decide ((j : Int) < (j : Int)) = false := decide_eq_false (by omega)
      have OR3 : Hid (Rd wo 1 OA on oc (bv (logL first (X.map XV.t)))) := by have h := OR.out; rw [List.take_of_length_le (by have := NX.out; omega)] at h; exact Lib.hid h
      go_wp2_with fail
      go_ret
      exact ⟨OA, on, oc, rfl, OR3, bw⟩
end Go.Proofs.YtpmkohnljngbhaaGreatDoor.Sr
