/- PageKeeps. -/
import Derived.Test.YtphiblmkgbkdmaaDoorPgKp
namespace Go.Proofs.YtphiblmkgbkdmaaDoor.Pg
set_option linter.unusedVariables false
set_option linter.unusedSimpArgs false
open Go.RowKit Wl

set_option maxRecDepth 20000 in
set_option maxHeartbeats 6400000 in
theorem PageKeeps_walk (A : Option Addr) (N c : Nat) (l : List OV) (kd0 : Int) (KA0 : Option Addr) (kn0 kc0 : Nat) (k0 : List UInt8) (VA0 : Option Addr) (vn0 vc0 : Nat) (v0 : List UInt8) (KY : Option Addr) (ky kyc : Nat) (kys : List PV) (w : World) (G : Hid (Gl w)) (h : Hid (Or w A N c l))
    (_ : -9223372036854775808 ≤ kd0) (_ : kd0 ≤ 9223372036854775807) (hk0 : Hid (Rd w 1 KA0 kn0 kc0 (bv k0))) (hv0 : Hid (Rd w 1 VA0 vn0 vc0 (bv v0))) (hY : Hid (Pr w KY ky kyc kys)) :
    Calls Tryd.prog 6 #[.slice A N c, .agg #[.int .i64 kd0, .slice KA0 kn0 kc0, .slice VA0 vn0 vc0], .slice KY ky kyc] w fun e w' => e = .returned (.bool true) ∧ Below w.heap.size w w' := by
  have NL := Lib.hid h.out.len
  have KS0 : Hid (∀ g, 0 < kn0 → blk KA0 = some g → g < w.heap.size) := Lib.hid fun g h0 e => rd_lt hk0.out h0 e
  have VS0 : Hid (∀ g, 0 < vn0 → blk VA0 = some g → g < w.heap.size) := Lib.hid fun g h0 e => rd_lt hv0.out h0 e
  obtain ⟨p4, hp4⟩ : ∃ p4, w.heap.size = p4 := ⟨_, rfl⟩
  obtain ⟨W0, hW0⟩ : ∃ W0, w.alloc (.cells #[.int .i64 kd0, .slice KA0 kn0 kc0, .slice VA0 vn0 vc0] 52) = W0 := ⟨_, rfl⟩
  have b0 : Below w.heap.size w W0 := hW0 ▸ bal _ _
  have X4 : Hid (Bx W0 p4 [.int .i64 kd0, .slice KA0 kn0 kc0, .slice VA0 vn0 vc0]) := hW0 ▸ Lib.hid (Bx.put _ hp4 #[.int .i64 kd0, .slice KA0 kn0 kc0, .slice VA0 vn0 vc0] 52)
  have TX4 : Hid (Ty W0 p4 52) := hW0 ▸ hp4 ▸ Lib.hid (Ty.new _ _ _)
  have HW0 := Lib.hid hW0
  clear hW0
  go_enter Tryd.func6, Tryd.ntmps6
  go_upto_region 1 with fail
  rw [HW0.out]
  go_wp2_with fail
  go_at_call 11
  refine (awake_any W0 (Lib.hid (G.out.below b0))).mono ?_
  rintro e w1 ⟨rfl, b1⟩
  have bw1 := b0.trans (b1.mono b0.size)
  have X4 := Lib.hid (X4.out.nx b1)
  have TX4 := Lib.hid (TX4.out.nx b1)
  go_wp2_with fail
  go_at_call 25
  refine (few_any w1 (Lib.hid (h.out.below bw1))).mono ?_
  rintro e w2 ⟨rfl, b2⟩
  have bw2 := bw1.trans (b2.mono bw1.size)
  have X4 := Lib.hid (X4.out.nx b2)
  have TX4 := Lib.hid (TX4.out.nx b2)
  rcases hf : fewB l with _ | _
  case false =>
    go_wp2_with fail
    go_at_call 11
    refine (awake_any w2 (Lib.hid (G.out.below bw2))).mono ?_
    rintro e w3 ⟨rfl, b3⟩
    go_wp2_with fail
    go_ret
    exact ⟨rfl, bw2.trans (b3.mono bw2.size)⟩
  have n60 : N ≤ 60 := by have := (few_true hf).1; have := NL.out; omega
  clear hf
  have hN := h.out.row.nc
  have hN2 := h.out.row.c63
  have o0 := X4.out.at_ 0 (by simp)
  have o1 := X4.out.at_ 1 (by simp)
  have o2 := X4.out.at_ 2 (by simp)
  simp only [List.getElem?_cons_succ, List.getElem?_cons_zero] at o0 o1 o2
  obtain ⟨W2, hW2⟩ : ∃ W2, w2.alloc (.cells #[.int .i64 kd0, .slice KA0 kn0 kc0, .slice VA0 vn0 vc0] 52) = W2 := ⟨_, rfl⟩
  have b2' : Below w2.heap.size w2 W2 := hW2 ▸ bal _ _
  have OO := Lib.hid (hW2 ▸ or_one (kd := kd0) (hk0.out.below bw2) (hv0.out.below bw2))
  have HW2 := Lib.hid hW2
  clear hW2
  go_wp2_with fail
  rw [HW2.out]
  go_at_call 25
  refine (few_any W2 OO).mono ?_
  rintro e w2' ⟨rfl, b2''⟩
  have bw2 := bw2.trans ((b2'.trans (b2''.mono b2'.size)).mono bw2.size)
  have X4 := Lib.hid ((X4.out.nx b2').nx b2'')
  have TX4 := Lib.hid ((TX4.out.nx b2').nx b2'')
  obtain ⟨w2, rfl⟩ : ∃ u, u = w2' := ⟨_, rfl⟩
  obtain ⟨bb, hbb⟩ : ∃ bb, fewB [(⟨kd0, KA0, kc0, k0, VA0, vc0, v0⟩ : OV)] = bb := ⟨_, rfl⟩
  rw [hbb]
  clear hbb o0 o1 o2
  rcases bb with _ | _
  case false =>
    go_wp2_with fail
    go_at_call 11
    refine (awake_any w2 (Lib.hid (G.out.below bw2))).mono ?_
    rintro e w3 ⟨rfl, b3⟩
    go_wp2_with fail
    go_ret
    exact ⟨rfl, bw2.trans (b3.mono bw2.size)⟩
  by_cases qy : 20 < ky
  · have e1 : decide ((ky : Int) > 20) = true := decide_eq_true (by omega)
    go_wp2_with fail
    go_at_call 11
    refine (awake_any w2 (Lib.hid (G.out.below bw2))).mono ?_
    rintro e w3 ⟨rfl, b3⟩
    go_wp2_with fail
    go_ret
    exact ⟨rfl, bw2.trans (b3.mono bw2.size)⟩
  have e1 : decide ((ky : Int) > 20) = false := decide_eq_false (by omega)
  clear qy
  have X4a := X4
  have T4a := TX4
  go_wp2_with fail
  go_at_call 26
  refine (New_any w2).mono ?_
  rintro e w3 ⟨rfl, b3⟩
  have bw3 := bw2.trans (b3.mono bw2.size)
  obtain ⟨W4, hW4⟩ : ∃ W4, (w3.alloc (.cells #[] 73)).alloc (.cells #[.slice none 0 0, .int .i64 (-1), .slice none 0 0] 30) = W4 := ⟨_, rfl⟩
  have S0 := Lib.hid (hW4 ▸ st_new bw3)
  have HW4 := Lib.hid hW4
  obtain ⟨p, hp⟩ : ∃ p, w3.heap.size + 1 = p := ⟨_, rfl⟩
  obtain ⟨g0, hg0⟩ : ∃ g0, w3.heap.size = g0 := ⟨_, rfl⟩
  rw [hp, hg0] at S0
  clear hW4
  go_upto_region 4 with fail
  rw [HW4.out]
  simp only [hg0, hg0 ▸ hp]
  go_wp2_with fail
  clear e1
  have hb24 : Below w2.heap.size w2 W4 := (HW4.out ▸ ((b3.alloc b3.size _).alloc (by simp; have := b3.size; omega) _))
  have X4b := Lib.hid (X4a.out.nx hb24)
  have T4b := Lib.hid (T4a.out.nx hb24)
  have hp4 : w.heap.size ≤ p4 := by omega
  clear X4 TX4 X4a T4a
  go_loopw [8, 46] (fun lv zv wr => ∃ (j : Nat) (f : FV) (PA FA : Option Addr) (n pc m fc : Nat) (r : Int) (g q ln lc : Nat) (es : List It), j ≤ N ∧ zv = .int .i64 j ∧ lv = .slice (some ⟨g, q, none⟩) ln lc ∧ Hid (Sm w wr p f PA FA n pc m fc r g q ln lc es j) ∧ Hid (Bx wr p4 [.int .i64 kd0, .slice KA0 kn0 kc0, .slice VA0 vn0 vc0]) ∧ Hid (Ty wr p4 52)) (fun _ zv _ => (N - intOf zv).toNat)
  case atStart => exact ⟨0, newV, none, none, 0, 0, 0, 0, -1, g0, 0, 0, 0, [], by omega, rfl, rfl, S0, X4b, T4b⟩
  case round =>
    obtain ⟨j, f, PA, FA, n, pc, m, fc, r, g, q, ln, lc, es, hj, rfl, rfl, S, X4, T4⟩ := hrel
    by_cases hlt : j < N
    · have d1 : decide ((j : Int) < (N : Int)) = true := decide_eq_true (by omega)
      -- one step of the script: from the state S at the head of the round (world wr) to the state S behind the stores (world W9)
      obtain ⟨go, oo, x, rfl, hgo, hx, c0, c1, c2⟩ := Or.item (h.out.below S.out.bw) hlt
      have XD := h.out.dat x (List.mem_of_getElem? hx)
      obtain ⟨kd, KA, kc, k, VA, vc, v⟩ := x
      dsimp only at c0 c1 c2 XD
      obtain ⟨kn, hkn⟩ : ∃ kn, k.length = kn := ⟨_, rfl⟩
      obtain ⟨vn, hvn⟩ : ∃ vn, v.length = vn := ⟨_, rfl⟩
      rw [hkn, hvn] at XD
      rw [hkn] at c1
      rw [hvn] at c2
      have KR := Lib.hid (XD.1.below S.out.bw)
      have VR := Lib.hid (XD.2.below S.out.bw)
      have KS : Hid (∀ g, 0 < kn → blk KA = some g → g < w.heap.size) := Lib.hid fun g h0 e => rd_lt XD.1 h0 e
      have VS : Hid (∀ g, 0 < vn → blk VA = some g → g < w.heap.size) := Lib.hid fun g h0 e => rd_lt XD.2 h0 e
      have HX := Lib.hid hx
      clear XD hx hkn hvn
      obtain ⟨po, hpo⟩ : ∃ po, wr.heap.size = po := ⟨_, rfl⟩
      obtain ⟨Wo, hWo⟩ : ∃ Wo, wr.alloc (.cells #[.int .i64 kd, .slice KA kn kc, .slice VA vn vc] 52) = Wo := ⟨_, rfl⟩
      have bo : Below wr.heap.size wr Wo := hWo ▸ bal _ _
      have XO : Hid (Bx Wo po [.int .i64 kd, .slice KA kn kc, .slice VA vn vc]) := hWo ▸ Lib.hid (Bx.put _ hpo #[.int .i64 kd, .slice KA kn kc, .slice VA vn vc] 52)
      have TXO : Hid (Ty Wo po 52) := hWo ▸ hpo ▸ Lib.hid (Ty.new _ _ _)
      have HWo := Lib.hid hWo
      clear hWo
      have S1 := Lib.hid (S.out.nx bo)
      have KR := Lib.hid (KR.out.nx bo)
      have VR := Lib.hid (VR.out.nx bo)
      have zb := S1.out.bx
      have z0 := zb.at_ 0 (by simp)
      have z1 := zb.at_ 1 (by simp)
      have z2 := zb.at_ 2 (by simp)
      simp only [List.getElem?_cons_succ, List.getElem?_cons_zero] at z0 z1 z2
      have o0 := XO.out.at_ 0 (by simp)
      have o1 := XO.out.at_ 1 (by simp)
      have o2 := XO.out.at_ 2 (by simp)
      simp only [List.getElem?_cons_succ, List.getElem?_cons_zero] at o0 o1 o2
      clear zb
      go_upto_region 7 with fail
      rw [HWo.out]
      go_wp2_with fail
      go_at_call 27
      refine (next_cs (j := j) (base := w.heap.size) (k := k) (v := v) S1.out.fv.cs Wo (Lib.hid (G.out.below S1.out.bw)) (Lib.hid S1.out.fl) (Lib.hid S1.out.ls) S1.out.bw.size KR VR (Lib.hid fun g h0 e => .inl (KS.out g h0 e)) (Lib.hid fun g h0 e => .inl (VS.out g h0 e)) (Lib.hid S1.out.ok) (by omega)).mono ?_
      rintro e w8 ⟨f', g', q', ln', lc', rfl, NX, F8, L8, b8⟩
      obtain ⟨PA', n', pc', r', FA', m', fc', V'⟩ := fv_of f'
      rw [V'.out.val]
      obtain ⟨W9, hW9⟩ : ∃ W9, (((w8.setCell ⟨p, 0, none⟩ (.slice PA' n' pc')).setCell ⟨p, 1, none⟩ (.int .i64 r')).setCell ⟨p, 2, none⟩ (.slice FA' m' fc')) = W9 := ⟨_, rfl⟩
      have S9 := Lib.hid (hW9 ▸ st_put S1.out b8 NX.out F8.out L8.out V'.out)
      have pb := S1.out.bx.nx b8
      have p0 := pb.at_ 0 (by simp)
      have p1 := pb.at_ 1 (by simp)
      have p2 := pb.at_ 2 (by simp)
      simp only [List.getElem?_cons_succ, List.getElem?_cons_zero] at p0 p1 p2
      have t0 := pb.fz 0 (by simp)
      have t1 := pb.fz 1 (by simp)
      have t2 := pb.fz 2 (by simp)
      have HW9 := Lib.hid hW9
      clear z0 z1 z2 o0 o1 o2 pb hW9
      go_upto_region 9 with fail
      rw [HW9.out]
      clear p0 p1 p2 t0 t1 t2
      have ne4 : p4 ≠ p := ty_ne T4.out S.out.ty (by decide)
      have X49 : Hid (Bx W9 p4 [.int .i64 kd0, .slice KA0 kn0 kc0, .slice VA0 vn0 vc0]) := Lib.hid (by rw [← HW9.out]; exact ((X4.out.nx bo).nx b8).kp (kp_res (Kp.refl _ _)) ne4)
      have T49 : Hid (Ty W9 p4 52) := Lib.hid (by rw [← HW9.out]; exact ((((T4.out.nx bo).nx b8).set p 0 _).set p 1 _).set p 2 _)
      go_wp2_with fail
      go_roundw
      case rel => exact ⟨j + 1, f', PA', FA', n', pc', m', fc', _, g', q', ln', lc', _, by omega, by first | trivial | go_num, rfl, S9, X49, T49⟩
      case measure => simp [intOf]; omega
    · obtain rfl : j = N := by omega
      have d1 : decide ((j : Int) < (j : Int)) = false := decide_eq_false (by omega)
      have o0 := X4.out.at_ 0 (by simp)
      have o1 := X4.out.at_ 1 (by simp)
      have o2 := X4.out.at_ 2 (by simp)
      simp only [List.getElem?_cons_succ, List.getElem?_cons_zero] at o0 o1 o2
      have t0 := X4.out.fz 0 (by simp)
      obtain ⟨mn, hmn⟩ : ∃ mn : Int, (if 1 < kd0 then 1 else kd0) = mn := ⟨_, rfl⟩
      obtain ⟨kd, hkd⟩ : ∃ kd : Int, (if 0 < mn then mn else 0) = kd := ⟨_, rfl⟩
      have hkd2 : kd = 0 ∨ kd = 1 := by
        rw [← hkd, ← hmn]; split <;> split <;> omega
      have HMN := Lib.hid hmn
      have HKE := Lib.hid hkd
      clear hmn hkd
      obtain ⟨Wa, hWa⟩ : ∃ Wa, wr.setCell ⟨p4, 0, none⟩ (.int .i64 kd) = Wa := ⟨_, rfl⟩
      have Xa : Hid (Bx Wa p4 [.int .i64 kd, .slice KA0 kn0 kc0, .slice VA0 vn0 vc0]) := hWa ▸ Lib.hid (by have := X4.out.set (j := 0) (by simp) (.int .i64 kd); simpa using this)
      have Sa := Lib.hid (hWa ▸ S.out.kpO hp4 (Kp.of_set wr ⟨p4, 0, none⟩ (.int .i64 kd) (X := (· = p4)) rfl) T4.out)
      have HWa := Lib.hid hWa
      clear hWa
      go_upto_region 13 with fail
      rw [HMN.out, HKE.out, HWa.out]
      have HKD := Lib.hid hkd2
      clear hkd2 o0 o1 o2 t0
      have o0 := Xa.out.at_ 0 (by simp)
      have o1 := Xa.out.at_ 1 (by simp)
      have o2 := Xa.out.at_ 2 (by simp)
      simp only [List.getElem?_cons_succ, List.getElem?_cons_zero] at o0 o1 o2
      have z0 := Sa.out.bx.at_ 0 (by simp)
      have z1 := Sa.out.bx.at_ 1 (by simp)
      have z2 := Sa.out.bx.at_ 2 (by simp)
      simp only [List.getElem?_cons_succ, List.getElem?_cons_zero] at z0 z1 z2
      have KR := Lib.hid (hk0.out.below Sa.out.bw)
      have VR := Lib.hid (hv0.out.below Sa.out.bw)
      go_wp2_with fail
      go_at_call 27
      refine (next_cs (j := j) (base := w.heap.size) (k := k0) (v := v0) Sa.out.fv.cs Wa (Lib.hid (G.out.below Sa.out.bw)) (Lib.hid Sa.out.fl) (Lib.hid Sa.out.ls) Sa.out.bw.size KR VR (Lib.hid fun g h0 e => .inl (KS0.out g h0 e)) (Lib.hid fun g h0 e => .inl (VS0.out g h0 e)) (Lib.hid Sa.out.ok) (by omega)).mono ?_
      rintro e w8 ⟨f', g', q', ln', lc', rfl, NX, F8, L8, b8⟩
      obtain ⟨PA', n', pc', r', FA', m', fc', V'⟩ := fv_of f'
      rw [V'.out.val]
      have STP := Lib.hid (NX.out.stp HKD.out)
      have S8 := Lib.hid (Sa.out.nx b8)
      clear o0 o1 o2 z0 z1 z2
      obtain ⟨pg, hpg⟩ : ∃ pg, w8.heap.size = pg := ⟨_, rfl⟩
      obtain ⟨Wc, hWc⟩ : ∃ Wc, w8.alloc (.cells #[.slice PA' n' pc', .int .i64 r', .slice FA' m' fc'] 30) = Wc := ⟨_, rfl⟩
      have bc : Below w8.heap.size w8 Wc := hWc ▸ bal _ _
      have Xg : Hid (Bx Wc pg [.slice PA' n' pc', .int .i64 r', .slice FA' m' fc']) := hWc ▸ Lib.hid (Bx.put _ hpg #[.slice PA' n' pc', .int .i64 r', .slice FA' m' fc'] 30)
      have TXg : Hid (Ty Wc pg 30) := hWc ▸ hpg ▸ Lib.hid (Ty.new _ _ _)
      have HWc := Lib.hid hWc
      clear hWc
      have S := Lib.hid (S8.out.nx bc)
      have FLg := Lib.hid (F8.out.fl.below bc)
      have z0 := S.out.bx.at_ 0 (by simp)
      have z1 := S.out.bx.at_ 1 (by simp)
      have z2 := S.out.bx.at_ 2 (by simp)
      simp only [List.getElem?_cons_succ, List.getElem?_cons_zero] at z0 z1 z2
      have x0 := Xg.out.at_ 0 (by simp)
      have x1 := Xg.out.at_ 1 (by simp)
      have x2 := Xg.out.at_ 2 (by simp)
      simp only [List.getElem?_cons_succ, List.getElem?_cons_zero] at x0 x1 x2
      have hnn : n ≤ n' := by have := STP.out.le; have := S.out.fv.len; have := V'.out.len; omega
      have e2 : decide ((n' : Int) < (n : Int)) = false := decide_eq_false (by omega)
      have e2n : decide (n' < n) = false := decide_eq_false (by omega)
      have n4 : n ≤ 4096 := by have := S.out.ok.shp.n4; have := S.out.fv.len; omega
      go_upto_region 14 with fail
      rw [HWc.out]
      go_wp2_with fail
      obtain ⟨h1, h2, h3, h4, h5, h6, h7⟩ := cs_root S.out.fv.cs
      have HP : Hid (Pr Wc PA n pc f.ps) := Lib.hid (by have := S.out.fl.fl.pg; rw [← h2, ← h4, ← h5] at this; exact this)
      obtain ⟨h1', h2', h3', h4', h5', h6', h7'⟩ := cs_root V'.out.cs
      have HPg : Hid (Pr Wc PA' n' pc' f'.ps) := Lib.hid (by have := FLg.out.pg; rw [← h2', ← h4', ← h5'] at this; exact this)
      have HFg : Hid (Rd Wc 1 FA' m' fc' (iv f'.free)) := Lib.hid (by have := FLg.out.fr; rw [← h3', ← h6', ← h7'] at this; exact this)
      clear h1 h2 h3 h4 h5 h6 h7 h1' h2' h3' h4' h5' h6' h7' z0 z1 z2 x0 x1 x2
      have HPn := HP.out.row.nc
      have HP63 := HP.out.row.c63
      go_loopw [88] (fun zv wr => ∃ i : Nat, i ≤ n ∧ zv = .int .i64 i ∧ Below Wc.heap.size Wc wr) (fun zv _ => (n - intOf zv).toNat)
      case atStart => exact ⟨0, by omega, rfl, Below.refl _ _⟩
      case round =>
        obtain ⟨i, hi, rfl, bi⟩ := hrel
        by_cases hlt : i < n
        · have d2 : decide ((i : Int) < (n : Int)) = true := decide_eq_true (by omega)
          have i0 : (0 : Int) ≤ (i : Int) := by omega
          have i1 : (i : Int) < (n : Int) := by omega
          have i2 : (i : Int) < (n' : Int) := by omega
          have Si := Lib.hid (S.out.nx bi)
          have Xi := Lib.hid (Xg.out.nx bi)
          obtain ⟨gP, oP, x, rfl, hgP, hx, hcell⟩ := Rd.at1 (val := PV.v) (HP.out.row.nx bi) hlt
          have XR := Lib.hid ((HP.out.dat x (List.mem_of_getElem? hx)).nx bi)
          have HX := Lib.hid hx
          unfold PV.v at hcell
          have z0 := Si.out.bx.at_ 0 (by simp)
          have z1 := Si.out.bx.at_ 1 (by simp)
          have z2 := Si.out.bx.at_ 2 (by simp)
          simp only [List.getElem?_cons_succ, List.getElem?_cons_zero] at z0 z1 z2
          clear hx
          go_wp2_with fail
          go_at_call 28
          refine (rFree_any Si.out.fv.cs (i : Int) wr (Lib.hid Si.out.fl.fl)).mono ?_
          rintro e wf ⟨rfl, bf⟩
          have bxf := bi.trans (bf.mono bi.size)
          by_cases hfr : (i : Int) ∈ f.f.free
          · rw [decide_eq_true hfr]
            clear hfr z0 z1 z2
            go_wp2_with fail
            go_roundw
            case rel => exact ⟨i + 1, by omega, by first | trivial | go_num, bxf⟩
            case measure => simp [intOf]; omega
          · rw [decide_eq_false hfr]
            obtain ⟨gQ, oQ, y, hQ, hgQ, hy, hcy⟩ := Rd.at1 (val := PV.v) (HPg.out.row.nx bxf) (show i < n' by omega)
            have YR := (HPg.out.dat y (List.mem_of_getElem? hy)).nx bxf
            have hxy : x.d = y.d := by
              have hpg := STP.out.pg i (by have := S.out.fv.len; omega) hfr
              rw [List.getD_eq_getElem?_getD, List.getD_eq_getElem?_getD] at hpg
              have e1 : f.f.pg[i]? = some x.d := by show (f.ps.map PV.d)[i]? = _; rw [List.getElem?_map, HX.out]; rfl
              have e2 : f'.f.pg[i]? = some y.d := by show (f'.ps.map PV.d)[i]? = _; rw [List.getElem?_map, hy]; rfl
              rw [e1, e2] at hpg
              exact hpg.symm
            have EQ : Hid (Calls Tryd.prog 29 #[.slice x.A x.d.length x.c, .slice y.A y.d.length y.c] wf fun e w' => e = .returned (.bool true) ∧ Below wf.heap.size wf w') := Lib.hid (by
              have := sEqual_any wf (Lib.hid (XR.out.nx bf)) (Lib.hid YR)
              rwa [eqB_iff.2 hxy] at this)
            have Xf := Lib.hid (Xi.out.nx bf)
            have x0 := Xf.out.at_ 0 (by simp)
            have x1 := Xf.out.at_ 1 (by simp)
            have x2 := Xf.out.at_ 2 (by simp)
            simp only [List.getElem?_cons_succ, List.getElem?_cons_zero] at x0 x1 x2
            unfold PV.v at hcy
            subst hQ
            clear hxy YR hy hfr z0 z1 z2
            go_wp2_with fail
            go_at_call 29
            refine EQ.out.mono ?_
            rintro e we ⟨rfl, be⟩
            have bie := bxf.trans (be.mono bxf.size)
            clear x0 x1 x2 hcy
            go_wp2_with fail
            go_roundw
            case rel => exact ⟨i + 1, by omega, by first | trivial | go_num, bie⟩
            case measure => simp [intOf]; omega
        · obtain rfl : i = n := by omega
          have d2 : decide ((i : Int) < (i : Int)) = false := decide_eq_false (by omega)
          have Si := Lib.hid (S.out.nx bi)
          have Xi := Lib.hid (Xg.out.nx bi)
          have z0 := Si.out.bx.at_ 0 (by simp)
          have z1 := Si.out.bx.at_ 1 (by simp)
          have z2 := Si.out.bx.at_ 2 (by simp)
          simp only [List.getElem?_cons_succ, List.getElem?_cons_zero] at z0 z1 z2
          have x0 := Xi.out.at_ 0 (by simp)
          have x1 := Xi.out.at_ 1 (by simp)
          have x2 := Xi.out.at_ 2 (by simp)
          simp only [List.getElem?_cons_succ, List.getElem?_cons_zero] at x0 x1 x2
          have CF : Hid (Calls Tryd.prog 30 #[.slice FA' m' fc', .func (.func 31) #[] #[.pointer (some ⟨p, 0, none⟩)]] wr fun e w' => e = .returned (.bool false) ∧ Below wr.heap.size wr w') := Lib.hid (by
            have := keeps_any (P := ⟨p, 0, none⟩) (fun x : Int => .int .i64 x) (fun x => !decide (x ∈ f.f.free)) wr (Lib.hid (HFg.out.nx bi)) (Lib.hid fun U hU x _ => keeps1_any Si.out.fv.cs x U (Lib.hid (Si.out.fl.fl.below hU)) (Lib.hid (Si.out.bx.nx hU)))
            have e : (f'.free.any fun x => !decide (x ∈ f.f.free)) = false := by
              rw [List.any_eq_false]
              intro x hx
              simp [STP.out.fr x hx]
            rwa [e] at this)
          go_wp2_with fail
          go_at_call 30
          refine CF.out.mono ?_
          rintro e wk ⟨rfl, bk⟩
          have bck := bi.trans (bk.mono bi.size)
          have Sk := Lib.hid (S.out.nx bck)
          have Xk := Lib.hid (Xg.out.nx bck)
          have hYn := hY.out.row.nc
          have hY63 := hY.out.row.c63
          have HYk := Lib.hid (hY.out.below Sk.out.bw)
          clear z0 z1 z2 x0 x1 x2 CF
          go_wp2_with fail
          go_loopw [114] (fun zv wr => ∃ i : Nat, i ≤ ky ∧ zv = .int .i64 i ∧ Below wk.heap.size wk wr) (fun zv _ => (ky - intOf zv).toNat)
          case atStart => exact ⟨0, by omega, rfl, Below.refl _ _⟩
          case round =>
            obtain ⟨t, ht, rfl, bt⟩ := hrel
            by_cases hlt : t < ky
            · have d3 : decide ((t : Int) < (ky : Int)) = true := decide_eq_true (by omega)
              obtain ⟨gK, oK, y, hK, hgK, hy, hcy⟩ := Rd.at1 (val := PV.v) (HYk.out.row.nx bt) hlt
              have YR := (HYk.out.dat y (List.mem_of_getElem? hy)).nx bt
              unfold PV.v at hcy
              subst hK
              obtain ⟨yA, yc, yd⟩ := y
              dsimp only at hcy YR
              obtain ⟨yn, hyn⟩ : ∃ yn, yd.length = yn := ⟨_, rfl⟩
              rw [hyn] at hcy YR
              have YR := Lib.hid YR
              clear hy hyn
              by_cases hbig : 200 < yn
              · have d4 : decide ((yn : Int) > 200) = true := decide_eq_true (by omega)
                go_wp2_with fail
                go_roundw
                case rel => exact ⟨t + 1, by omega, by first | trivial | go_num, bt⟩
                case measure => simp [intOf]; omega
              · have d4 : decide ((yn : Int) > 200) = false := decide_eq_false (by omega)
                have St := Lib.hid (Sk.out.nx bt)
                have z0 := St.out.bx.at_ 0 (by simp)
                have z1 := St.out.bx.at_ 1 (by simp)
                have z2 := St.out.bx.at_ 2 (by simp)
                simp only [List.getElem?_cons_succ, List.getElem?_cons_zero] at z0 z1 z2
                go_wp2_with fail
                go_at_call 18
                refine (Get_cs St.out.fv.cs _ (Lib.hid (G.out.below St.out.bw)) (Lib.hid St.out.fl.fl) YR).mono ?_
                rintro e wd ⟨dv, er, DA, dc, hg, rfl, DR, bd⟩
                have GO := Lib.hid hg
                have Sd := Lib.hid (St.out.nx bd)
                have btd := bt.trans (bd.mono bt.size)
                have Xd := Lib.hid (Xk.out.nx btd)
                have YRd := Lib.hid (YR.out.nx bd)
                have FLd := Lib.hid ((FLg.out.nx bck).nx btd)
                clear hg z0 z1 z2 hcy
                have z0 := Sd.out.bx.at_ 0 (by simp)
                have z1 := Sd.out.bx.at_ 1 (by simp)
                have z2 := Sd.out.bx.at_ 2 (by simp)
                simp only [List.getElem?_cons_succ, List.getElem?_cons_zero] at z0 z1 z2
                have x0 := Xd.out.at_ 0 (by simp)
                have x1 := Xd.out.at_ 1 (by simp)
                have x2 := Xd.out.at_ 2 (by simp)
                simp only [List.getElem?_cons_succ, List.getElem?_cons_zero] at x0 x1 x2
                obtain ⟨dn, hdn⟩ : ∃ dn, dv.length = dn := ⟨_, rfl⟩
                rw [hdn] at DR
                rw [hdn]
                clear hdn
                go_wp2_with fail
                go_at_call 22
                refine (Old_cs V'.out.cs r _ (Lib.hid (G.out.below Sd.out.bw)) FLd YRd).mono ?_
                rintro e we ⟨dw, er', EA, ec, ho, rfl, ER, be⟩
                rw [Sd.out.fv.root] at ho
                obtain ⟨rfl, rfl⟩ := keep_old Sd.out.ok STP.out GO.out ho
                obtain ⟨en, hen⟩ : ∃ en, dv.length = en := ⟨_, rfl⟩
                rw [hen] at ER
                rw [hen]
                have bte := btd.trans (be.mono btd.size)
                have EQ : Hid (Calls Tryd.prog 29 #[.slice DA dn dc, .slice EA en ec] we fun e w' => e = .returned (.bool true) ∧ Below we.heap.size we w') := Lib.hid (by
                  have := sEqual_any we (Lib.hid (DR.out.nx be)) ER
                  rwa [eqB_self] at this)
                clear ho hen z0 z1 z2 x0 x1 x2
                go_wp2_with fail
                go_at_call 29
                refine EQ.out.mono ?_
                rintro e wf ⟨rfl, bf⟩
                have btf := bte.trans (bf.mono bte.size)
                go_wp2_with fail
                go_roundw
                case rel => exact ⟨t + 1, by omega, by first | trivial | go_num, btf⟩
                case measure => simp [intOf]; omega
            · obtain rfl : t = ky := by omega
              have d3 : decide ((t : Int) < (t : Int)) = false := decide_eq_false (by omega)
              have bwz := Sk.out.bw.trans (bt.mono Sk.out.bw.size)
              go_wp2_with fail
              go_ret
              exact ⟨rfl, bwz⟩
end Go.Proofs.YtphiblmkgbkdmaaDoor.Pg
