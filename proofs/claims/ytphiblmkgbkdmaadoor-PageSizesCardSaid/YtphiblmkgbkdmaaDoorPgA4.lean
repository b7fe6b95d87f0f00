/- PageSizes. -/
import Derived.Test.YtphiblmkgbkdmaaDoorPgS1
namespace Go.Proofs.YtphiblmkgbkdmaaDoor.Pg
set_option linter.unusedVariables false
set_option linter.unusedSimpArgs false
open Go.RowKit Wl

set_option maxRecDepth 20000 in
set_option maxHeartbeats 6400000 in
theorem PageSizes_walk (A : Option Addr) (N c : Nat) (l : List OV) (w : World) (G : Hid (Gl w)) (h : Hid (Or w A N c l)) :
    Calls Tryd.prog 5 #[.slice A N c] w fun e w' => e = .returned (.bool true) ∧ Below w.heap.size w w' := by
  have NL := Lib.hid h.out.len
  go_enter Tryd.func5, Tryd.ntmps5
  go_wp2_with fail
  go_at_call 11
  refine (awake_any w G).mono ?_
  rintro e w1 ⟨rfl, b1⟩
  go_wp2_with fail
  go_at_call 25
  refine (few_any w1 (Lib.hid (h.out.below b1))).mono ?_
  rintro e w2 ⟨rfl, b2⟩
  have bw2 := b1.trans (b2.mono b1.size)
  rcases hf : fewB l with _ | _
  case false =>
    go_wp2_with fail
    go_at_call 11
    refine (awake_any w2 (Lib.hid (G.out.below bw2))).mono ?_
    rintro e w3 ⟨rfl, b3⟩
    go_wp2_with fail
    go_ret
    exact ⟨rfl, bw2.trans (b3.mono bw2.size)⟩
  have n60 : N ≤ 60 := by have := (few_true hf).1; have := NL.out; omega
  have FEW := Lib.hid (few_true hf).2
  clear hf
  have hN := h.out.row.nc
  have hN2 := h.out.row.c63
  go_wp2_with fail
  go_at_call 26
  refine (New_any w2).mono ?_
  rintro e w3 ⟨rfl, b3⟩
  have bw3 := bw2.trans (b3.mono bw2.size)
  obtain ⟨W4, hW4⟩ : ∃ W4, (w3.alloc (.cells #[] 73)).alloc (.cells #[.slice none 0 0, .int .i64 (-1), .slice none 0 0] 30) = W4 := ⟨_, rfl⟩
  have S0 := Lib.hid (hW4 ▸ st_new bw3)
  have HW4 := Lib.hid hW4
  obtain ⟨p, hp⟩ : ∃ p, w3.heap.size + 1 = p := ⟨_, rfl⟩
  obtain ⟨g0, hg0⟩ : ∃ g0, w3.heap.size = g0 := ⟨_, rfl⟩
  rw [hp, hg0] at S0
  clear hW4
  go_upto_region 4 with fail
  rw [HW4.out]
  simp only [hg0, hg0 ▸ hp]
  go_wp2_with fail
  go_loopw [4, 22] (fun lv zv wr => ∃ (j : Nat) (f : FV) (PA FA : Option Addr) (n pc m fc : Nat) (r : Int) (g q ln lc : Nat) (es : List It), j ≤ N ∧ zv = .int .i64 j ∧ lv = .slice (some ⟨g, q, none⟩) ln lc ∧ Hid (Sm w wr p f PA FA n pc m fc r g q ln lc es j)) (fun _ zv _ => (N - intOf zv).toNat)
  case atStart => exact ⟨0, newV, none, none, 0, 0, 0, 0, -1, g0, 0, 0, 0, [], by omega, rfl, rfl, S0⟩
  case round =>
    obtain ⟨j, f, PA, FA, n, pc, m, fc, r, g, q, ln, lc, es, hj, rfl, rfl, S⟩ := hrel
    by_cases hlt : j < N
    · have d1 : decide ((j : Int) < (N : Int)) = true := decide_eq_true (by omega)
      -- one step of the script: from the state S at the head of the round (world wr) to the state S behind the stores (world W9)
      obtain ⟨go, oo, x, rfl, hgo, hx, c0, c1, c2⟩ := Or.item (h.out.below S.out.bw) hlt
      have XD := h.out.dat x (List.mem_of_getElem? hx)
      obtain ⟨kd, KA, kc, k, VA, vc, v⟩ := x
      dsimp only at c0 c1 c2 XD
      obtain ⟨kn, hkn⟩ : ∃ kn, k.length = kn := ⟨_, rfl⟩
      obtain ⟨vn, hvn⟩ : ∃ vn, v.length = vn := ⟨_, rfl⟩
      rw [hkn, hvn] at XD
      rw [hkn] at c1
      rw [hvn] at c2
      have KR := Lib.hid (XD.1.below S.out.bw)
      have VR := Lib.hid (XD.2.below S.out.bw)
      have KS : Hid (∀ g, 0 < kn → blk KA = some g → g < w.heap.size) := Lib.hid fun g h0 e => rd_lt XD.1 h0 e
      have VS : Hid (∀ g, 0 < vn → blk VA = some g → g < w.heap.size) := Lib.hid fun g h0 e => rd_lt XD.2 h0 e
      have HX := Lib.hid hx
      clear XD hx hkn hvn
      obtain ⟨po, hpo⟩ : ∃ po, wr.heap.size = po := ⟨_, rfl⟩
      obtain ⟨Wo, hWo⟩ : ∃ Wo, wr.alloc (.cells #[.int .i64 kd, .slice KA kn kc, .slice VA vn vc] 52) = Wo := ⟨_, rfl⟩
      have bo : Below wr.heap.size wr Wo := hWo ▸ bal _ _
      have XO : Hid (Bx Wo po [.int .i64 kd, .slice KA kn kc, .slice VA vn vc]) := hWo ▸ Lib.hid (Bx.put _ hpo #[.int .i64 kd, .slice KA kn kc, .slice VA vn vc] 52)
      have TXO : Hid (Ty Wo po 52) := hWo ▸ hpo ▸ Lib.hid (Ty.new _ _ _)
      have HWo := Lib.hid hWo
      clear hWo
      have S1 := Lib.hid (S.out.nx bo)
      have KR := Lib.hid (KR.out.nx bo)
      have VR := Lib.hid (VR.out.nx bo)
      have zb := S1.out.bx
      have z0 := zb.at_ 0 (by simp)
      have z1 := zb.at_ 1 (by simp)
      have z2 := zb.at_ 2 (by simp)
      simp only [List.getElem?_cons_succ, List.getElem?_cons_zero] at z0 z1 z2
      have o0 := XO.out.at_ 0 (by simp)
      have o1 := XO.out.at_ 1 (by simp)
      have o2 := XO.out.at_ 2 (by simp)
      simp only [List.getElem?_cons_succ, List.getElem?_cons_zero] at o0 o1 o2
      clear zb
      go_upto_region 7 with fail
      rw [HWo.out]
      go_wp2_with fail
      go_at_call 27
      refine (next_cs (j := j) (base := w.heap.size) (k := k) (v := v) S1.out.fv.cs Wo (Lib.hid (G.out.below S1.out.bw)) (Lib.hid S1.out.fl) (Lib.hid S1.out.ls) S1.out.bw.size KR VR (Lib.hid fun g h0 e => .inl (KS.out g h0 e)) (Lib.hid fun g h0 e => .inl (VS.out g h0 e)) (Lib.hid S1.out.ok) (by omega)).mono ?_
      rintro e w8 ⟨f', g', q', ln', lc', rfl, NX, F8, L8, b8⟩
      obtain ⟨PA', n', pc', r', FA', m', fc', V'⟩ := fv_of f'
      rw [V'.out.val]
      obtain ⟨W9, hW9⟩ : ∃ W9, (((w8.setCell ⟨p, 0, none⟩ (.slice PA' n' pc')).setCell ⟨p, 1, none⟩ (.int .i64 r')).setCell ⟨p, 2, none⟩ (.slice FA' m' fc')) = W9 := ⟨_, rfl⟩
      have S9 := Lib.hid (hW9 ▸ st_put S1.out b8 NX.out F8.out L8.out V'.out)
      have pb := S1.out.bx.nx b8
      have p0 := pb.at_ 0 (by simp)
      have p1 := pb.at_ 1 (by simp)
      have p2 := pb.at_ 2 (by simp)
      simp only [List.getElem?_cons_succ, List.getElem?_cons_zero] at p0 p1 p2
      have t0 := pb.fz 0 (by simp)
      have t1 := pb.fz 1 (by simp)
      have t2 := pb.fz 2 (by simp)
      have HW9 := Lib.hid hW9
      clear z0 z1 z2 o0 o1 o2 pb hW9
      go_upto_region 9 with fail
      rw [HW9.out]
      clear p0 p1 p2 t0 t1 t2
      have z0 := S9.out.bx.at_ 0 (by simp)
      have z1 := S9.out.bx.at_ 1 (by simp)
      have z2 := S9.out.bx.at_ 2 (by simp)
      simp only [List.getElem?_cons_succ, List.getElem?_cons_zero] at z0 z1 z2
      go_wp2_with fail
      go_at_call 17
      refine (Check_cs S9.out.fv.cs W9 (Lib.hid (G.out.below S9.out.bw)) (Lib.hid S9.out.fl.fl)).mono ?_
      rintro e wc ⟨k1, er, hc, rfl, bc⟩
      obtain ⟨rfl, hk1, hk2⟩ := chk_sok S9.out.ok hc
      have S10 := Lib.hid (S9.out.nx bc)
      rw [← S9.out.ls.lr.len] at hk1
      rw [← S9.out.fv.root] at hk2
      have hln := S9.out.ls.lr.len
      have hln2 := S9.out.ok.n
      have hw : IntKind.i64.wrap (2 * (ln' : Int)) = 2 * (ln' : Int) := by rw [IntWalk.i64_in _ (by omega)]
      have e1 : decide ((k1 : Int) > 2 * (ln' : Int)) = false := decide_eq_false (by omega)
      clear z0 z1 z2 hc hln hln2
      have z0 := S10.out.bx.at_ 0 (by simp)
      have z1 := S10.out.bx.at_ 1 (by simp)
      have z2 := S10.out.bx.at_ 2 (by simp)
      simp only [List.getElem?_cons_succ, List.getElem?_cons_zero] at z0 z1 z2
      by_cases h0 : k1 = 0
      · obtain rfl : r' = -1 := hk2.1 h0
        subst h0
        clear hk1 hk2
        go_wp2_with fail
        go_roundw
        case rel => exact ⟨j + 1, f', PA', FA', n', pc', m', fc', _, g', q', ln', lc', _, by omega, by first | trivial | go_num, rfl, S10⟩
        case measure => simp [intOf]; omega
      · have e2 : decide ((k1 : Int) = 0) = false := decide_eq_false (by omega)
        have e2' : ((k1 : Int) == 0) = false := by simpa using h0
        have h3 : r' ≠ -1 := fun e => h0 (hk2.2 e)
        have e3 : decide (r' = -1) = false := decide_eq_false h3
        have e3' : (r' == -1) = false := by simpa using h3
        clear hk1 hk2 h0 h3
        go_wp2_with fail
        go_roundw
        case rel => exact ⟨j + 1, f', PA', FA', n', pc', m', fc', _, g', q', ln', lc', _, by omega, by first | trivial | go_num, rfl, S10⟩
        case measure => simp [intOf]; omega
    · obtain rfl : j = N := by omega
      have d1 : decide ((j : Int) < (j : Int)) = false := decide_eq_false (by omega)
      go_wp2_with fail
      go_ret
      exact ⟨rfl, S.out.bw⟩
end Go.Proofs.YtphiblmkgbkdmaaDoor.Pg
