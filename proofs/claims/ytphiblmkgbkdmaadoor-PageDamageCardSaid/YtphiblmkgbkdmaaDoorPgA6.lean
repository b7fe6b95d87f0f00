/- PageDamage. -/
import Derived.Test.YtphiblmkgbkdmaaDoorPgS1
import Derived.Test.YtphiblmkgbkdmaaDoorPgDm
import Derived.Laws.OwnMore
namespace Go.Proofs.YtphiblmkgbkdmaaDoor.Pg
set_option linter.unusedVariables false
set_option linter.unusedSimpArgs false
open Go.RowKit Wl

theorem u8_xor_int (u : UInt8) {b : Int} (h1 : 0 ≤ b) (h2 : b ≤ 255) : bits BinOp.xor IntKind.u8 (u.toNat : Int) b = ((u ^^^ UInt8.ofNat b.toNat).toNat : Int) := by
  have hb : b = ((UInt8.ofNat b.toNat).toNat : Int) := by simp; omega
  generalize UInt8.ofNat b.toNat = y at hb ⊢
  subst hb
  rw [u8_xor_nat u.toNat y.toNat u.toNat_lt y.toNat_lt, UInt8.toNat_xor]
theorem xor_ne (u : UInt8) {b : Int} (h1 : 0 ≤ b) (h2 : b ≤ 255) (h0 : b ≠ 0) : u ^^^ UInt8.ofNat b.toNat ≠ u := by
  intro e
  have h := congrArg (fun x => u ^^^ x) e
  simp only [← UInt8.xor_assoc, UInt8.xor_self, UInt8.zero_xor] at h
  have := congrArg UInt8.toNat h
  simp at this
  omega
/-- The damaged file in memory. -/
theorem dam_fl {wc W : World} {f : FV} {PA FA : Option Addr} {n pc m fc gR cR gB cB I K b1 b2 : Nat} {r : Int} {xd : List UInt8} {v : UInt8} (hcs : CsOf f PA n pc r FA m fc) (hfl : Fl wc f) (b : Below wc.heap.size wc W)
    (row : W.ownsRow b1 22 1 (.slice (some ⟨gR, 0, none⟩) n cR) n ((pv f.ps).set I (.slice (some ⟨gB, 0, none⟩) 256 cB))) (byt : W.ownsRow b2 5 1 (.slice (some ⟨gB, 0, none⟩) 256 cB) 256 ((bv xd).set K (.int .u8 (v.toNat : Int)))) (hl : xd.length = 256) :
    ∃ gf : FV, Fl W gf ∧ CsOf gf (some ⟨gR, 0, none⟩) n cR r FA m fc ∧ gf.f.pg = f.f.pg.set I (xd.set K v) ∧ gf.f.root = f.f.root ∧ gf.f.free = f.f.free := by
  obtain ⟨h1, h2, h3, h4, h5, h6, h7⟩ := cs_root hcs
  subst h1 h2 h3 h4 h5 h6 h7
  have hq : PV.v ⟨some ⟨gB, 0, none⟩, cB, xd.set K v⟩ = .slice (some ⟨gB, 0, none⟩) 256 cB := by simp [PV.v, hl]
  refine ⟨⟨some ⟨gR, 0, none⟩, cR, f.ps.set I ⟨some ⟨gB, 0, none⟩, cB, xd.set K v⟩, f.root, f.FA, f.fc, f.free⟩, ⟨⟨?_, fun x hx => ?_⟩, hfl.fr.nx b⟩, Lib.hid (by simp [FV.cs]), ?_, rfl, rfl⟩
  · have := Rd.of_own row
    rw [← hq] at this
    simp only [List.length_set]
    unfold pv at this ⊢
    rw [List.map_set]
    exact this
  · rcases List.mem_or_eq_of_mem_set hx with h | h
    · exact (hfl.pg.dat x h).nx b
    · subst h
      have := Rd.of_own byt
      have e : bv (xd.set K v) = (bv xd).set K (.int .u8 (v.toNat : Int)) := by unfold bv; rw [List.map_set]
      simp only [List.length_set, hl]
      rw [e]
      exact this
  · show (f.ps.set I _).map PV.d = (f.ps.map PV.d).set I _
    rw [List.map_set]
theorem kp_one {W U : World} {R o : Nat} {a : Value} (h : Kp W U (· = R)) : Kp W (U.setCell ⟨R, o, none⟩ a) (· = R) := h.trans (Kp.of_set U ⟨R, o, none⟩ a (X := (· = R)) rfl) fun _ _ e => e
theorem rcl_free {F G : Fi} {es : List It} {j : Nat} (h : Sok F es j) (r : Rcl F G) : ∃ ps, Fok F ps es ∧ ∀ m : Nat, m < F.pg.length → ((m : Int) ∈ G.free ↔ m ∉ ps) := by
  obtain ⟨ps, hf⟩ := h.ok
  exact ⟨ps, hf, fun m hm => by rw [(rcl_fok hf r).2 m]; exact ⟨fun h => h.2, fun h => ⟨hm, h⟩⟩⟩
set_option maxRecDepth 20000 in
set_option maxHeartbeats 6400000 in
theorem PageDamage_walk (A : Option Addr) (N c : Nat) (l : List OV) (at_ bY : Int) (w : World) (G : Hid (Gl w)) (h : Hid (Or w A N c l)) (a1 : 0 ≤ at_) (a2 : at_ ≤ 65535) (y1 : 0 ≤ bY) (y2 : bY ≤ 255) :
    Calls Tryd.prog 8 #[.slice A N c, .int .u16 at_, .int .u8 bY] w fun e w' => e = .returned (.bool true) ∧ Below w.heap.size w w' := by
  have NL := Lib.hid h.out.len
  go_enter Tryd.func8, Tryd.ntmps8
  go_wp2_with fail
  go_at_call 11
  refine (awake_any w G).mono ?_
  rintro e w1 ⟨rfl, b1⟩
  go_wp2_with fail
  go_at_call 25
  refine (few_any w1 (Lib.hid (h.out.below b1))).mono ?_
  rintro e w2 ⟨rfl, b2⟩
  have bw2 := b1.trans (b2.mono b1.size)
  rcases hf : fewB l with _ | _
  case false =>
    go_wp2_with fail
    go_at_call 11
    refine (awake_any w2 (Lib.hid (G.out.below bw2))).mono ?_
    rintro e w3 ⟨rfl, b3⟩
    go_wp2_with fail
    go_ret
    exact ⟨rfl, bw2.trans (b3.mono bw2.size)⟩
  have n60 : N ≤ 60 := by have := (few_true hf).1; have := NL.out; omega
  clear hf
  have hN := h.out.row.nc
  have hN2 := h.out.row.c63
  go_wp2_with fail
  go_at_call 26
  refine (New_any w2).mono ?_
  rintro e w3 ⟨rfl, b3⟩
  have bw3 := bw2.trans (b3.mono bw2.size)
  obtain ⟨W4, hW4⟩ : ∃ W4, (w3.alloc (.cells #[] 73)).alloc (.cells #[.slice none 0 0, .int .i64 (-1), .slice none 0 0] 30) = W4 := ⟨_, rfl⟩
  have S0 := Lib.hid (hW4 ▸ st_new bw3)
  have HW4 := Lib.hid hW4
  obtain ⟨p, hp⟩ : ∃ p, w3.heap.size + 1 = p := ⟨_, rfl⟩
  obtain ⟨g0, hg0⟩ : ∃ g0, w3.heap.size = g0 := ⟨_, rfl⟩
  rw [hp, hg0] at S0
  clear hW4
  go_upto_region 4 with fail
  rw [HW4.out]
  simp only [hg0, hg0 ▸ hp]
  go_wp2_with fail
  go_loopw [8, 37] (fun lv zv wr => ∃ (j : Nat) (f : FV) (PA FA : Option Addr) (n pc m fc : Nat) (r : Int) (g q ln lc : Nat) (es : List It), j ≤ N ∧ zv = .int .i64 j ∧ lv = .slice (some ⟨g, q, none⟩) ln lc ∧ Hid (Sm w wr p f PA FA n pc m fc r g q ln lc es j)) (fun _ zv _ => (N - intOf zv).toNat)
  case atStart => exact ⟨0, newV, none, none, 0, 0, 0, 0, -1, g0, 0, 0, 0, [], by omega, rfl, rfl, S0⟩
  case round =>
    obtain ⟨j, f, PA, FA, n, pc, m, fc, r, g, q, ln, lc, es, hj, rfl, rfl, S⟩ := hrel
    by_cases hlt : j < N
    · have d1 : decide ((j : Int) < (N : Int)) = true := decide_eq_true (by omega)
      -- one step of the script: from the state S at the head of the round (world wr) to the state S behind the stores (world W9)
      obtain ⟨go, oo, x, rfl, hgo, hx, c0, c1, c2⟩ := Or.item (h.out.below S.out.bw) hlt
      have XD := h.out.dat x (List.mem_of_getElem? hx)
      obtain ⟨kd, KA, kc, k, VA, vc, v⟩ := x
      dsimp only at c0 c1 c2 XD
      obtain ⟨kn, hkn⟩ : ∃ kn, k.length = kn := ⟨_, rfl⟩
      obtain ⟨vn, hvn⟩ : ∃ vn, v.length = vn := ⟨_, rfl⟩
      rw [hkn, hvn] at XD
      rw [hkn] at c1
      rw [hvn] at c2
      have KR := Lib.hid (XD.1.below S.out.bw)
      have VR := Lib.hid (XD.2.below S.out.bw)
      have KS : Hid (∀ g, 0 < kn → blk KA = some g → g < w.heap.size) := Lib.hid fun g h0 e => rd_lt XD.1 h0 e
      have VS : Hid (∀ g, 0 < vn → blk VA = some g → g < w.heap.size) := Lib.hid fun g h0 e => rd_lt XD.2 h0 e
      have HX := Lib.hid hx
      clear XD hx hkn hvn
      obtain ⟨po, hpo⟩ : ∃ po, wr.heap.size = po := ⟨_, rfl⟩
      obtain ⟨Wo, hWo⟩ : ∃ Wo, wr.alloc (.cells #[.int .i64 kd, .slice KA kn kc, .slice VA vn vc] 52) = Wo := ⟨_, rfl⟩
      have bo : Below wr.heap.size wr Wo := hWo ▸ bal _ _
      have XO : Hid (Bx Wo po [.int .i64 kd, .slice KA kn kc, .slice VA vn vc]) := hWo ▸ Lib.hid (Bx.put _ hpo #[.int .i64 kd, .slice KA kn kc, .slice VA vn vc] 52)
      have TXO : Hid (Ty Wo po 52) := hWo ▸ hpo ▸ Lib.hid (Ty.new _ _ _)
      have HWo := Lib.hid hWo
      clear hWo
      have S1 := Lib.hid (S.out.nx bo)
      have KR := Lib.hid (KR.out.nx bo)
      have VR := Lib.hid (VR.out.nx bo)
      have zb := S1.out.bx
      have z0 := zb.at_ 0 (by simp)
      have z1 := zb.at_ 1 (by simp)
      have z2 := zb.at_ 2 (by simp)
      simp only [List.getElem?_cons_succ, List.getElem?_cons_zero] at z0 z1 z2
      have o0 := XO.out.at_ 0 (by simp)
      have o1 := XO.out.at_ 1 (by simp)
      have o2 := XO.out.at_ 2 (by simp)
      simp only [List.getElem?_cons_succ, List.getElem?_cons_zero] at o0 o1 o2
      clear zb
      go_upto_region 7 with fail
      rw [HWo.out]
      go_wp2_with fail
      go_at_call 27
      refine (next_cs (j := j) (base := w.heap.size) (k := k) (v := v) S1.out.fv.cs Wo (Lib.hid (G.out.below S1.out.bw)) (Lib.hid S1.out.fl) (Lib.hid S1.out.ls) S1.out.bw.size KR VR (Lib.hid fun g h0 e => .inl (KS.out g h0 e)) (Lib.hid fun g h0 e => .inl (VS.out g h0 e)) (Lib.hid S1.out.ok) (by omega)).mono ?_
      rintro e w8 ⟨f', g', q', ln', lc', rfl, NX, F8, L8, b8⟩
      obtain ⟨PA', n', pc', r', FA', m', fc', V'⟩ := fv_of f'
      rw [V'.out.val]
      obtain ⟨W9, hW9⟩ : ∃ W9, (((w8.setCell ⟨p, 0, none⟩ (.slice PA' n' pc')).setCell ⟨p, 1, none⟩ (.int .i64 r')).setCell ⟨p, 2, none⟩ (.slice FA' m' fc')) = W9 := ⟨_, rfl⟩
      have S9 := Lib.hid (hW9 ▸ st_put S1.out b8 NX.out F8.out L8.out V'.out)
      have pb := S1.out.bx.nx b8
      have p0 := pb.at_ 0 (by simp)
      have p1 := pb.at_ 1 (by simp)
      have p2 := pb.at_ 2 (by simp)
      simp only [List.getElem?_cons_succ, List.getElem?_cons_zero] at p0 p1 p2
      have t0 := pb.fz 0 (by simp)
      have t1 := pb.fz 1 (by simp)
      have t2 := pb.fz 2 (by simp)
      have HW9 := Lib.hid hW9
      clear z0 z1 z2 o0 o1 o2 pb hW9
      go_upto_region 9 with fail
      rw [HW9.out]
      clear p0 p1 p2 t0 t1 t2
      go_wp2_with fail
      go_roundw
      case rel => exact ⟨j + 1, f', PA', FA', n', pc', m', fc', _, g', q', ln', lc', _, by omega, by first | trivial | go_num, rfl, S9⟩
      case measure => simp [intOf]; omega
    · obtain rfl : j = N := by omega
      have d1 : decide ((j : Int) < (j : Int)) = false := decide_eq_false (by omega)
      have z0 := S.out.bx.at_ 0 (by simp)
      have z1 := S.out.bx.at_ 1 (by simp)
      have z2 := S.out.bx.at_ 2 (by simp)
      simp only [List.getElem?_cons_succ, List.getElem?_cons_zero] at z0 z1 z2
      by_cases hn0 : n = 0
      · subst hn0
        have bwr := S.out.bw
        go_wp2_with fail
        go_ret
        exact ⟨rfl, bwr⟩
      have d2 : decide ((n : Int) = 0) = false := decide_eq_false (by omega)
      have d2' : ((n : Int) == 0) = false := by simpa using hn0
      by_cases hy0 : bY = 0
      · subst hy0
        have bwr := S.out.bw
        go_wp2_with fail
        go_ret
        exact ⟨rfl, bwr⟩
      have d3 : decide (bY = 0) = false := decide_eq_false hy0
      have d3' : (bY == 0) = false := by simpa using hy0
      have HY0 := Lib.hid hy0
      clear hy0
      go_wp2_with fail
      go_at_call 36
      refine (Reclaim_nil S.out.fv.cs wr (Lib.hid (G.out.below S.out.bw)) (Lib.hid S.out.fl.fl) (Lib.hid S.out.ok.vld)).mono ?_
      rintro e wa ⟨fa, rfl, hra, FLa, ba⟩
      have RA := Lib.hid (rcl_free S.out.ok hra)
      obtain ⟨PAa, na, pca, ra, FAa, ma, fca, Va⟩ := fv_of fa
      rw [Va.out.val]
      have S := Lib.hid (S.out.nx ba)
      clear hra z0 z1 z2
      obtain ⟨pa, hpa⟩ : ∃ pa, wa.heap.size = pa := ⟨_, rfl⟩
      obtain ⟨Wb, hWb⟩ : ∃ Wb, wa.alloc (.cells #[.slice PAa na pca, .int .i64 ra, .slice FAa ma fca] 30) = Wb := ⟨_, rfl⟩
      have bb : Below wa.heap.size wa Wb := hWb ▸ bal _ _
      have Xa : Hid (Bx Wb pa [.slice PAa na pca, .int .i64 ra, .slice FAa ma fca]) := hWb ▸ Lib.hid (Bx.put _ hpa #[.slice PAa na pca, .int .i64 ra, .slice FAa ma fca] 30)
      have TXa : Hid (Ty Wb pa 30) := hWb ▸ hpa ▸ Lib.hid (Ty.new _ _ _)
      have HWb := Lib.hid hWb
      clear hWb
      have S := Lib.hid (S.out.nx bb)
      have FLa := Lib.hid (FLa.out.nx bb)
      have z0 := S.out.bx.at_ 0 (by simp)
      have z1 := S.out.bx.at_ 1 (by simp)
      have z2 := S.out.bx.at_ 2 (by simp)
      simp only [List.getElem?_cons_succ, List.getElem?_cons_zero] at z0 z1 z2
      go_upto_region 15 with fail
      rw [HWb.out]
      go_wp2_with fail
      go_at_call 17
      refine (Check_cs S.out.fv.cs Wb (Lib.hid (G.out.below S.out.bw)) (Lib.hid S.out.fl.fl)).mono ?_
      rintro e wc ⟨k1, er, hc, rfl, bc⟩
      have CH := Lib.hid hc
      have S := Lib.hid (S.out.nx bc)
      have Xa := Lib.hid (Xa.out.nx bc)
      have FLa := Lib.hid (FLa.out.nx bc)
      clear hc z0 z1 z2
      have z0 := S.out.bx.at_ 0 (by simp)
      have z1 := S.out.bx.at_ 1 (by simp)
      have z2 := S.out.bx.at_ 2 (by simp)
      simp only [List.getElem?_cons_succ, List.getElem?_cons_zero] at z0 z1 z2
      obtain ⟨a, rfl⟩ : ∃ a : Nat, at_ = (a : Int) := ⟨at_.toNat, by omega⟩
      go_upto_region 17 with fail
      obtain ⟨I, hI, hIn⟩ : ∃ I : Nat, ((a : Int) % (n : Int)) = (I : Int) ∧ I < n := ⟨a % n, by omega, Nat.mod_lt _ (by omega)⟩
      obtain ⟨K, hK, hK2⟩ : ∃ K : Nat, ((a : Int) / 7 % 256) = (K : Int) ∧ K < 256 := ⟨a / 7 % 256, by omega, Nat.mod_lt _ (by omega)⟩
      rw [hI, hK]
      clear hI hK
      obtain ⟨h1, h2, h3, h4, h5, h6, h7⟩ := cs_root S.out.fv.cs
      have HP : Hid (Pr wc PA n pc f.ps) := Lib.hid (by have := S.out.fl.fl.pg; rw [← h2, ← h4, ← h5] at this; exact this)
      have HNP : Hid (n = f.ps.length) := Lib.hid h2
      clear h1 h2 h3 h4 h5 h6 h7
      obtain ⟨gP, oP, x, rfl, hgP, hx, hcell⟩ := Rd.at1 (val := PV.v) HP.out.row hIn
      unfold PV.v at hcell
      have h256 : x.d.length = 256 := S.out.ok.shp.p256 x.d (List.mem_map.2 ⟨x, List.mem_of_getElem? hx, rfl⟩)
      have XR := HP.out.dat x (List.mem_of_getElem? hx)
      obtain ⟨xA, xc, xd⟩ := x
      dsimp only at hcell h256 XR
      rw [h256] at hcell XR
      have XR := Lib.hid XR
      have HX := Lib.hid hx
      have H256 := Lib.hid h256
      have i0 : (0 : Int) ≤ (I : Int) := by omega
      have i1 : (I : Int) < (n : Int) := by omega
      have n4 : n ≤ 4096 := by have := S.out.ok.shp.n4; have := S.out.fv.len; omega
      have gPp : gP ≠ p := fun e => by
        have t := S.out.fl.pa gP (by have := S.out.fv.cs; obtain ⟨_, _, _, h4, _⟩ := cs_root this; rw [← h4]; rfl)
        rw [e] at t
        exact ty_ne t S.out.ty (by decide) rfl
      clear hx h256
      obtain ⟨pg, hpg⟩ : ∃ pg, wc.heap.size = pg := ⟨_, rfl⟩
      obtain ⟨Wd, hWd⟩ : ∃ Wd, wc.alloc (.cells #[.slice (some ⟨gP, oP, none⟩) n pc, .int .i64 r, .slice FA m fc] 30) = Wd := ⟨_, rfl⟩
      have bd : Below wc.heap.size wc Wd := hWd ▸ bal _ _
      have Xg : Hid (Bx Wd pg [.slice (some ⟨gP, oP, none⟩) n pc, .int .i64 r, .slice FA m fc]) := hWd ▸ Lib.hid (Bx.put _ hpg #[.slice (some ⟨gP, oP, none⟩) n pc, .int .i64 r, .slice FA m fc] 30)
      have TXg : Hid (Ty Wd pg 30) := hWd ▸ hpg ▸ Lib.hid (Ty.new _ _ _)
      have HWd := Lib.hid hWd
      clear hWd
      have HPd := Lib.hid (HP.out.nx bd)
      have hpl := S.out.bx.lt
      go_upto_region 20 with fail
      rw [HWd.out]
      clear z0 z1 z2
      have zb := S.out.bx.nx bd
      have z0 := zb.at_ 0 (by simp)
      have z1 := zb.at_ 1 (by simp)
      have z2 := zb.at_ 2 (by simp)
      simp only [List.getElem?_cons_succ, List.getElem?_cons_zero] at z0 z1 z2
      clear zb
      go_wp2_with fail
      go_at_call 37
      refine (pclone_any Wd (Lib.hid HPd.out.row) (pv_one _) (by omega)).mono ?_
      rintro e we ⟨AR, cR, rfl, ownR, be⟩
      obtain ⟨gR, rfl, _⟩ := own_pos ownR.out (by omega)
      have hgR := own_blk_le ownR.out (g := gR) rfl
      have hpgd : pg < Wd.heap.size := Xg.out.lt
      have Xe := Lib.hid (Xg.out.nx be)
      have x0 := Xe.out.at_ 0 (by simp)
      have x1 := Xe.out.at_ 1 (by simp)
      have x2 := Xe.out.at_ 2 (by simp)
      simp only [List.getElem?_cons_succ, List.getElem?_cons_zero] at x0 x1 x2
      have t0 := Xe.out.fz 0 (by simp)
      obtain ⟨Wf, hWf⟩ : ∃ Wf, we.setCell ⟨pg, 0, none⟩ (.slice (some ⟨gR, 0, none⟩) n cR) = Wf := ⟨_, rfl⟩
      have XF : Hid (Bx Wf pg [.slice (some ⟨gR, 0, none⟩) n cR, .int .i64 r, .slice FA m fc]) := hWf ▸ Lib.hid (by have := Xe.out.set (j := 0) (by simp) (.slice (some ⟨gR, 0, none⟩) n cR); simpa using this)
      have vf : Below wc.heap.size wc Wf := hWf ▸ ((bd.trans (be.mono bd.size)).setCell (p := ⟨pg, 0, none⟩) (by show wc.heap.size ≤ pg; omega) _)
      have OWR : Hid (Wf.ownsRow Wd.heap.size 22 1 (.slice (some ⟨gR, 0, none⟩) n cR) n (pv f.ps)) := hWf ▸ Lib.hid (own_set ownR.out _ _ (by simp [blk]; omega))
      have hszf : we.heap.size = Wf.heap.size := by rw [← hWf]; simp
      have HWf := Lib.hid hWf
      clear hWf
      go_upto_region 21 with fail
      rw [HWf.out]
      clear z0 z1 z2 x0 x1 x2 t0
      have CL : Hid (∀ U, Below Wf.heap.size Wf U → Calls Tryd.prog 38 #[.slice xA 256 xc] U (Mv U 5 1 256 (bv xd))) := Lib.hid fun U hU => sclone_any U (Lib.hid ((XR.out.nx vf).nx hU)) (bv_one _) (by omega)
      have zp := S.out.bx.nx vf
      have hgPf : gP < Wf.heap.size := Nat.lt_of_lt_of_le hgP vf.size
      have hcf : Wf.cell? ⟨gP, oP + I, none⟩ = some (.slice xA 256 xc) := (World.cell?_of_block (vf.block gP hgP)).trans hcell
      have n1 : p ≠ gR := by omega
      have n2 : pg ≠ gR := by omega
      have n3 : gP ≠ gR := by have := bd.size; omega
      have KK : Hid (∀ U, Kp Wf U (· = gR) → U.cell? ⟨pg, 0, none⟩ = some (.slice (some ⟨gR, 0, none⟩) n cR) ∧ U.cell? ⟨p, 0, none⟩ = some (.slice (some ⟨gP, oP, none⟩) n pc) ∧ U.cell? ⟨gP, oP + I, none⟩ = some (.slice xA 256 xc)) := Lib.hid fun U hU => by
        have h := XF.out.kp hU n2
        have h' := zp.kp hU n1
        have a0 := h.at_ 0 (by simp)
        have a1 := h'.at_ 0 (by simp)
        exact ⟨by simpa using a0, by simpa using a1, (hU.cell hgPf n3).trans hcf⟩
      have hgRf : gR < Wf.heap.size := by omega
      have RG : Hid (∀ U, Below Wf.heap.size Wf U → U.cell? ⟨gR, I, none⟩ = some (.slice xA 256 xc) ∧ U.frozen? ⟨gR, I, none⟩ = false) := Lib.hid fun U hU => by
        have o := own_below OWR.out hU
        refine ⟨?_, o.frozenAt I⟩
        rw [o.cellAt I (by omega)]
        unfold pv
        rw [List.getElem?_map, HX.out]
        simp [PV.v, H256.out]
      have vd : Below Wf.heap.size Wf Wf.drew := (Below.refl _ _).drew
      clear zp hcf
      go_region_held3 (fun w' => w'.cell? ⟨pg, 0, none⟩ = some (.slice (some ⟨gR, 0, none⟩) n cR) ∧ w'.cell? ⟨p, 0, none⟩ = some (.slice (some ⟨gP, oP, none⟩) n pc) ∧ w'.cell? ⟨gP, oP + I, none⟩ = some (.slice xA 256 xc))
        ((refine KK.out _ ?_; repeat (first | exact kg | exact Kp.refl _ _ | (refine kp_one ?_) | (refine kp_dr ?_))))
        (first
          | (go_at_call 38; refine (CL.out _ vd).mono ?_; rintro e wg ⟨AB, cB, rfl, ownB, bg⟩; have vg := vd.trans (bg.mono vd.size); have kg := Kp.of_below vg (· = gR); have yy := RG.out _ vg; have y0 := yy.1; have t0 := yy.2))
      all_goals
        obtain ⟨gB, rfl, _⟩ := own_pos ownB.out (by omega)
        have hgB := own_blk_le ownB.out (g := gB) rfl
        have hgB0 : Wf.heap.size ≤ gB := hgB.1
        obtain ⟨Wh, hWh⟩ : ∃ Wh, wg.setCell ⟨gR, I, none⟩ (.slice (some ⟨gB, 0, none⟩) 256 cB) = Wh := ⟨_, rfl⟩
        rw [hWh]
        have ROW : Hid (Wh.ownsRow Wd.heap.size 22 1 (.slice (some ⟨gR, 0, none⟩) n cR) n ((pv f.ps).set I (.slice (some ⟨gB, 0, none⟩) 256 cB))) := hWh ▸ Lib.hid (own_put (own_below OWR.out vg) hIn _)
        have BYT : Hid (Wh.ownsRow Wf.heap.size 5 1 (.slice (some ⟨gB, 0, none⟩) 256 cB) 256 (bv xd)) := hWh ▸ Lib.hid (own_set ownB.out _ _ (by simp [blk]; omega))
        have XH : Hid (Bx Wh pg [.slice (some ⟨gR, 0, none⟩) n cR, .int .i64 r, .slice FA m fc]) := hWh ▸ Lib.hid (XF.out.kp (kp_one kg) n2)
        have vh : Below wc.heap.size wc Wh := hWh ▸ ((vf.trans (vg.mono vf.size)).setCell (p := ⟨gR, I, none⟩) (by show wc.heap.size ≤ gR; have := bd.size; omega) _)
        obtain ⟨u, hu⟩ : ∃ u, xd[K]? = some u := ⟨_, List.getElem?_eq_getElem (show K < xd.length by have := H256.out; omega)⟩
        have cRI : Wh.cell? ⟨gR, I, none⟩ = some (.slice (some ⟨gB, 0, none⟩) 256 cB) := by
          rw [ROW.out.cellAt I (by omega), List.getElem?_set_self (by rw [pv_len]; have := HNP.out; omega)]
        have cBK : Wh.cell? ⟨gB, K, none⟩ = some (.int .u8 (u.toNat : Int)) := by
          rw [BYT.out.cellAt K (by omega), bv_get, hu]; rfl
        have fBK : Wh.frozen? ⟨gB, K, none⟩ = false := BYT.out.frozenAt K
        have x0 := XH.out.at_ 0 (by simp)
        have x1 := XH.out.at_ 1 (by simp)
        have x2 := XH.out.at_ 2 (by simp)
        simp only [List.getElem?_cons_succ, List.getElem?_cons_zero] at x0 x1 x2
        have HU := Lib.hid hu
        have k0 : (0 : Int) ≤ (K : Int) := by omega
        have k1' : (K : Int) < 256 := by omega
        obtain ⟨uz, huz⟩ : ∃ uz : Int, (u.toNat : Int) = uz := ⟨_, rfl⟩
        rw [huz] at cBK
        have HUZ := Lib.hid huz
        clear hu huz hWh yy y0 t0 kg vg bg ownB
        obtain ⟨v, hv⟩ : ∃ v : UInt8, v = u ^^^ UInt8.ofNat bY.toNat := ⟨_, rfl⟩
        have hxor : bits BinOp.xor IntKind.u8 uz bY = (v.toNat : Int) := by
          rw [hv, ← HUZ.out]; exact u8_xor_int u y1 y2
        have hvne : v ≠ u := by rw [hv]; exact xor_ne u y1 y2 HY0.out
        have HVN := Lib.hid hvne
        obtain ⟨vz, hvz⟩ : ∃ vz : Int, (v.toNat : Int) = vz := ⟨_, rfl⟩
        rw [hvz] at hxor
        obtain ⟨W7, hW7⟩ : ∃ W7, Wh.setCell ⟨gB, K, none⟩ (.int .u8 vz) = W7 := ⟨_, rfl⟩
        have v7 : Below wc.heap.size wc W7 := hW7 ▸ (vh.setCell (p := ⟨gB, K, none⟩) (by show wc.heap.size ≤ gB; have := vf.size; omega) _)
        have X7 : Hid (Bx W7 pg [.slice (some ⟨gR, 0, none⟩) n cR, .int .i64 r, .slice FA m fc]) := hW7 ▸ Lib.hid (XH.out.kp (X := (· = gB)) (Kp.of_set Wh ⟨gB, K, none⟩ _ rfl) (by omega))
        have DF := dam_fl (v := v) (xd := xd) (I := I) (K := K) (cB := cB) S.out.fv.cs S.out.fl.fl v7 (by rw [← hW7]; exact own_set ROW.out _ _ (by simp [blk]; omega)) (by rw [← hW7, ← hvz]; exact own_put BYT.out hK2 _) H256.out
        have HW7 := Lib.hid hW7
        obtain ⟨gf, FLg, CSg, q1, q2, q3⟩ := DF
        have FLg := Lib.hid FLg
        have hgd : f.f.pg.getD I [] = xd := by
          show (f.ps.map PV.d).getD I [] = xd
          rw [List.getD_eq_getElem?_getD, List.getElem?_map, HX.out]; rfl
        have Q1 : Hid (gf.f.pg = f.f.pg.set I ((f.f.pg.getD I []).set K v)) := Lib.hid (by rw [q1, hgd])
        have Q2 := Lib.hid q2
        have Q3 := Lib.hid q3
        have HUF : Hid ((f.f.pg.getD I [])[K]? = some u) := Lib.hid (by rw [hgd]; exact HU.out)
        have S7 := Lib.hid (S.out.nx v7)
        have Xa7 := Lib.hid (Xa.out.nx v7)
        have FLa7 := Lib.hid (FLa.out.nx v7)
        have G7 := Lib.hid (G.out.below S7.out.bw)
        clear hv hvne hvz hW7 q1 q2 q3 hgd
        go_upto_region 23 with fail
        rw [HW7.out]
        clear x0 x1 x2 cRI cBK fBK hxor
        have x0 := X7.out.at_ 0 (by simp)
        have x1 := X7.out.at_ 1 (by simp)
        have x2 := X7.out.at_ 2 (by simp)
        simp only [List.getElem?_cons_succ, List.getElem?_cons_zero] at x0 x1 x2
        go_wp2_with fail
        go_at_call 17
        refine (Check_cs CSg W7 G7 FLg).mono ?_
        rintro e w8 ⟨k8, e8, hc8, rfl, b8⟩
        have C8 := Lib.hid hc8
        have X8 := Lib.hid (X7.out.nx b8)
        have Xa8 := Lib.hid (Xa7.out.nx b8)
        have FLa8 := Lib.hid (FLa7.out.nx b8)
        have FLg8 := Lib.hid (FLg.out.nx b8)
        have G8 := Lib.hid (G7.out.nx b8)
        have bw8 := S7.out.bw.trans (b8.mono S7.out.bw.size)
        obtain ⟨ps, hfk, hfr⟩ := RA.out
        obtain ⟨rfl, hk1⟩ := chk_fok hfk CH.out
        have hil : I < f.f.pg.length := by have := S.out.fv.len; omega
        have HFK := Lib.hid hfk
        have HK1 := Lib.hid hk1
        have HFR := Lib.hid (hfr I hil)
        clear hc8 x0 x1 x2 hfk hfr hk1
        have x0 := X8.out.at_ 0 (by simp)
        have x1 := X8.out.at_ 1 (by simp)
        have x2 := X8.out.at_ 2 (by simp)
        have y0 := Xa8.out.at_ 0 (by simp)
        have y1' := Xa8.out.at_ 1 (by simp)
        have y2' := Xa8.out.at_ 2 (by simp)
        simp only [List.getElem?_cons_succ, List.getElem?_cons_zero] at x0 x1 x2 y0 y1' y2'
        go_wp2_with fail
        go_at_call 28
        refine (rFree_any Va.out.cs (I : Int) w8 (Lib.hid FLa8.out.fl)).mono ?_
        rintro e w9 ⟨rfl, b9⟩
        have X9 := Lib.hid (X8.out.nx b9)
        have FLg9 := Lib.hid (FLg8.out.nx b9)
        have G9 := Lib.hid (G8.out.nx b9)
        have bw9 := bw8.trans (b9.mono bw8.size)
        clear x0 x1 x2 y0 y1' y2'
        have x0 := X9.out.at_ 0 (by simp)
        have x1 := X9.out.at_ 1 (by simp)
        have x2 := X9.out.at_ 2 (by simp)
        simp only [List.getElem?_cons_succ, List.getElem?_cons_zero] at x0 x1 x2
        by_cases hin : I ∈ ps
        · rw [decide_eq_false (fun h => (HFR.out.1 h) hin)]
          have NV := Lib.hid (dam_in HFK.out hin Q1.out Q2.out HUF.out HVN.out)
          clear hin
          go_wp2_with fail
          go_at_call 21
          refine (Range_cs CSg _ G9 FLg9 (Lib.hid (Rd.nil_ _ _)) (Lib.hid (Rd.nil_ _ _)) (ka := []) (kb := [])).mono ?_
          rintro e w10 ⟨es8, e10, L8, A8, n8, c8, hr10, _, rfl, _, b10⟩
          have R10 := Lib.hid hr10
          have X10 := Lib.hid (X9.out.nx b10)
          have FLg10 := Lib.hid (FLg9.out.nx b10)
          have G10 := Lib.hid (G9.out.nx b10)
          have bw10 := bw9.trans (b10.mono bw9.size)
          clear x0 x1 x2 hr10
          have x0 := X10.out.at_ 0 (by simp)
          have x1 := X10.out.at_ 1 (by simp)
          have x2 := X10.out.at_ 2 (by simp)
          simp only [List.getElem?_cons_succ, List.getElem?_cons_zero] at x0 x1 x2
          have kc := fun (w : World) (C : Array Value) (n c : Nat) => Lib.run_convert_bytes_const (P := Tryd.prog) w 22 5 C n c Tryd.underlying22 Tryd.underlying5
          go_wp2_with fail
          obtain ⟨W11, hW11⟩ : ∃ W11, w10.alloc (.cells #[.int .u8 107] 5 (1, 2)) = W11 := ⟨_, rfl⟩
          have b11 : Below w10.heap.size w10 W11 := hW11 ▸ bal _ _
          have rk : Hid (Rd W11 1 (some ⟨w10.heap.size, 0, none⟩) 1 1 (bv [107])) := hW11 ▸ Lib.hid (rd_mark w10 [107] _ rfl (by simp) (1, 2))
          rw [hW11]
          have X11 := Lib.hid (X10.out.nx b11)
          have FLg11 := Lib.hid (FLg10.out.nx b11)
          have G11 := Lib.hid (G10.out.nx b11)
          have bw11 := bw10.trans (b11.mono bw10.size)
          clear hW11 x0 x1 x2 kc
          go_at_call 19
          refine (Put_cs (value := []) CSg W11 G11 FLg11 rk (Lib.hid (Rd.nil_ _ _))).mono ?_
          rintro e w12 ⟨f12, e12, h12, rfl, _, b12⟩
          obtain ⟨rfl, rfl, rfl, rfl⟩ := dam_bad NV.out C8.out R10.out h12 ⟨by decide, by decide, by decide⟩
          obtain ⟨PAz, nz, pcz, rz, FAz, mz, fcz, Vz⟩ := fv_of f12
          rw [Vz.out.val]
          have X12 := Lib.hid (X11.out.nx b12)
          have FLg12 := Lib.hid (FLg11.out.nx b12)
          have G12 := Lib.hid (G11.out.nx b12)
          have bw12 := bw11.trans (b12.mono bw11.size)
          clear h12
          obtain ⟨pz, hpz⟩ : ∃ pz, w12.heap.size = pz := ⟨_, rfl⟩
          obtain ⟨W13, hW13⟩ : ∃ W13, w12.alloc (.cells #[.slice PAz nz pcz, .int .i64 rz, .slice FAz mz fcz] 30) = W13 := ⟨_, rfl⟩
          have b13 : Below w12.heap.size w12 W13 := hW13 ▸ bal _ _
          have Xz : Hid (Bx W13 pz [.slice PAz nz pcz, .int .i64 rz, .slice FAz mz fcz]) := hW13 ▸ Lib.hid (Bx.put _ hpz #[.slice PAz nz pcz, .int .i64 rz, .slice FAz mz fcz] 30)
          have TXz : Hid (Ty W13 pz 30) := hW13 ▸ hpz ▸ Lib.hid (Ty.new _ _ _)
          have HW13 := Lib.hid hW13
          clear hW13
          have X13 := Lib.hid (X12.out.nx b13)
          have FLg13 := Lib.hid (FLg12.out.nx b13)
          have G13 := Lib.hid (G12.out.nx b13)
          have bw13 := bw12.trans (b13.mono bw12.size)
          have x0 := X13.out.at_ 0 (by simp)
          have x1 := X13.out.at_ 1 (by simp)
          have x2 := X13.out.at_ 2 (by simp)
          simp only [List.getElem?_cons_succ, List.getElem?_cons_zero] at x0 x1 x2
          go_upto_region 30 with fail
          rw [HW13.out]
          go_wp2_with fail
          go_at_call 16
          refine (Valid_cs CSg _ G13 FLg13).mono ?_
          rintro e w14 ⟨ok, rfl, hok, b14⟩
          have bw14 := bw13.trans (b14.mono bw13.size)
          rcases ok with _ | _
          · clear hok
            go_wp2_with fail
            go_ret
            exact ⟨rfl, bw14⟩
          · exact absurd (hok.1 rfl) NV.out
        · rw [decide_eq_true (HFR.out.2 hin)]
          have FO := Lib.hid (dam_out HFK.out hin Q1.out hil Q2.out Q3.out)
          obtain ⟨rfl, hk8⟩ := chk_fok FO.out C8.out
          obtain rfl : k8 = k1 := by rw [hk8, HK1.out]
          clear hin hk8
          go_wp2_with fail
          go_at_call 16
          refine (Valid_cs CSg _ G9 FLg9).mono ?_
          rintro e w10 ⟨ok, rfl, hok, b10⟩
          obtain rfl : ok = true := hok.2 FO.out.vld
          have bw10 := bw9.trans (b10.mono bw9.size)
          clear hok
          go_wp2_with fail
          go_ret
          exact ⟨rfl, bw10⟩
end Go.Proofs.YtphiblmkgbkdmaaDoor.Pg
