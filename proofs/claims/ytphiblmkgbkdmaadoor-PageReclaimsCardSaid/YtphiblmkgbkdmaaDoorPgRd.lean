/- Walks: Reclaim with one other root. -/
import Derived.Test.YtphiblmkgbkdmaaDoorPgRc
import Derived.Maps.RangeWalk
namespace Go.Proofs.YtphiblmkgbkdmaaDoor.Pg
set_option linter.unusedVariables false
set_option linter.unusedSimpArgs false
open Go.RowKit Wl Go.Maps

/-- What Reclaim with one other root answers. -/
structure Rc2 (F : Fi) (root : Int) (G : Fi) : Prop where
  pg : G.pg = F.pg
  root_ : G.root = F.root
  fr : ∀ s t : St, Rok F.pg F.free F.root s → Rok F.pg [] root t → G.free = nat_int ((List.range F.pg.length).filter fun m => decide (m ∉ s.1 ∧ m ∉ t.1))
theorem rc2_of {f : FV} {A1 Ao : Option Addr} {c1 co n : Nat} {r0 root : Int} {l1 : List PV} {S S2 T : List Nat} {es es2 : List It} (hl : l1.map PV.d = f.ps.map PV.d) (hr : r0 = f.f.root) (hn : f.f.pg.length = n) (h : Rok f.f.pg f.f.free f.f.root (S, es)) (h2 : Rok f.f.pg [] root (S2, es2)) (hT : ∀ m : Nat, m < n → (m ∈ T ↔ m ∈ S ∨ m ∈ S2)) :
    Rc2 f.f root (FV.f ⟨A1, c1, l1, r0, Ao, co, nat_int ((List.range n).filter fun m => decide (m ∉ T))⟩) :=
  ⟨hl, hr, fun s t hs ht => by
    obtain rfl := hs.uniq h
    obtain rfl := ht.uniq h2
    rw [hn]
    show nat_int _ = nat_int _
    congr 1
    refine List.filter_congr fun m hm => ?_
    rw [decide_eq_decide, hT m (List.mem_range.1 hm)]
    simp [not_or]⟩
theorem kp_grown {w w' : World} {b : Nat} (h : w.grownBy w' (some b)) : Kp w w' (· = b) := ⟨h.os, h.tape, h.output, h.size, fun i hi hn => h.block i hi (fun e => hn (Option.some.inj e))⟩
theorem kp_grown0 {w w' : World} {X : Nat → Prop} (h : w.grownBy w' none) : Kp w w' X := ⟨h.os, h.tape, h.output, h.size, fun i hi _ => h.block i hi (by simp)⟩
theorem reclaim1_any {f : FV} {PA FA : Option Addr} {n pc m fc p : Nat} {r : Int} (x : Int) (U : World) (X : Hid (Bx U p [.slice PA n pc, .int .i64 r, .slice FA m fc])) :
    Calls Tryd.prog 60 #[.int .i64 x, .pointer (some ⟨p, 0, none⟩)] U fun e w' => e = .returned (.bool (decide (x < -1) || decide ((n : Int) ≤ x))) ∧ Below U.heap.size U w' := by
  have z0 := X.out.at_ 0 (by simp)
  simp only [List.getElem?_cons_zero] at z0
  by_cases h1 : x < -1
  · have e1 : decide (x < -1) = true := decide_eq_true h1
    have R : Hid ((decide (x < -1) || decide ((n : Int) ≤ x)) = true) := Lib.hid (by rw [e1]; rfl)
    go_enter Tryd.func60, Tryd.ntmps60
    go_wp2_with fail
    go_ret
    exact ⟨by first | (rw [R.out]; first | done | rfl) | rfl, Below.refl _ _⟩
  · have e1 : decide (x < -1) = false := decide_eq_false h1
    by_cases h2 : (n : Int) ≤ x
    · have e2 : decide (x ≥ (n : Int)) = true := decide_eq_true h2
      have R : Hid ((decide (x < -1) || decide ((n : Int) ≤ x)) = true) := Lib.hid (by rw [e1, decide_eq_true h2]; rfl)
      go_enter Tryd.func60, Tryd.ntmps60
      go_wp2_with fail
      go_ret
      exact ⟨by first | (rw [R.out]; first | done | rfl) | rfl, Below.refl _ _⟩
    · have e2 : decide (x ≥ (n : Int)) = false := decide_eq_false h2
      have R : Hid ((decide (x < -1) || decide ((n : Int) ≤ x)) = false) := Lib.hid (by rw [e1, decide_eq_false h2]; rfl)
      go_enter Tryd.func60, Tryd.ntmps60
      go_wp2_with fail
      go_ret
      exact ⟨by first | (rw [R.out]; first | done | rfl) | rfl, Below.refl _ _⟩
set_option maxRecDepth 20000 in
set_option maxHeartbeats 3200000 in
theorem Reclaim_bad {f : FV} {PA FA RA : Option Addr} {n pc m fc rc : Nat} {r0 root : Int} (hcs : CsOf f PA n pc r0 FA m fc) (w : World) (HF : Hid (Fl w f)) (hR : Hid (Rd w 1 RA 1 rc (iv [root]))) (hb : (n : Int) ≤ root) :
    Calls Tryd.prog 36 #[.agg #[.slice PA n pc, .int .i64 r0, .slice FA m fc], .slice RA 1 rc] w fun e w' => e = .returned (.tuple #[zeroV.val, .int .i64 1]) ∧ Below w.heap.size w w' := by
  have bw := Below.refl w.heap.size w
  obtain ⟨p, hp⟩ : ∃ p, w.heap.size = p := ⟨_, rfl⟩
  obtain ⟨W0, hW0⟩ : ∃ W0, w.alloc (.cells #[.slice PA n pc, .int .i64 r0, .slice FA m fc] 30) = W0 := ⟨_, rfl⟩
  have b0 : Below w.heap.size w W0 := hW0 ▸ bal _ _
  have X : Hid (Bx W0 p [.slice PA n pc, .int .i64 r0, .slice FA m fc]) := hW0 ▸ Lib.hid (Bx.put _ hp #[.slice PA n pc, .int .i64 r0, .slice FA m fc] 30)
  have TX : Hid (Ty W0 p 30) := hW0 ▸ hp ▸ Lib.hid (Ty.new _ _ _)
  have HW0 := Lib.hid hW0
  clear hW0
  replace bw := bw.trans (b0.mono bw.size)
  replace HF := Lib.hid (HF.out.nx b0)
  replace hR := Lib.hid (hR.out.nx b0)
  obtain ⟨R0, hR0⟩ : ∃ R0, W0.heap.size = R0 := ⟨_, rfl⟩
  obtain ⟨W1, hW1⟩ : ∃ W1, W0.alloc (.cells #[.slice none 0 0, .int .i64 0, .slice none 0 0] 30) = W1 := ⟨_, rfl⟩
  have b1 : Below W0.heap.size W0 W1 := hW1 ▸ bal _ _
  have Y : Hid (Bx W1 R0 [.slice none 0 0, .int .i64 0, .slice none 0 0]) := hW1 ▸ Lib.hid (Bx.put _ hR0 #[.slice none 0 0, .int .i64 0, .slice none 0 0] 30)
  have TY : Hid (Ty W1 R0 30) := hW1 ▸ hR0 ▸ Lib.hid (Ty.new _ _ _)
  have HW1 := Lib.hid hW1
  clear hW1
  replace bw := bw.trans (b1.mono bw.size)
  replace HF := Lib.hid (HF.out.nx b1)
  replace hR := Lib.hid (hR.out.nx b1)
  replace X := Lib.hid (X.out.nx b1)
  have e01 : R0 = p + 1 := by rw [← hR0, ← HW0.out, ← hp]; simp
  subst e01
  have HCF : Hid (∀ U, Below W1.heap.size W1 U → Calls Tryd.prog 30 #[.slice RA 1 rc, .func (.func 60) #[] #[.pointer (some ⟨p, 0, none⟩)]] U fun e w' => e = .returned (.bool true) ∧ Below U.heap.size U w') := Lib.hid fun U hU => by
    have := rec_any (P := ⟨p, 0, none⟩) (l := [root]) (fun x => .int .i64 x) (fun x => decide (x < -1) || decide ((n : Int) ≤ x)) U (Lib.hid (hR.out.nx hU)) (Lib.hid fun V hV x _ => reclaim1_any (f := f) x V (Lib.hid ((X.out.nx hU).nx hV)))
    rwa [show ([root].any fun x => decide (x < -1) || decide ((n : Int) ≤ x)) = true by simp [hb]] at this
  go_enter Tryd.func36, Tryd.ntmps36
  go_upto_region 1 with fail
  rw [HW0.out, HW1.out]
  go_wp2_with fail
  go_at_call 30
  refine (HCF.out _ (Below.refl _ _)).mono ?_
  rintro e w2 ⟨rfl, b2⟩
  have bw2 := bw.trans (b2.mono bw.size)
  have Y2 := Lib.hid (Y.out.nx b2)
  have y0 := Y2.out.at_ 0 (by simp)
  have y1 := Y2.out.at_ 1 (by simp)
  have y2 := Y2.out.at_ 2 (by simp)
  simp only [List.getElem?_cons_succ, List.getElem?_cons_zero] at y0 y1 y2
  have g0 := Y2.out.fz 0 (by simp)
  have g1 := Y2.out.fz 1 (by simp)
  have g2 := Y2.out.fz 2 (by simp)
  obtain ⟨C0, C1, C2⟩ := res_cells Y2.out
  have C0 := Lib.hid C0
  have C1 := Lib.hid C1
  have C2 := Lib.hid C2
  go_wp2_with fail
  exact bodyPost_ret (v := .tuple #[.agg #[.slice none 0 0, .int .i64 0, .slice none 0 0], .int .i64 1]) (by simp [results, Tryd.results36, go_sem, C0.out, C1.out, C2.out]) rfl ⟨rfl, res_below bw2 (by omega)⟩
set_option maxRecDepth 20000 in
set_option maxHeartbeats 12800000 in
theorem Reclaim_one {f : FV} {PA FA RA : Option Addr} {n pc m fc rc : Nat} {r0 root : Int} (hcs : CsOf f PA n pc r0 FA m fc) (w : World) (G : Hid (Gl w)) (HF : Hid (Fl w f)) (VL : Hid (Vld f.f)) (hR : Hid (Rd w 1 RA 1 rc (iv [root]))) (hlo : -1 ≤ root) (hhi : root < n) (VO : Hid (∃ t : St, Rok f.f.pg [] root t)) :
    Calls Tryd.prog 36 #[.agg #[.slice PA n pc, .int .i64 r0, .slice FA m fc], .slice RA 1 rc] w fun e w' => ∃ g : FV, e = .returned (.tuple #[g.val, .int .i64 0]) ∧ Rc2 f.f root g.f ∧ Hid (FlT w' g) ∧ Below w.heap.size w w' := by
  obtain ⟨i0, hi, hz0, hz1, hz2⟩ := info_parts info_int
  obtain ⟨h1, h2, h3, h4, h5, h6, h7⟩ := cs_root hcs
  have HP : Hid (Pr w PA n pc f.ps) := Lib.hid (by have := HF.out.pg; rw [← h2, ← h4, ← h5] at this; exact this)
  have HR : Hid (r0 = f.f.root) := Lib.hid h1
  have HN : Hid (n = f.f.pg.length) := Lib.hid (by rw [h2]; simp [FV.f])
  have RY : Hid (Rdy f) := Lib.hid (shp_rdy VL.out.1)
  have n4 : n ≤ 4096 := by have := VL.out.1.n4; have := HN.out; omega
  have P256 : Hid (∀ x ∈ f.ps, x.d.length = 256) := Lib.hid RY.out.p256
  have hr1 : r0 ≤ 100000 := by have := VL.out.1.r2; have := HN.out; have := HR.out; omega
  have hr2 : root ≤ 100000 := by omega
  have hcs2 : CsOf ⟨f.PA, f.pc, f.ps, -1, none, 0, []⟩ PA n pc (-1) none 0 0 := by subst h2 h4 h5; exact Lib.hid rfl
  have RY2 : Hid (Rdy ⟨f.PA, f.pc, f.ps, -1, none, 0, []⟩) := Lib.hid ⟨RY.out.n4, RY.out.p256, List.Pairwise.nil, by simp⟩
  have FF : Hid (f.f.pg = f.ps.map PV.d) := Lib.hid rfl
  clear h1 h2 h3 h4 h5 h6 h7
  have bw := Below.refl w.heap.size w
  obtain ⟨p, hp⟩ : ∃ p, w.heap.size = p := ⟨_, rfl⟩
  obtain ⟨W0, hW0⟩ : ∃ W0, w.alloc (.cells #[.slice PA n pc, .int .i64 r0, .slice FA m fc] 30) = W0 := ⟨_, rfl⟩
  have b0 : Below w.heap.size w W0 := hW0 ▸ bal _ _
  have X : Hid (Bx W0 p [.slice PA n pc, .int .i64 r0, .slice FA m fc]) := hW0 ▸ Lib.hid (Bx.put _ hp #[.slice PA n pc, .int .i64 r0, .slice FA m fc] 30)
  have TX : Hid (Ty W0 p 30) := hW0 ▸ hp ▸ Lib.hid (Ty.new _ _ _)
  have HW0 := Lib.hid hW0
  clear hW0
  replace bw := bw.trans (b0.mono bw.size)
  replace G := Lib.hid (G.out.nx b0)
  replace HF := Lib.hid (HF.out.nx b0)
  replace HP := Lib.hid (HP.out.nx b0)
  replace hR := Lib.hid (hR.out.nx b0)
  obtain ⟨R0, hR0⟩ : ∃ R0, W0.heap.size = R0 := ⟨_, rfl⟩
  obtain ⟨W1, hW1⟩ : ∃ W1, W0.alloc (.cells #[.slice none 0 0, .int .i64 0, .slice none 0 0] 30) = W1 := ⟨_, rfl⟩
  have b1 : Below W0.heap.size W0 W1 := hW1 ▸ bal _ _
  have Y : Hid (Bx W1 R0 [.slice none 0 0, .int .i64 0, .slice none 0 0]) := hW1 ▸ Lib.hid (Bx.put _ hR0 #[.slice none 0 0, .int .i64 0, .slice none 0 0] 30)
  have TY : Hid (Ty W1 R0 30) := hW1 ▸ hR0 ▸ Lib.hid (Ty.new _ _ _)
  have HW1 := Lib.hid hW1
  clear hW1
  replace bw := bw.trans (b1.mono bw.size)
  replace G := Lib.hid (G.out.nx b1)
  replace HF := Lib.hid (HF.out.nx b1)
  replace HP := Lib.hid (HP.out.nx b1)
  replace X := Lib.hid (X.out.nx b1)
  replace hR := Lib.hid (hR.out.nx b1)
  have z0 := X.out.at_ 0 (by simp)
  have z1 := X.out.at_ 1 (by simp)
  have z2 := X.out.at_ 2 (by simp)
  simp only [List.getElem?_cons_succ, List.getElem?_cons_zero] at z0 z1 z2
  have e01 : R0 = p + 1 := by rw [← hR0, ← HW0.out, ← hp]; simp
  subst e01
  have HCF : Hid (∀ U, Below W1.heap.size W1 U → Calls Tryd.prog 30 #[.slice RA 1 rc, .func (.func 60) #[] #[.pointer (some ⟨p, 0, none⟩)]] U fun e w' => e = .returned (.bool false) ∧ Below U.heap.size U w') := Lib.hid fun U hU => by
    have := rec_any (P := ⟨p, 0, none⟩) (l := [root]) (fun x => .int .i64 x) (fun x => decide (x < -1) || decide ((n : Int) ≤ x)) U (Lib.hid (hR.out.nx hU)) (Lib.hid fun V hV x _ => reclaim1_any (f := f) x V (Lib.hid ((X.out.nx hU).nx hV)))
    rwa [show ([root].any fun x => decide (x < -1) || decide ((n : Int) ≤ x)) = false by simp; omega] at this
  go_enter Tryd.func36, Tryd.ntmps36
  go_upto_region 1 with fail
  rw [HW0.out, HW1.out]
  go_wp2_with fail
  go_at_call 30
  refine (HCF.out _ (Below.refl _ _)).mono ?_
  rintro e w2 ⟨rfl, b2⟩
  clear z0 z1 z2
  replace bw := bw.trans (b2.mono bw.size)
  replace G := Lib.hid (G.out.nx b2)
  replace HF := Lib.hid (HF.out.nx b2)
  replace HP := Lib.hid (HP.out.nx b2)
  replace X := Lib.hid (X.out.nx b2)
  replace Y := Lib.hid (Y.out.nx b2)
  replace TY := Lib.hid (TY.out.nx b2)
  replace hR := Lib.hid (hR.out.nx b2)
  have z0 := X.out.at_ 0 (by simp)
  have z1 := X.out.at_ 1 (by simp)
  have z2 := X.out.at_ 2 (by simp)
  simp only [List.getElem?_cons_succ, List.getElem?_cons_zero] at z0 z1 z2
  go_wp2_with fail
  go_at_call 45
  refine (shaped_cs hcs _ HF).mono ?_
  rintro e w3 ⟨b, rfl, hb, b3⟩
  obtain rfl : b = true := hb.2 VL.out.1
  clear hb z0 z1 z2
  replace bw := bw.trans (b3.mono bw.size)
  replace G := Lib.hid (G.out.nx b3)
  replace HF := Lib.hid (HF.out.nx b3)
  replace HP := Lib.hid (HP.out.nx b3)
  replace X := Lib.hid (X.out.nx b3)
  replace Y := Lib.hid (Y.out.nx b3)
  replace TY := Lib.hid (TY.out.nx b3)
  replace hR := Lib.hid (hR.out.nx b3)
  have z0 := X.out.at_ 0 (by simp)
  have z1 := X.out.at_ 1 (by simp)
  have z2 := X.out.at_ 2 (by simp)
  simp only [List.getElem?_cons_succ, List.getElem?_cons_zero] at z0 z1 z2
  obtain ⟨gr, or_, hra, hgr, hcr⟩ := hR.out.at_ (by omega)
  subst hra
  have hcr0 : w3.cell? ⟨gr, or_, none⟩ = some (.int .i64 root) := by have := hcr 0 (by omega); simpa [iv] using this
  have HCR := Lib.hid hcr0
  have HF3 := HF
  have G3 := G
  clear hcr hcr0
  have X3 := X
  have Y3 := Y
  have TY3 := TY
  have HP3 := HP
  have hR3 := hR
  have bw3 := bw
  go_wp2_with fail
  go_at_call 46
  refine (read_in r0 r0 _ hcs G HF RY hr1).mono ?_
  rintro e w4 ⟨⟨S, M, A, n7, c7, L, rok, rfl, mb, _, hM⟩ | ⟨rok, _⟩, b4⟩
  case inr => exact absurd VL.out.2 (fun ⟨s, hs⟩ => rok s (by rw [HR.out]; exact hs))
  have ROK : Hid (Rok f.f.pg f.f.free f.f.root (S, its L)) := Lib.hid (by rw [HR.out] at rok; exact rok)
  have MB := mb
  have hMlt := MB.out.lt
  have SZ1 := (ROK.out.items VL.out.1.p256).sz
  clear rok mb z0 z1 z2
  replace bw := bw.trans (b4.mono bw.size)
  replace G := Lib.hid (G.out.nx b4)
  replace HF := Lib.hid (HF.out.nx b4)
  replace HP := Lib.hid (HP.out.nx b4)
  replace X := Lib.hid (X.out.nx b4)
  replace Y := Lib.hid (Y.out.nx b4)
  replace TY := Lib.hid (TY.out.nx b4)
  replace hR := Lib.hid (hR.out.nx b4)
  have y0 := X.out.at_ 0 (by simp)
  have y1 := X.out.at_ 1 (by simp)
  have y2 := X.out.at_ 2 (by simp)
  simp only [List.getElem?_cons_succ, List.getElem?_cons_zero] at y0 y1 y2
  obtain ⟨q9, hq9⟩ : ∃ q9, w4.heap.size = q9 := ⟨_, rfl⟩
  obtain ⟨W5, hW5⟩ : ∃ W5, w4.alloc (.cells #[.slice PA n pc, .int .i64 (-1), .slice none 0 0] 30) = W5 := ⟨_, rfl⟩
  have b5 : Below w4.heap.size w4 W5 := hW5 ▸ bal _ _
  have Z : Hid (Bx W5 q9 [.slice PA n pc, .int .i64 (-1), .slice none 0 0]) := hW5 ▸ Lib.hid (Bx.put _ hq9 #[.slice PA n pc, .int .i64 (-1), .slice none 0 0] 30)
  have TZ : Hid (Ty W5 q9 30) := hW5 ▸ hq9 ▸ Lib.hid (Ty.new _ _ _)
  have HW5 := Lib.hid hW5
  clear hW5
  have MB := Lib.hid (MB.out.below b5)
  replace bw := bw.trans (b5.mono bw.size)
  replace G := Lib.hid (G.out.nx b5)
  replace HF := Lib.hid (HF.out.nx b5)
  replace HP := Lib.hid (HP.out.nx b5)
  replace X := Lib.hid (X.out.nx b5)
  replace Y := Lib.hid (Y.out.nx b5)
  replace TY := Lib.hid (TY.out.nx b5)
  replace hR := Lib.hid (hR.out.nx b5)
  have b35 := b4.trans (b5.mono b4.size)
  go_upto_region 9 with fail
  rw [HW5.out]
  clear y0 y1 y2
  go_wp2_with fail
  have hMq9 : M < q9 := by omega
  have INK : ∀ key kl, keyOf Tryd.prog 3 key = some kl → ∃ x, key = Value.int .i64 x := fun key kl h => by obtain ⟨x, rfl, _⟩ := Maps.keyOf_int_inv Tryd.underlying3 h; exact ⟨x, rfl⟩
  have INV : ∀ (v : Value) y, rawE v = some y → ∃ c, v = id c := fun v _ _ => ⟨v, rfl⟩
  have INK := Lib.hid INK
  have INV := Lib.hid INV
  go_loopw [47] (fun zv wr => ∃ (j : Nat) (T S2 : List Nat) (es2 : List It), j ≤ 1 ∧ zv = .int .i64 j ∧ Hid (Mb wr M T) ∧ Hid (∀ m : Nat, m < 4096 → (m ∈ T ↔ m ∈ S ∨ (j = 1 ∧ m ∈ S2))) ∧ (j = 0 → T = S) ∧ (j = 1 → Hid (Rok f.f.pg [] root (S2, es2))) ∧ Hid (Kp W5 wr (· = M))) (fun zv _ => (1 - intOf zv).toNat)
  case atStart => exact ⟨0, S, [], [], by omega, rfl, MB, Lib.hid fun m _ => by simp, fun _ => rfl, fun h => by omega, Lib.hid (Kp.refl _ _)⟩
  case round =>
  obtain ⟨j, T, S2, es2, hj, rfl, MBT, HT, HTS, RK2, KP⟩ := hrel
  have b3r : Below w3.heap.size w3 wr := b35.trans (KP.out.low b35.size fun i e => by omega)
  by_cases hlt : j < 1
  · obtain rfl : j = 0 := by omega
    have hcr : wr.cell? ⟨gr, or_, none⟩ = some (.int .i64 root) := (World.cell?_of_block (b3r.block gr hgr)).trans HCR.out
    have Zr := Lib.hid (Z.out.kp KP.out (by omega))
    have z0 := Zr.out.at_ 0 (by simp)
    have z1 := Zr.out.at_ 1 (by simp)
    have z2 := Zr.out.at_ 2 (by simp)
    simp only [List.getElem?_cons_succ, List.getElem?_cons_zero] at z0 z1 z2
    have Gr := Lib.hid (G3.out.nx b3r)
    have HF2 : Hid (Fl wr ⟨f.PA, f.pc, f.ps, -1, none, 0, []⟩) := Lib.hid ⟨HF3.out.pg.below b3r, Rd.nil_ _ _⟩
    have HTq := Lib.hid (HTS rfl)
    clear RK2 HTS
    go_wp2_with fail
    go_at_call 46
    refine (read_in (-1) root _ hcs2 Gr HF2 RY2 hr2).mono ?_
    rintro e w6 ⟨⟨S2, M2, A6, n6, c6, L6, rok2, rfl, mb2, _, hM2⟩ | ⟨rok2, _⟩, b6⟩
    case inr => exact absurd VO.out (fun ⟨t, ht⟩ => rok2 t ht)
    have ROK2 : Hid (Rok f.f.pg [] root (S2, its L6)) := Lib.hid rok2
    have RI2 := ROK2.out.items VL.out.1.p256
    have SZ2 := RI2.sz
    have LT2 := Lib.hid RI2.lt
    have MBT6 := Lib.hid (MBT.out.below b6)
    have KP6 := Lib.hid (KP.out.below b6)
    have hMr := MBT.out.lt
    obtain ⟨D, hD⟩ := mb2.out
    have HD := Lib.hid hD
    have HOWN := hD.own
    obtain ⟨R, hR6⟩ : ∃ R, w6.heap.size = R := ⟨_, rfl⟩
    have hM2R : M2 < R := by rw [← hR6]; exact mb2.out.lt
    clear rok2 RI2 z0 z1 z2 hcr hD
    go_wp2_with (at_range; refine wpList_range_own _ rfl _ 79 rfl 3 4 keyed Tryd.underlying79 rawE M2 S2.length D rfl HOWN ?_; intro w0 hrg0 hg0 hs0)
    go_frame
    rw [hR6] at hrg0 hs0 ⊢
    have KP0 := Lib.hid (kp_grown0 (X := (· = M)) hg0)
    have MBT0 := Lib.hid (MBT6.out.kp (X := fun _ => False) (kp_grown0 hg0) (fun e => e))
    go_loopw [15] (fun _ wr => ∃ (left : Lit → Bool) (cnt : Nat) (T : List Nat), wr.ranges Tryd.prog 3 rawE M2 R S2.length D left cnt ∧ Hid (Mb wr M T) ∧ Hid (∀ m : Nat, m < 4096 → (m ∈ T ↔ m ∈ S ∨ (m ∈ S2 ∧ left (.int .i64 (m : Int)) = false))) ∧ Hid (∀ t : Int, (Lit.int .i64 t).wf = true → left (.int .i64 t) = true → inS S2 t = true) ∧ T.length + cnt ≤ 8192 ∧ Hid (Kp w6 wr (· = M))) (fun _ wr => wr.rangeLeft M2 R)
    case atStart =>
      refine ⟨_, _, T, hrg0, MBT0, Lib.hid fun m hm => ?_, Lib.hid fun t ht hl => ?_, ?_, KP0⟩
      · rw [HTq.out, HD.out.has_ (m : Int) (by simp [Lit.wf, IntKind.min, IntKind.max, IntKind.wrap, IntKind.bits, IntKind.signed]; omega), inS_nat]
        constructor
        · exact fun h => .inl h
        · rintro (h | ⟨h1, h2⟩)
          · exact h
          · exact absurd h1 (of_decide_eq_false h2)
      · rw [← HD.out.has_ t ht]; exact hl
      · rw [HD.out.size_, HTq.out]; have := HN.out; omega
    case round =>
      obtain ⟨left, cnt, T', hrg, MBi, HTi, HLi, hcnt, KPi⟩ := hrel
      go_wp2_with (at_next; refine wpList_next_ranges _ rfl _ rfl 3 keyed rawE (Value.int .i64) id INK.out INV.out M2 R S2.length D _ _ rfl hrg ?_ ?_)
      · intro hc0 hl0
        have HTo : Hid (∀ m : Nat, m < 4096 → (m ∈ T' ↔ m ∈ S ∨ (0 + 1 = 1 ∧ m ∈ S2))) := Lib.hid fun m hm => by
          rw [HTi.out m hm, hl0 _]; simp
        have KPo := Lib.hid (KP6.out.trans KPi.out fun _ _ e => e)
        clear hl0 hrg hc0
        go_wp2_with fail
        go_roundw
        case rel => exact ⟨0 + 1, T', S2, its L6, by omega, by first | trivial | go_num, MBi, HTo, fun h => by omega, fun _ => ROK2, KPo⟩
        case measure => simp [intOf]
      · intro x c kl y1 y2 w1 cnt1 hkey hlk hv hat hrg1 hlt1 hg1 hs1 hen
        obtain ⟨x', ex, rfl, hwx⟩ := Maps.keyOf_int_inv Tryd.underlying3 hkey
        cases ex
        have hin := HLi.out x hwx hlk
        obtain ⟨nx, hnx, hxe⟩ : ∃ nx, nx ∈ S2 ∧ (nx : Int) = x := by
          unfold inS at hin
          obtain ⟨s, hs, e⟩ := List.any_eq_true.1 hin
          exact ⟨s, hs, beq_iff_eq.1 e⟩
        subst hxe
        have hn4 : nx < 4096 := by have := LT2.out nx hnx; have := HN.out; omega
        have hMR : M ≠ R := by have := KPi.out.size; omega
        have MB1 := Lib.hid (MBi.out.kp (kp_grown hg1) hMR)
        obtain ⟨w2x, hrun, MB2x, gr2⟩ := MB1.out.store (n := nx) (by omega) (by omega)
        have hrg2 := hrg1.kept gr2 (fun e => by have := Option.some.inj e; omega) (fun e => hMR (Option.some.inj e).symm)
        have KP2 : Hid (Kp w6 w2x (· = M)) := Lib.hid (((KPi.out.trans (kp_grown hg1) (fun i hi' e => by omega)).trans (kp_grown gr2) fun _ _ e => e))
        have MB2x := Lib.hid MB2x
        have HT2 : Hid (∀ m : Nat, m < 4096 → (m ∈ ins nx T' ↔ m ∈ S ∨ (m ∈ S2 ∧ (left (.int .i64 (m : Int)) && !(Lit.int .i64 (m : Int)).sameKey (.int .i64 (nx : Int))) = false))) := Lib.hid fun m hm => by
          rw [mem_ins, HTi.out m hm]
          have e : (Lit.int .i64 (m : Int)).sameKey (.int .i64 (nx : Int)) = decide (m = nx) := by
            show decide (IntKind.i64 = IntKind.i64 ∧ (m : Int) = (nx : Int)) = _
            rw [decide_eq_decide]; exact ⟨fun h => by have := h.2; omega, fun h => ⟨rfl, by omega⟩⟩
          rw [e]
          by_cases hmn : m = nx
          · subst hmn; simp [hnx]
          · rw [decide_eq_false hmn]; simp [hmn]
        have HL2 : Hid (∀ t : Int, (Lit.int .i64 t).wf = true → (left (.int .i64 t) && !(Lit.int .i64 t).sameKey (.int .i64 (nx : Int))) = true → inS S2 t = true) := Lib.hid fun t ht hl => HLi.out t ht (by simp only [Bool.and_eq_true] at hl; exact hl.1)
        have hil : (ins nx T').length ≤ T'.length + 1 := by
          unfold ins; split <;> simp
        have hme : w2x.rangeLeft M2 R < wr.rangeLeft M2 R := by rw [hrg2.left_eq, hrg.left_eq]; exact hlt1
        clear hkey hlk hv hat hg1 gr2 hin hrg1 hrg
        go_wp2_with fail
        go_roundw
        case rel => exact ⟨_, cnt1, ins nx T', hrg2, MB2x, HT2, HL2, by omega, KP2⟩
        case measure => exact hme
  · obtain rfl : j = 1 := by omega
    have RKo := RK2 rfl
    have HTo : Hid (∀ m : Nat, m < n → (m ∈ T ↔ m ∈ S ∨ m ∈ S2)) := Lib.hid fun m hm => by rw [HT.out m (by omega)]; simp
    have MB := MBT
    have HP := Lib.hid (HP3.out.nx b3r)
    have X := Lib.hid (X3.out.nx b3r)
    have Y := Lib.hid (Y3.out.nx b3r)
    have TY := Lib.hid (TY3.out.nx b3r)
    have bw := bw3.trans (b3r.mono bw3.size)
    clear RK2 HTS HT
    have z0 := X.out.at_ 0 (by simp)
    have z1 := X.out.at_ 1 (by simp)
    have z2 := X.out.at_ 2 (by simp)
    simp only [List.getElem?_cons_succ, List.getElem?_cons_zero] at z0 z1 z2
    go_wp2_with fail
    -- the copy of the pages
    have bd : Below wr.heap.size wr wr.drew := (Below.refl _ _).drew
    have PC : Hid (∀ U, Below wr.heap.size wr U → Calls Tryd.prog 61 #[.slice PA n pc] U fun e w' => ∃ A' c' l', e = .returned (.slice A' n c') ∧ l'.map PV.d = f.ps.map PV.d ∧ Hid (Cp w' U.heap.size A' n c' l') ∧ Below U.heap.size U w') := Lib.hid fun U hU => copied_any U (Lib.hid (HP.out.below hU)) (by omega) (Lib.hid fun x hx => Nat.le_of_eq (P256.out x hx))
    have KK : Hid (∀ U, Below wr.heap.size wr U → U.cell? ⟨p, 0, none⟩ = some (.slice PA n pc) ∧ U.cell? ⟨p, 1, none⟩ = some (.int .i64 r0)) := Lib.hid fun U hU => by
      have h := X.out.nx hU
      have h0 := h.at_ 0 (by simp)
      have h1 := h.at_ 1 (by simp)
      exact ⟨by simpa using h0, by simpa using h1⟩
    go_region_held3 (fun w' => w'.cell? ⟨p, 0, none⟩ = some (.slice PA n pc) ∧ w'.cell? ⟨p, 1, none⟩ = some (.int .i64 r0))
      ((refine KK.out _ ?_; repeat (first | exact bb1 | exact bd | exact Below.refl _ _ | (refine Below.drew ?_) | (refine res_below ?_ (Nat.le_refl _)) | (refine bel_alloc ?_ (Nat.le_refl _) _))))
      (first
        | (go_at_call 61; refine (PC.out _ (by repeat (first | exact bd | exact Below.refl _ _ | (refine Below.drew ?_) | (refine bel_alloc ?_ (Nat.le_refl _) _)))).mono ?_; rintro e wc ⟨A1, c1, l1, rfl, hl1, cp1, b1⟩; have bb1 := Below.trans (show Below wr.heap.size wr _ by repeat (first | exact bd | exact Below.refl _ _ | (refine Below.drew ?_) | (refine bel_alloc ?_ (Nat.le_refl _) _))) (b1.mono (by first | exact Nat.le_refl _ | simp)); have gc := (bcell b1).1; have gf := (bcell b1).2))
    all_goals
      first
        | (have RW := rw_after (r0 := r0) (Nat.le_refl _) bb1 cp1.out
           obtain ⟨W6, hW6⟩ : ∃ W6, wc.alloc (.cells #[.slice A1 n c1, .int .i64 r0, .slice none 0 0] 30) = W6 := ⟨_, rfl⟩
           obtain ⟨q, hq⟩ : ∃ q, wc.heap.size = q := ⟨_, rfl⟩
           rw [hW6, hq] at RW
           rw [hW6, hq])
        | (have RW := rw_first (r0 := r0) b1 cp1.out
           obtain ⟨W6, hW6⟩ : ∃ W6, (((wc.setCell ⟨wr.heap.size, 0, none⟩ (.slice A1 n c1)).setCell ⟨wr.heap.size, 1, none⟩ (.int .i64 r0)).setCell ⟨wr.heap.size, 2, none⟩ (.slice none 0 0)) = W6 := ⟨_, rfl⟩
           obtain ⟨q, hq⟩ : ∃ q, wr.heap.size = q := ⟨_, rfl⟩
           rw [hW6, hq] at RW
           rw [hW6]
           simp only [hq])
      have RW := Lib.hid RW
      have HL1 := Lib.hid hl1
      clear hW6 hq b1 bb1 cp1 gc gf hl1 z0 z1 z2
      have v6 := RW.out.bw
      have hMq : M < q := Nat.lt_of_lt_of_le MB.out.lt RW.out.lo
      have hqW : q < W6.heap.size := RW.out.bx.lt
      have hpq : p + 1 < q := Nat.lt_of_lt_of_le Y.out.lt RW.out.lo
      have hwp : w.heap.size ≤ p + 1 := by omega
      have hwq : w.heap.size ≤ q := by omega
      have MB := Lib.hid (MB.out.below v6)
      replace bw := bw.trans (v6.mono bw.size)
      replace X := Lib.hid (X.out.nx v6)
      replace Y := Lib.hid (Y.out.nx v6)
      replace TY := Lib.hid (TY.out.nx v6)
      have z0 := X.out.at_ 0 (by simp)
      have z1 := X.out.at_ 1 (by simp)
      have z2 := X.out.at_ 2 (by simp)
      simp only [List.getElem?_cons_succ, List.getElem?_cons_zero] at z0 z1 z2
      go_wp2_with fail
      go_loopw [79] (fun zv wr => ∃ (j no : Nat) (Ao : Option Addr) (co : Nat), j ≤ n ∧ no ≤ j ∧ zv = .int .i64 j ∧ Hid (Bx wr q [.slice A1 n c1, .int .i64 r0, .slice Ao no co]) ∧ Hid (wr.ownsRow W6.heap.size 3 1 (.slice Ao no co) no (iv (nat_int ((List.range j).filter fun m => decide (m ∉ T))))) ∧ Hid (Kp W6 wr (· = q))) (fun zv _ => (n - intOf zv).toNat)
      case atStart => exact ⟨0, 0, none, 0, by omega, by omega, rfl, Lib.hid RW.out.bx, Lib.hid (World.ownsRow_nil _ _ _ _), Lib.hid (Kp.refl _ _)⟩
      case round =>
        obtain ⟨j, no, Ao, co, hj, hno, rfl, BX, OW, KP⟩ := hrel
        have MB7 := Lib.hid (MB.out.kp KP.out (by omega))
        by_cases hlt : j < n
        · have d1 : decide ((j : Int) < (n : Int)) = true := decide_eq_true (by omega)
          have LK := MB7.out.look (t := (j : Int)) (by simp [Lit.wf, IntKind.min, IntKind.max, IntKind.wrap, IntKind.bits, IntKind.signed]; omega)
          rw [inS_nat] at LK
          by_cases hS : j ∈ T
          · rw [decide_eq_true hS] at LK
            have OW2 : Hid (wr.ownsRow W6.heap.size 3 1 (.slice Ao no co) no (iv (nat_int ((List.range (j + 1)).filter fun m => decide (m ∉ T))))) := Lib.hid (by
              rw [List.range_succ, List.filter_append]; simpa [hS] using OW.out)
            clear hS
            go_wp2_with fail
            go_roundw
            case rel => exact ⟨j + 1, no, Ao, co, by omega, by omega, by first | trivial | go_num, BX, OW2, KP⟩
            case measure => simp [intOf]; omega
          · rw [decide_eq_false hS] at LK
            have NS := Lib.hid hS
            clear hS
            have y0 := BX.out.at_ 0 (by simp)
            have y1 := BX.out.at_ 1 (by simp)
            have y2 := BX.out.at_ 2 (by simp)
            simp only [List.getElem?_cons_succ, List.getElem?_cons_zero] at y0 y1 y2
            have hsz := KP.out.size
            have n1 : no ≤ 4096 := by omega
            go_wp2_with (at_builtin; apply hold)
            unfold Hold
            refine wpList_app _ rfl (.tmp 87) (.tmp 89) 28 rfl W6.heap.size 3 i0 (.int .i64 0) 1 8 Tryd.underlying28 hi hz0 hz1 hz2 rfl (by omega) (by rfl) (own_alloc OW.out _) (by rfl) (Rd.lit wr _ 1 #[.int .i64 j] 1 (by omega) rfl) (one1 _ rfl) (by omega) (by omega) (by simp; omega) ?_
            intro A4 c4 w4 own4 g4
            have hAo : ∀ g, blk Ao = some g → W6.heap.size ≤ g := fun g e => (own_blk_le OW.out e).1
            have B4 := Lib.hid ((BX.out.step (bal _ _)).kp (Kp.of_grew g4 (X := fun i => blk Ao = some i) fun g h => h) fun e => by have := hAo q e; omega)
            have K4 := Lib.hid ((KP.out.below (bal _ _)).trans (Kp.of_grew g4 (X := fun i => blk Ao = some i) fun g h => h) (fun i hi' e => by have := hAo i e; omega))
            have OW4 : Hid (w4.ownsRow W6.heap.size 3 1 (.slice A4 (no + 1) c4) (no + 1) (iv (nat_int ((List.range (j + 1)).filter fun m => decide (m ∉ T))))) := Lib.hid (by
              rw [List.range_succ, List.filter_append]
              have e : ([j].filter fun m => decide (m ∉ T)) = [j] := by simp [NS.out]
              rw [e]
              unfold nat_int iv at own4 ⊢
              rw [List.map_append, List.map_append]
              exact own4)
            have B5 : Hid (Bx (w4.setCell ⟨q, 2, none⟩ (.slice A4 (no + 1) c4)) q [.slice A1 n c1, .int .i64 r0, .slice A4 (no + 1) c4]) := Lib.hid (B4.out.set (j := 2) (by simp) _)
            have K5 : Hid (Kp W6 (w4.setCell ⟨q, 2, none⟩ (.slice A4 (no + 1) c4)) (· = q)) := Lib.hid (K4.out.trans (Kp.of_set w4 ⟨q, 2, none⟩ _ (X := (· = q)) rfl) fun _ _ e => e)
            have OW5 : Hid ((w4.setCell ⟨q, 2, none⟩ (.slice A4 (no + 1) c4)).ownsRow W6.heap.size 3 1 (.slice A4 (no + 1) c4) (no + 1) (iv (nat_int ((List.range (j + 1)).filter fun m => decide (m ∉ T))))) := Lib.hid (own_kp OW4.out (Kp.of_set w4 ⟨q, 2, none⟩ _ (X := (· = q)) rfl) fun g e e' => by have := (own_blk_le OW4.out e).1; omega)
            have u0 := B4.out.at_ 0 (by simp)
            have u1 := B4.out.at_ 1 (by simp)
            have u2 := B4.out.at_ 2 (by simp)
            simp only [List.getElem?_cons_succ, List.getElem?_cons_zero] at u0 u1 u2
            have t2 := B4.out.fz 2 (by simp)
            clear own4 g4 hAo y0 y1 y2
            go_wp2_with fail
            go_roundw
            case rel => exact ⟨j + 1, no + 1, A4, c4, by omega, by omega, by first | trivial | go_num, B5, OW5, K5⟩
            case measure => simp [intOf]; omega
        · obtain rfl : j = n := by omega
          have d1 : decide ((j : Int) < (j : Int)) = false := decide_eq_false (by omega)
          have Y7 := Lib.hid (Y.out.kp KP.out (by omega))
          have T7 := Lib.hid (TY.out.kp KP.out (by omega))
          have bw7 : Below w.heap.size w wr := bw.trans (KP.out.low (B := w.heap.size) bw.size (fun i e => by omega))
          have y0 := BX.out.at_ 0 (by simp)
          have y1 := BX.out.at_ 1 (by simp)
          have y2 := BX.out.at_ 2 (by simp)
          have x0 := Y7.out.at_ 0 (by simp)
          have x1 := Y7.out.at_ 1 (by simp)
          have x2 := Y7.out.at_ 2 (by simp)
          simp only [List.getElem?_cons_succ, List.getElem?_cons_zero] at x0 x1 x2 y0 y1 y2
          have g0 := Y7.out.fz 0 (by simp)
          have g1 := Y7.out.fz 1 (by simp)
          have g2 := Y7.out.fz 2 (by simp)
          obtain ⟨C0, C1, C2⟩ := res_cells Y7.out
          have C0 := Lib.hid C0
          have C1 := Lib.hid C1
          have C2 := Lib.hid C2
          have hnl : l1.length = j := by have := (Rd.of_own RW.out.cp.own).len; rw [pv_len] at this; omega
          have hfl : (nat_int ((List.range j).filter fun m => decide (m ∉ T))).length = no := by have := (Rd.of_own OW.out).len; rw [iv_len] at this; omega
          have FT : Hid (FlT wr ⟨A1, c1, l1, r0, Ao, co, nat_int ((List.range j).filter fun m => decide (m ∉ T))⟩) := Lib.hid (rw_flt RW.out KP.out OW.out hnl hfl)
          have VV : Hid (FV.val ⟨A1, c1, l1, r0, Ao, co, nat_int ((List.range j).filter fun m => decide (m ∉ T))⟩ = .agg #[.slice A1 j c1, .int .i64 r0, .slice Ao no co]) := Lib.hid (by unfold FV.val; dsimp only; rw [hnl, hfl])
          have RR := Lib.hid (rc2_of (A1 := A1) (c1 := c1) (Ao := Ao) (co := co) HL1.out HR.out HN.out.symm ROK.out RKo.out HTo.out)
          clear hnl hfl d1
          go_wp2_with fail
          refine bodyPost_ret (v := .tuple #[.agg #[.slice A1 j c1, .int .i64 r0, .slice Ao no co], .int .i64 0]) (by simp [results, Tryd.results36, go_sem, C0.out, C1.out, C2.out]) rfl ⟨_, by rw [VV.out], RR.out, Lib.hid (fl_res FT.out T7.out), res_below bw7 hwp⟩
end Go.Proofs.YtphiblmkgbkdmaaDoor.Pg
