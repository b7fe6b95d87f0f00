/- The walk of Delete. -/
import Derived.Test.YtphiblmkgbkdmaaDoorPgX7
namespace Go.Proofs.YtphiblmkgbkdmaaDoor.Pg
set_option linter.unusedVariables false
set_option linter.unusedSimpArgs false
open Go.RowKit Wl

theorem get_ok {F : Fi} {key d : List UInt8} (h : GetO F key d 0) : lenK key ∧ Vld F ∧ ¬ F.root < 0 := by
  cases h
  case get h hs hf =>
    cases hf
    case some s hr hn =>
      refine ⟨h, ⟨hs, s, hr⟩, fun hlt => ?_⟩
      cases hr
      case no _ => cases hn
      case yes _ h2 => omega
section
variable {f : FV} {PA FA : Option Addr} {n pc m fc : Nat} {r0 : Int}
set_option maxRecDepth 20000 in
set_option maxHeartbeats 12800000 in
theorem Delete_cs (hcs : CsOf f PA n pc r0 FA m fc) {K : Option Addr} {kn kc : Nat} {key : List UInt8} (w : World) (G : Hid (Gl w)) (HF : Hid (Fl w f)) (hk : Hid (Rd w 1 K kn kc (bv key))) :
    Calls Tryd.prog 20 #[.agg #[.slice PA n pc, .int .i64 r0, .slice FA m fc], .slice K kn kc] w (FilPost w (DelO f.f key)) := by
  obtain ⟨W0, hW0⟩ : ∃ W0, (w.alloc (.cells #[.slice PA n pc, .int .i64 r0, .slice FA m fc] 30)).alloc (.cells #[.slice none 0 0, .int .i64 0, .slice none 0 0] 30) = W0 := ⟨_, rfl⟩
  obtain ⟨S, hS⟩ : ∃ S, w.heap.size = S := ⟨_, rfl⟩
  have hb0 : Below w.heap.size w W0 := hW0 ▸ bel_alloc (bal _ _) (Nat.le_refl _) _
  have B0 : Hid (Bx W0 S [.slice PA n pc, .int .i64 r0, .slice FA m fc]) := hW0 ▸ Lib.hid ((Bx.put w hS #[.slice PA n pc, .int .i64 r0, .slice FA m fc] 30).step (bal _ _))
  have X0 : Hid (Bx W0 (S + 1) [.slice none 0 0, .int .i64 0, .slice none 0 0]) := hW0 ▸ Lib.hid (Bx.put _ (by simp; exact hS) #[.slice none 0 0, .int .i64 0, .slice none 0 0] 30)
  have T0 : Hid (Ty W0 (S + 1) 30) := by
    have := Ty.new (w.alloc (.cells #[.slice PA n pc, .int .i64 r0, .slice FA m fc] 30)) #[.slice none 0 0, .int .i64 0, .slice none 0 0] 30
    rw [hW0] at this
    have e : (w.alloc (.cells #[.slice PA n pc, .int .i64 r0, .slice FA m fc] 30)).heap.size = S + 1 := by simp; exact hS
    rw [e] at this
    exact Lib.hid this
  have HF0 := Lib.hid (HF.out.below hb0)
  have G0 := Lib.hid (G.out.below hb0)
  have K0 := Lib.hid (Rd.below hk.out hb0)
  have hr0 := Lib.hid (cs_root hcs).1
  have hs0 : W0.heap.size = S + 2 := by rw [← hW0, ← hS]; simp
  have HW0 := Lib.hid hW0
  have z0 := B0.out.at_ 0 (by simp)
  have z1 := B0.out.at_ 1 (by simp)
  have z2 := B0.out.at_ 2 (by simp)
  simp only [List.getElem?_cons_succ, List.getElem?_cons_zero] at z0 z1 z2
  clear hW0
  go_enter Tryd.func20, Tryd.ntmps20
  go_wp2_with fail
  rw [HW0.out]
  go_at_call 18
  refine (Get_cs hcs _ G0 HF0 K0).mono ?_
  rintro e w2 ⟨d, er, Ad, cd, hget, rfl, _, b2⟩
  have bw2 := hb0.trans (b2.mono hb0.size)
  have X2 := Lib.hid (X0.out.step b2)
  by_cases her : er = 0
  · subst her
    have GO := Lib.hid hget
    obtain ⟨gk, gv, gr⟩ := get_ok hget
    have VL := Lib.hid gv
    have ROOT : Hid (0 ≤ f.root) := Lib.hid (by have h : ¬ f.root < 0 := gr; omega)
    clear hget gk gv gr
    have HF2 := Lib.hid (HF0.out.below b2)
    have G2 := Lib.hid (G0.out.below b2)
    have K2 := Lib.hid (Rd.below K0.out b2)
    have B2 := Lib.hid (B0.out.step b2)
    have T2 := Lib.hid (T0.out.step b2)
    obtain ⟨fr, hfr, hfl⟩ := frok_nat VL.out.1.fr
    have HFR : Hid (f.f.free = nat_int fr) := Lib.hid hfr
    have HFL : Hid (∀ x ∈ fr, x < f.ps.length) := Lib.hid fun x hx => by have := hfl x hx; simpa [FV.f] using this
    have z0 := B2.out.at_ 0 (by simp)
    have z1 := B2.out.at_ 1 (by simp)
    have z2 := B2.out.at_ 2 (by simp)
    simp only [List.getElem?_cons_succ, List.getElem?_cons_zero] at z0 z1 z2
    obtain ⟨base, hbase⟩ : ∃ base, w2.heap.size = base := ⟨_, rfl⟩
    have hSb : S + 1 < base := by have := b2.size; omega
    have hbs : w.heap.size ≤ base := by omega
    clear hfr hfl
    obtain ⟨rn, rfl⟩ : ∃ rn : Nat, r0 = (rn : Int) := ⟨r0.toNat, by have h1 := ROOT.out; have h2 := hr0.out; omega⟩
    go_wp2_with fail
    go_at_call 49
    refine (begin_cs hcs _ G2 HF2 (Lib.hid VL.out.1) HFR HFL).mono ?_
    rintro e w3 ⟨q, v, rfl, M3, b3⟩
    rw [hbase] at M3
    have bw7 : Below w.heap.size w w3 := bw2.trans (b3.mono bw2.size)
    have X7 := Lib.hid (X2.out.step b3)
    have T7 := Lib.hid (T2.out.step b3)
    have B6 := Lib.hid (B2.out.step b3)
    have K6 : Hid (Rd w3 1 K kn kc (bv key)) := Lib.hid (Rd.below K2.out b3)
    have hbW6 : base ≤ w3.heap.size := by have := b3.size; omega
    clear z0 z1 z2
    have z0 := B6.out.at_ 0 (by simp)
    have z1 := B6.out.at_ 1 (by simp)
    have z2 := B6.out.at_ 2 (by simp)
    simp only [List.getElem?_cons_succ, List.getElem?_cons_zero] at z0 z1 z2
    have HRN : Hid (f.f.root.toNat = rn) := Lib.hid (by have := hr0.out; show f.root.toNat = rn; omega)
    have HA : Hid (delA f.f fr key = chg key [] (f.f.pg.length + 1) f.f.root.toNat ⟨f.f.pg, fr, false⟩) := Lib.hid rfl
    have POK : Hid (Pok (f.ps.map PV.d) key (f.f.pg.length + 1) rn) := Lib.hid (by rw [← HRN.out]; exact vld_pok VL.out (by have h1 := ROOT.out; show ¬ f.root < 0; omega) key)
    have OK6 : Hid (∀ x ∈ its [], ItOk 1 x) := Lib.hid (by simp [its])
    have CH := change_any (base := base) (q := q) (root := (rn : Int)) (key := key) (lb := []) OK6 (by simp) (f.f.pg.length + 1) rn v ⟨f.ps.map PV.d, fr, false⟩ K kn kc none 0 0 w3 POK M3 K6 (Lib.hid ⟨Rd.nil_ _ _, by simp⟩) hbW6
    have CH := Lib.hid CH
    obtain ⟨CO1, _, CO2⟩ := chg_ok (key := key) (bl := []) (k := f.f.pg.length + 1) (n := rn) (s := ⟨f.ps.map PV.d, fr, false⟩) OK6.out (by simp) POK.out (ows_ok M3.out)
    have CO1 := Lib.hid CO1
    have CO2 := Lib.hid CO2
    go_wp2_with fail
    go_at_call 53
    refine CH.out.mono ?_
    rintro e w7 ⟨A7, n7, c7, l7, v7, rfl, S7⟩
    have OK7 : Hid (∀ x ∈ its l7, ItOk 2 x) := Lib.hid (by rw [S7.out.it]; exact CO1.out)
    have hn7 : n7 ≤ 84 := by
      have := CO2.out
      have e : its l7 = (chg key [] (f.f.pg.length + 1) rn ⟨f.ps.map PV.d, fr, false⟩).1 := S7.out.it
      rw [← e, its_len, ← S7.out.ir.len] at this; exact this
    have bB7 : Below base w3 w7 := S7.out.kp.low hbW6 fun i h => by
      rcases h with h | h
      · exact h ▸ M3.out.q1
      · exact (own_blk_le M3.out.own h).1
    have DN := done_any (F := 1000) w7 (Lib.hid S7.out.wm) (Lib.hid S7.out.ir) (Lib.hid S7.out.ap) OK7 (by omega) (by omega) (Nat.le_trans hbW6 bB7.size)
    have DN := Lib.hid DN
    have HRA : Hid (dnF 1000 (its l7) (chg key (its []) (f.f.pg.length + 1) rn ⟨f.ps.map PV.d, fr, false⟩).2 = dnF 1000 (delA f.f fr key).1 (delA f.f fr key).2) := Lib.hid (by rw [S7.out.it, HA.out, HRN.out]; rfl)
    have bw7 : Below w.heap.size w w7 := bw7.trans (bB7.mono hbs)
    have X7 := Lib.hid (X7.out.below bB7 hSb)
    have T7 : Hid (Ty w7 (S + 1) 30) := Lib.hid (T7.out.kp ⟨bB7.os, bB7.tape, bB7.output, bB7.size, fun i hi hn => bB7.block i (by omega)⟩ (X := fun i => base ≤ i) (by omega))
    go_wp2_with fail
    go_at_call 51
    refine DN.out.mono ?_
    rintro e w8 D8
    obtain ⟨D8, b8⟩ := dn_of HRA.out D8
    have bw8 : Below w.heap.size w w8 := (bw7.mono (Nat.le_refl _)).trans (b8.mono hbs)
    have X8 := Lib.hid (X7.out.below b8 hSb)
    have T8 : Hid (Ty w8 (S + 1) 30) := Lib.hid (T7.out.kp ⟨b8.os, b8.tape, b8.output, b8.size, fun i hi hn => b8.block i (by omega)⟩ (X := fun i => base ≤ i) (by omega))
    rcases D8 with ⟨hfull, rfl⟩ | ⟨hfull, f8, rfl, hf8, F8⟩
    · have R : Hid (DelO f.f key zeroF 5) := Lib.hid (.full fr HFR.out d GO.out hfull)
      clear hfull
      have x0 := X8.out.at_ 0 (by simp)
      have x1 := X8.out.at_ 1 (by simp)
      have x2 := X8.out.at_ 2 (by simp)
      simp only [List.getElem?_cons_succ, List.getElem?_cons_zero] at x0 x1 x2
      have g0 := X8.out.fz 0 (by simp)
      have g1 := X8.out.fz 1 (by simp)
      have g2 := X8.out.fz 2 (by simp)
      obtain ⟨C0, C1, C2⟩ := res_cells X8.out
      have C0 := Lib.hid C0
      have C1 := Lib.hid C1
      have C2 := Lib.hid C2
      go_wp2_with fail
      refine bodyPost_ret (v := .tuple #[.agg #[.slice none 0 0, .int .i64 0, .slice none 0 0], .int .i64 5]) (by simp [results, Tryd.results20, go_sem, C0.out, C1.out, C2.out]) rfl (FilPost.zero R.out (res_below bw8 (by omega)))
    · have R : Hid (DelO f.f key f8.f 0) := Lib.hid (by rw [hf8]; exact .ok fr HFR.out d GO.out hfull)
      clear hfull hf8
      obtain ⟨PA8, pc8, ps8, r8, FA8, fc8, free8⟩ := f8
      obtain ⟨pn8, hpn8⟩ : ∃ pn8, ps8.length = pn8 := ⟨_, rfl⟩
      obtain ⟨fn8, hfn8⟩ : ∃ fn8, free8.length = fn8 := ⟨_, rfl⟩
      have HV8 : Hid (FV.val ⟨PA8, pc8, ps8, r8, FA8, fc8, free8⟩ = .agg #[.slice PA8 pn8 pc8, .int .i64 r8, .slice FA8 fn8 fc8]) := by unfold FV.val; rw [hpn8, hfn8]; exact Lib.hid rfl
      rw [HV8.out]
      clear hpn8 hfn8
      have x0 := X8.out.at_ 0 (by simp)
      have x1 := X8.out.at_ 1 (by simp)
      have x2 := X8.out.at_ 2 (by simp)
      simp only [List.getElem?_cons_succ, List.getElem?_cons_zero] at x0 x1 x2
      have g0 := X8.out.fz 0 (by simp)
      have g1 := X8.out.fz 1 (by simp)
      have g2 := X8.out.fz 2 (by simp)
      obtain ⟨C0, C1, C2⟩ := res_cells X8.out
      have C0 := Lib.hid C0
      have C1 := Lib.hid C1
      have C2 := Lib.hid C2
      go_wp2_with fail
      refine bodyPost_ret (v := .tuple #[.agg #[.slice PA8 pn8 pc8, .int .i64 r8, .slice FA8 fn8 fc8], .int .i64 0]) (by simp [results, Tryd.results20, go_sem, C0.out, C1.out, C2.out]) rfl (⟨_, 0, R.out, by rw [HV8.out], Lib.hid (fl_res F8.out T8.out), res_below bw8 (by omega)⟩)
  · have R : Hid (DelO f.f key zeroF er) := Lib.hid (.err d er hget her)
    have her1 : (er == 0) = false := by simpa using her
    clear hget
    have x0 := X2.out.at_ 0 (by simp)
    have x1 := X2.out.at_ 1 (by simp)
    have x2 := X2.out.at_ 2 (by simp)
    simp only [List.getElem?_cons_succ, List.getElem?_cons_zero] at x0 x1 x2
    have g0 := X2.out.fz 0 (by simp)
    have g1 := X2.out.fz 1 (by simp)
    have g2 := X2.out.fz 2 (by simp)
    obtain ⟨C0, C1, C2⟩ := res_cells X2.out
    have C0 := Lib.hid C0
    have C1 := Lib.hid C1
    have C2 := Lib.hid C2
    go_wp2_with fail
    refine bodyPost_ret (v := .tuple #[.agg #[.slice none 0 0, .int .i64 0, .slice none 0 0], .int .i64 er]) (by simp [results, Tryd.results20, go_sem, C0.out, C1.out, C2.out]) rfl (FilPost.zero R.out (res_below bw2 (by omega)))
end
end Go.Proofs.YtphiblmkgbkdmaaDoor.Pg
