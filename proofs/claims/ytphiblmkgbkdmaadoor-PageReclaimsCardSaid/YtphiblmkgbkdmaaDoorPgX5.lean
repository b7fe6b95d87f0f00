/- Walks: copied, begin. -/
import Derived.Test.YtphiblmkgbkdmaaDoorPgX4
namespace Go.Proofs.YtphiblmkgbkdmaaDoor.Pg
set_option linter.unusedVariables false
set_option linter.unusedSimpArgs false
open Go.RowKit Wl

/-- Pages of the call's own. -/
structure Cp (w : World) (b0 : Nat) (A : Option Addr) (n c : Nat) (l : List PV) : Prop where
  own : w.ownsRow b0 22 1 (.slice A n c) n (pv l)
  dat : ∀ x ∈ l, w.ownsRow b0 5 1 (.slice x.A x.d.length x.c) x.d.length (bv x.d)
set_option maxRecDepth 20000 in
set_option maxHeartbeats 1600000 in
theorem copied_any {A : Option Addr} {n c : Nat} {l : List PV} (w : World) (h : Hid (Pr w A n c l)) (hn : n ≤ 100000) (h256 : Hid (∀ x ∈ l, x.d.length ≤ 256)) :
    Calls Tryd.prog 61 #[.slice A n c] w fun e w' => ∃ A' c' l', e = .returned (.slice A' n c') ∧ l'.map PV.d = l.map PV.d ∧ Hid (Cp w' w.heap.size A' n c' l') ∧ Below w.heap.size w w' := by
  obtain ⟨i0, hi, hz0, hz1, hz2⟩ := info_parts info_page
  have hnc := h.out.row.nc
  have hc63 := h.out.row.c63
  have HL := Lib.hid h.out.len
  go_enter Tryd.func61, Tryd.ntmps61
  go_wp2_with fail
  go_loopw [3, 8] (fun ov iv wr => ∃ (j : Nat) (A' : Option Addr) (c' : Nat) (l' : List PV), j ≤ n ∧ iv = .int .i64 j ∧ ov = .slice A' j c' ∧ Hid (l'.map PV.d = (l.take j).map PV.d) ∧ Hid (Cp wr w.heap.size A' j c' l') ∧ Below w.heap.size w wr) (fun _ iv _ => (n - intOf iv).toNat)
  case atStart => exact ⟨0, none, 0, [], by omega, rfl, rfl, Lib.hid rfl, Lib.hid ⟨World.ownsRow_nil _ _ _ _, by simp⟩, Below.refl _ _⟩
  case round =>
    obtain ⟨j, A', c', l', hj, rfl, rfl, hl', hcp, bw⟩ := hrel
    by_cases hlt : j < n
    · obtain ⟨g, o, x, rfl, hg, hx, hcell⟩ := Rd.at1 (val := PV.v) (Rd.below h.out.row bw) hlt
      unfold PV.v at hcell
      have hxd := Lib.hid (Rd.below (h.out.dat x (List.mem_of_getElem? hx)) bw)
      have hx256 := h256.out x (List.mem_of_getElem? hx)
      have HX := Lib.hid hx
      clear hx
      go_wp2_with fail
      go_at_call 50
      refine (bclone_any _ hxd (bv_one _) (by omega)).mono ?_
      rintro e w1 ⟨A1, c1, rfl, own1, b1⟩
      have bw1 := bw.trans (b1.mono bw.size)
      have OW := Lib.hid (own_below hcp.out.own b1)
      obtain ⟨W2, hW2⟩ : ∃ W2, w1.alloc (.cells #[.slice A1 x.d.length c1] 22) = W2 := ⟨_, rfl⟩
      have b2 : Below w1.heap.size w1 W2 := hW2 ▸ bal _ _
      have RL : Hid (Rd W2 1 (some ⟨w1.heap.size, 0, none⟩) 1 1 [.slice A1 x.d.length c1]) := hW2 ▸ Lib.hid (Rd.lit w1 22 1 #[.slice A1 x.d.length c1] 1 (by omega) rfl)
      have OW2 := Lib.hid (own_below OW.out b2)
      have hb2 : w.heap.size ≤ W2.heap.size := Nat.le_trans bw1.size b2.size
      have HW2 := Lib.hid hW2
      clear hW2
      go_wp2_with (at_builtin; apply hold)
      unfold Hold
      rw [HW2.out]
      refine wpList_app _ rfl (.tmp 12) (.tmp 15) 27 rfl w.heap.size 22 i0 (.slice none 0 0) 1 24 Tryd.underlying27 hi hz0 hz1 hz2 rfl (by omega) (by rfl) OW2.out (by rfl) RL.out (one1 _ rfl) (by omega) (by omega) hb2 ?_
      intro A5 c5 W5 own5 g5
      have epv : pv (l' ++ [⟨A1, c1, x.d⟩]) = pv l' ++ [.slice A1 x.d.length c1] := by simp [pv, PV.v]
      rw [← epv] at own5
      have frz : ∀ (z : PV), W2.ownsRow w.heap.size 5 1 (.slice z.A z.d.length z.c) z.d.length (bv z.d) → W5.ownsRow w.heap.size 5 1 (.slice z.A z.d.length z.c) z.d.length (bv z.d) := fun z hz => own_grew hz g5 (by
        rcases hz' : blk z.A with _ | q
        · exact .inl rfl
        · right; intro e
          obtain ⟨a, h1⟩ := own_type hz hz'
          obtain ⟨b, h2⟩ := own_type OW2.out e.symm
          rw [h1] at h2; injection h2 with h2; injection h2 with _ h2; cases h2)
      have CP5 : Hid (Cp W5 w.heap.size A5 (j + 1) c5 (l' ++ [⟨A1, c1, x.d⟩])) := Lib.hid ⟨own5, fun y hy => by
        rcases List.mem_append.1 hy with hy | hy
        · exact frz y (own_below (own_below (hcp.out.dat y hy) b1) b2)
        · obtain rfl : y = _ := by simpa using hy
          exact frz _ (own_base (own_below own1.out b2) bw.size)⟩
      have bw5 : Below w.heap.size w W5 := g5.low (bw1.trans (b2.mono bw1.size)) hb2 fun q e => (own_blk_le OW2.out e).1
      have HL5 : Hid ((l' ++ [(⟨A1, c1, x.d⟩ : PV)]).map PV.d = (l.take (j + 1)).map PV.d) := Lib.hid (by rw [List.map_append, hl'.out, List.take_add_one, HX.out, List.map_append]; rfl)
      clear own5 g5 frz epv
      go_wp2_with fail
      go_roundw
      case rel => exact ⟨j + 1, A5, c5, l' ++ [⟨A1, c1, x.d⟩], by omega, by go_num, rfl, HL5, CP5, bw5⟩
      case measure => simp [intOf]; omega
    · obtain rfl : n = j := by omega
      have HL5 : Hid (l'.map PV.d = l.map PV.d) := Lib.hid (by rw [hl'.out, List.take_of_length_le (by have := HL.out; omega)])
      go_wp2_with fail
      go_ret
      exact ⟨A', c', l', rfl, HL5.out, hcp, bw⟩
/-- A writer's start. -/
theorem Wm.start {W : World} {base q n pc fc : Nat} {root : Int} {PA FA : Option Addr} {l : List PV} {fr : List Nat} (G : Gl W) (hb : 3 ≤ base) (hq : base ≤ q) (bx : Bx W q [.slice PA n pc, .int .i64 root, .slice FA fr.length fc, .bool false]) (qt : Ty W q 104)
    (cp : Cp W base PA n pc l) (hn : n = l.length) (p256 : ∀ x ∈ l, x.d.length = 256) (ofr : W.ownsRow base 3 1 (.slice FA fr.length fc) fr.length (nv fr)) (frl : ∀ x ∈ fr, x < l.length) (n4 : l.length ≤ 4096) :
    Wm W base q root ⟨PA, pc, l, FA, fc⟩ ⟨l.map PV.d, fr, false⟩ := by
  subst hn
  have ne : ∀ {A B : Option Addr} {T S n1 n2 c1 c2 s1 s2 b1 b2 g : Nat} {xs ys : List Value}, W.ownsRow b1 T s1 (.slice A n1 c1) n1 xs → W.ownsRow b2 S s2 (.slice B n2 c2) n2 ys → T ≠ S → blk A = some g → blk B ≠ some g := by
    intro A B T S n1 n2 c1 c2 s1 s2 b1 b2 g xs ys h1 h2 hne e1 e2
    obtain ⟨a, h3⟩ := own_type h1 e1
    obtain ⟨b, h4⟩ := own_type h2 e2
    rw [h3] at h4; injection h4 with h4; injection h4 with _ h4; exact hne h4
  have nq : ∀ {A : Option Addr} {T n1 c1 s1 b1 : Nat} {xs : List Value}, W.ownsRow b1 T s1 (.slice A n1 c1) n1 xs → T ≠ 104 → blk A ≠ some q := by
    intro A T n1 c1 s1 b1 xs h1 hne e1
    obtain ⟨a, h3⟩ := own_type h1 e1
    obtain ⟨b, h4⟩ := qt
    rw [h3] at h4; injection h4 with h4; injection h4 with _ h4; exact hne h4
  refine ⟨G, hb, hq, bx, qt, cp.own, rfl, fun x hx => ⟨Rd.of_own (cp.dat x hx), fun g _ e => .inr (own_type (cp.dat x hx) e)⟩, p256, fun x hx g e => own_type (cp.dat x hx) e, Rd.of_own ofr, fun g _ e => ⟨fun e' => nq ofr (by decide) (e' ▸ e), ne ofr cp.own (by decide) e⟩, fun g _ e => own_type ofr e, frl, nq cp.own (by decide), by simpa using n4⟩
theorem frok_nat {n : Nat} {root : Int} {l : List Int} (h : FrOk n root l) : ∃ fr : List Nat, l = fr.map (fun (x : Nat) => (x : Int)) ∧ ∀ x ∈ fr, x < n := by
  refine ⟨l.map Int.toNat, ?_, ?_⟩
  · rw [List.map_map]
    conv => lhs; rw [← List.map_id l]
    refine List.map_congr_left fun x hx => ?_
    obtain ⟨i, hi⟩ := List.mem_iff_getElem?.1 hx
    have := (h i x hi).1
    simp only [id, Function.comp]; omega
  · intro x hx
    obtain ⟨y, hy, rfl⟩ := List.mem_map.1 hx
    obtain ⟨i, hi⟩ := List.mem_iff_getElem?.1 hy
    have := (h i y hi).2.1
    have := (h i y hi).1
    omega
theorem iv_nat (fr : List Nat) : iv (fr.map (fun (x : Nat) => (x : Int))) = nv fr := by simp [iv, nv]
set_option maxRecDepth 20000 in
set_option maxHeartbeats 1600000 in
theorem begin_cs {f : FV} {PA FA : Option Addr} {n pc m fc : Nat} {r0 : Int} {fr : List Nat} (hcs : CsOf f PA n pc r0 FA m fc) (w : World) (G : Hid (Gl w)) (HF : Hid (Fl w f)) (SH : Hid (Shp f.f)) (hfr : Hid (f.free = fr.map (fun (x : Nat) => (x : Int)))) (hfl : Hid (∀ x ∈ fr, x < f.ps.length)) :
    Calls Tryd.prog 49 #[.agg #[.slice PA n pc, .int .i64 r0, .slice FA m fc]] w fun e w' => ∃ q v, e = .returned (.pointer (some ⟨q, 0, none⟩)) ∧ Hid (Wm w' w.heap.size q r0 v ⟨f.ps.map PV.d, fr, false⟩) ∧ Below w.heap.size w w' := by
  obtain ⟨hx0, hn, hm, hPA, hpc, hFA, hfc⟩ := cs_root hcs
  have n4 : n ≤ 4096 := by have := SH.out.n4; simp only [FV.f, List.length_map] at this; omega
  have hm4 : m ≤ 4096 := by have := (shp_rdy SH.out).fl; omega
  have hb0 : Below w.heap.size w (w.alloc (.cells #[.slice PA n pc, .int .i64 r0, .slice FA m fc] 30)) := bal _ _
  obtain ⟨W0, hW0⟩ : ∃ W0, w.alloc (.cells #[.slice PA n pc, .int .i64 r0, .slice FA m fc] 30) = W0 := ⟨_, rfl⟩
  rw [hW0] at hb0
  have B0 : Hid (Bx W0 w.heap.size [.slice PA n pc, .int .i64 r0, .slice FA m fc]) := Lib.hid (hW0 ▸ Bx.new w #[.slice PA n pc, .int .i64 r0, .slice FA m fc] _)
  have HF0 := HF.out.below hb0
  have PR : Hid (Pr W0 PA n pc f.ps) := by have := HF0.pg; rw [← hn, ← hPA, ← hpc] at this; exact Lib.hid this
  have FRR : Hid (Rd W0 1 FA m fc (nv fr)) := by have := HF0.fr; rw [← hm, ← hFA, ← hfc, hfr.out, iv_nat] at this; exact Lib.hid this
  have HM : Hid (fr.length = m) := Lib.hid (by rw [hm, hfr.out, List.length_map])
  have HN : Hid (n = f.ps.length) := Lib.hid hn
  have P256 : Hid (∀ x ∈ f.ps, x.d.length = 256) := Lib.hid (shp_rdy SH.out).p256
  have hz0 : w.heap.size < W0.heap.size := by rw [← hW0]; simp
  have HW0 := Lib.hid hW0
  clear hx0 hn hm hPA hpc hFA hfc hW0 HF0
  have KK : Hid (∀ U, Below W0.heap.size W0 U → U.cell? ⟨w.heap.size, 0, none⟩ = some (.slice PA n pc) ∧ U.cell? ⟨w.heap.size, 1, none⟩ = some (.int .i64 r0) ∧ U.cell? ⟨w.heap.size, 2, none⟩ = some (.slice FA m fc)) := Lib.hid fun U hU =>
    ⟨(B0.out.step hU).at_ 0 (by simp), (B0.out.step hU).at_ 1 (by simp), (B0.out.step hU).at_ 2 (by simp)⟩
  have bd : Below W0.heap.size W0 W0.drew := (Below.refl _ _).drew
  have C1 : Hid (∀ U, Below W0.heap.size W0 U → Calls Tryd.prog 61 #[.slice PA n pc] U fun e w' => ∃ A' c' l', e = .returned (.slice A' n c') ∧ l'.map PV.d = f.ps.map PV.d ∧ Hid (Cp w' U.heap.size A' n c' l') ∧ Below U.heap.size U w') := Lib.hid fun U hU => copied_any U (Lib.hid (PR.out.below hU)) (by omega) (Lib.hid fun x hx => Nat.le_of_eq (P256.out x hx))
  have C2 : Hid (∀ U, Below W0.heap.size W0 U → Calls Tryd.prog 72 #[.slice FA m fc] U (Mv U 3 1 m (nv fr))) := Lib.hid fun U hU => iclone_any U (Lib.hid (Rd.below FRR.out hU)) (by intro u hu; simp only [nv, List.mem_map] at hu; obtain ⟨_, _, rfl⟩ := hu; rfl) (by omega)
  go_enter Tryd.func49, Tryd.ntmps49
  go_wp2_with fail
  rw [HW0.out]
  go_region_held3 (fun w' => w'.cell? ⟨w.heap.size, 0, none⟩ = some (.slice PA n pc) ∧ w'.cell? ⟨w.heap.size, 1, none⟩ = some (.int .i64 r0) ∧ w'.cell? ⟨w.heap.size, 2, none⟩ = some (.slice FA m fc))
    ((refine KK.out _ ?_; first | exact bd | exact bb1 | exact bb2 | exact bel_alloc bb2 (Nat.le_refl _) _))
    (first
      | (go_at_call 61; refine (C1.out _ bd).mono ?_; rintro e w1 ⟨A1, c1, l1, rfl, hl1, cp1, b1⟩; have bb1 := bd.trans (b1.mono bd.size))
      | (go_at_call 72; refine (C2.out _ bb1).mono ?_; rintro e w2 ⟨A2, c2, rfl, own2, b2⟩; have bb2 := bb1.trans (b2.mono bb1.size)))
  all_goals
    have b3 : Below w2.heap.size w2 (w2.alloc (.cells #[.slice A1 n c1, .int .i64 r0, .slice A2 m c2, .bool false] 104)) := bal _ _
    have bw3 : Below w.heap.size w (w2.alloc (.cells #[.slice A1 n c1, .int .i64 r0, .slice A2 m c2, .bool false] 104)) := hb0.trans ((bb2.mono hb0.size).trans (b3.mono (Nat.le_trans hb0.size bb2.size)))
    have hsz : W0.drew.heap.size = W0.heap.size := rfl
    have CP3 : Cp (w2.alloc (.cells #[.slice A1 n c1, .int .i64 r0, .slice A2 m c2, .bool false] 104)) w.heap.size A1 n c1 l1 :=
      ⟨own_base (own_below (own_below cp1.out.own b2) b3) (by omega), fun x hx => own_base (own_below (own_below (cp1.out.dat x hx) b2) b3) (by omega)⟩
    have LN : l1.length = f.ps.length := by have := congrArg List.length hl1; simpa using this
    have OF3 := own_base (base' := w.heap.size) (own_below own2.out b3) (Nat.le_trans hb0.size bb1.size)
    have ST := Wm.start (base := w.heap.size) (q := w2.heap.size) (root := r0) (fr := fr) (G.out.low bw3 G.out.sz) G.out.sz (Nat.le_trans hb0.size bb2.size) (by rw [HM.out]; exact Bx.new w2 #[.slice A1 n c1, .int .i64 r0, .slice A2 m c2, .bool false] _) (Ty.new _ _ _) CP3 (by rw [HN.out, LN])
      (fun x hx => by
        have : x.d ∈ f.ps.map PV.d := hl1 ▸ List.mem_map.2 ⟨x, hx, rfl⟩
        obtain ⟨y, hy, e⟩ := List.mem_map.1 this
        rw [← e]; exact P256.out y hy) (by rw [HM.out]; exact OF3) (fun x hx => by rw [LN]; exact hfl.out x hx) (by rw [LN, ← HN.out]; exact n4)
    rw [hl1] at ST
    have ST := Lib.hid ST
    clear OF3 CP3 hl1
    go_wp2_with fail
    go_ret
    exact ⟨_, _, rfl, ST, bw3⟩
end Go.Proofs.YtphiblmkgbkdmaaDoor.Pg
