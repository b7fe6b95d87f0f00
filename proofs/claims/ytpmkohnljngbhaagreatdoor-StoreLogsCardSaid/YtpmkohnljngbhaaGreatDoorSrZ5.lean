/- Walk: the law's effective. -/
import Derived.Test.YtpmkohnljngbhaaGreatDoorSrZ0
import Derived.Deep.RegionLaw
namespace Go.Proofs.YtpmkohnljngbhaaGreatDoor.Sr
set_option linter.unusedVariables false
set_option linter.unusedSimpArgs false
set_option maxRecDepth 1000000
open Go.RowKit Wl Pg

theorem grown_below2 {w w' : World} (h : w.grownBy w' none) : Below w.heap.size w w' := ⟨h.os, h.tape, h.output, h.size, fun i hi => h.block i hi (by simp)⟩
/-- The transactions that are laid, between two changes. -/
structure Ef (w wr : World) (qe n : Nat) (L : List XV) : Prop where
  ln : L.length = n
  row : wr.ownsRow w.heap.size 42 1 (.slice (some ⟨qe, 0, none⟩) n n) n (xvs L)
  dat : ∀ x ∈ L, wr.ownsRow w.heap.size 52 3 (.slice x.A x.l.length x.c) x.l.length (cvs x.l)
  dt : ∀ x ∈ L, ∀ y ∈ x.l, Dt w y ∧ y.ch.ok = true
  ne : ∀ (i k : Nat) (x y : XV), L[i]? = some x → L[k]? = some y → i ≠ k → ∀ g, blk x.A = some g → blk y.A ≠ some g
/-- The entries beside them. -/
structure Em (w wr : World) (L : List XV) (MA : Option Addr) (mn mc : Nat) (M : List CV) : Prop where
  own : wr.ownsRow w.heap.size 52 3 (.slice MA mn mc) mn (cvs M)
  dat : ∀ y ∈ M, Dt w y
  ne : ∀ x ∈ L, ∀ g, blk x.A = some g → blk MA ≠ some g
theorem Ef.nx {w wr W : World} {qe n : Nat} {L : List XV} (h : Ef w wr qe n L) (b : Below wr.heap.size wr W) : Ef w W qe n L :=
  ⟨h.ln, own_below h.row b, fun x hx => own_below (h.dat x hx) b, h.dt, h.ne⟩
theorem Em.nx {w wr W : World} {L : List XV} {MA : Option Addr} {mn mc : Nat} {M : List CV} (h : Em w wr L MA mn mc M) (b : Below wr.heap.size wr W) : Em w W L MA mn mc M :=
  ⟨own_below h.own b, h.dat, h.ne⟩
theorem Em.cr {w wr : World} {L : List XV} {MA : Option Addr} {mn mc : Nat} {M : List CV} (h : Em w wr L MA mn mc M) (b : Below w.heap.size w wr) : Cr wr MA mn mc M := ⟨Rd.of_own h.own, fun y hy => (h.dat y hy).nx b⟩
theorem Ef.xr {w wr : World} {qe n : Nat} {L : List XV} (h : Ef w wr qe n L) (b : Below w.heap.size w wr) : Xr wr (some ⟨qe, 0, none⟩) n n L :=
  ⟨Rd.of_own h.row, fun x hx => ⟨Rd.of_own (h.dat x hx), fun y hy => (h.dt x hx y hy).1.nx b⟩⟩
theorem Ef.push {w wr W1 W8 : World} {qe n j c8 : Nat} {L : List XV} {x : XV} {y : CV} {A8 : Option Addr} (h : Ef w wr qe n L) (hx : L[j]? = some x) (b0 : Below w.heap.size w wr) (b : Below wr.heap.size wr W1)
    (own8 : W8.ownsRow w.heap.size 52 3 (.slice A8 (x.l.length + 1) c8) (x.l.length + 1) (cvs (x.l ++ [y]))) (g8 : Grew W1 x.A W8 A8) (dy : Dt w y) (oky : y.ch.ok = true) :
    (W8.cell? ⟨qe, j, none⟩ = some (.slice x.A x.l.length x.c) ∧ W8.frozen? ⟨qe, j, none⟩ = false) ∧ Ef w (W8.setCell ⟨qe, j, none⟩ (.slice A8 (x.l.length + 1) c8)) qe n (L.set j ⟨A8, c8, x.l ++ [y]⟩) ∧
    (∀ MA mn mc M, Em w wr L MA mn mc M → Em w (W8.setCell ⟨qe, j, none⟩ (.slice A8 (x.l.length + 1) c8)) (L.set j ⟨A8, c8, x.l ++ [y]⟩) MA mn mc M) ∧ Below w.heap.size w (W8.setCell ⟨qe, j, none⟩ (.slice A8 (x.l.length + 1) c8)) := by
  have hxm := List.mem_of_getElem? hx
  have hjl := (List.getElem?_eq_some_iff.1 hx).1
  have hln := h.ln
  have K : Kp W1 W8 (fun g => blk x.A = some g) := Kp.of_grew g8 fun g e => e
  have R1 := own_below h.row b
  have X1 := own_below (h.dat x hxm) b
  have R8 := own_kp R1 K fun g e hX => ty_ne (own_type R1 e) (own_type X1 hX) (by decide) rfl
  have T8 : Ty W8 qe 42 := own_type R8 rfl
  have hqe := own_blk_le (g := qe) h.row rfl
  have c1 : W8.cell? ⟨qe, j, none⟩ = some (.slice x.A x.l.length x.c) := by
    rw [R8.cellAt j (by omega)]; unfold xvs; rw [List.getElem?_map, hx]; rfl
  have S8 := (R8.stored j (.slice A8 (x.l.length + 1) c8)).1
  have ex : (xvs L).set j (.slice A8 (x.l.length + 1) c8) = xvs (L.set j ⟨A8, c8, x.l ++ [y]⟩) := by unfold xvs; rw [List.map_set]; simp [XV.v]
  have old : ∀ (k : Nat) (z : XV), L[k]? = some z → k ≠ j → (W8.setCell ⟨qe, j, none⟩ (.slice A8 (x.l.length + 1) c8)).ownsRow w.heap.size 52 3 (.slice z.A z.l.length z.c) z.l.length (cvs z.l) := by
    intro k z hk hkj
    have D8 := own_kp (own_below (h.dat z (List.mem_of_getElem? hk)) b) K fun g e hX => h.ne j k x z hx hk (fun e => hkj e.symm) g hX e
    exact own_set D8 ⟨qe, j, none⟩ _ fun e => ty_ne (own_type D8 e) T8 (by decide) rfl
  have new8 : (W8.setCell ⟨qe, j, none⟩ (.slice A8 (x.l.length + 1) c8)).ownsRow w.heap.size 52 3 (.slice A8 (x.l.length + 1) c8) (x.l.length + 1) (cvs (x.l ++ [y])) :=
    own_set own8 ⟨qe, j, none⟩ _ fun e => ty_ne (own_type own8 e) T8 (by decide) rfl
  have at8 : ∀ (k : Nat) (z : XV), (L.set j ⟨A8, c8, x.l ++ [y]⟩)[k]? = some z → (k = j ∧ z = ⟨A8, c8, x.l ++ [y]⟩) ∨ (k ≠ j ∧ L[k]? = some z) := by
    intro k z hk
    by_cases e : k = j
    · subst e
      rw [List.getElem?_set_self hjl] at hk
      injection hk with hk
      exact .inl ⟨rfl, hk.symm⟩
    · rw [List.getElem?_set_ne (fun h => e h.symm)] at hk
      exact .inr ⟨e, hk⟩
  -- the row's block, as it is or new, lies in no other row
  have nb : ∀ (B : Option Addr), (∀ g, blk x.A = some g → blk B ≠ some g) → (∀ g, blk B = some g → g < wr.heap.size) → ∀ g, blk A8 = some g → blk B ≠ some g := by
    intro B h1 h2 g e e2
    rcases g8.at_ with h3 | ⟨g', h3, h4⟩
    · rw [h3] at e; exact h1 g e e2
    · rw [h3] at e; injection e with e; subst e
      have := h2 _ e2
      have := b.size
      omega
  refine ⟨⟨c1, R8.frozenAt j⟩, ⟨by rw [List.length_set]; exact h.ln, by rw [← ex]; exact S8, fun z hz => ?_, fun z hz => ?_, fun i k x' y' hi hk hik g hg => ?_⟩, fun MA mn mc M hm => ?_, ?_⟩
  · obtain ⟨k, hk⟩ := List.mem_iff_getElem?.1 hz
    rcases at8 k z hk with ⟨_, rfl⟩ | ⟨h1, h2⟩
    · have e : (x.l ++ [y]).length = x.l.length + 1 := by simp
      show World.ownsRow _ _ _ _ (.slice A8 (x.l ++ [y]).length c8) (x.l ++ [y]).length (cvs (x.l ++ [y]))
      rw [e]; exact new8
    · exact old k z h2 h1
  · obtain ⟨k, hk⟩ := List.mem_iff_getElem?.1 hz
    rcases at8 k z hk with ⟨_, rfl⟩ | ⟨h1, h2⟩
    · intro u hu
      rcases List.mem_append.1 hu with hu | hu
      · exact h.dt x hxm u hu
      · obtain rfl := List.mem_singleton.1 hu
        exact ⟨dy, oky⟩
    · exact h.dt z (List.mem_of_getElem? h2)
  · rcases at8 i x' hi with ⟨rfl, rfl⟩ | ⟨i1, i2⟩
    · rcases at8 k y' hk with ⟨rfl, _⟩ | ⟨k1, k2⟩
      · exact absurd rfl hik
      · exact nb _ (fun g hg => h.ne _ _ _ _ hx k2 (fun e => k1 e.symm) g hg) (fun g e => (own_blk_le (h.dat _ (List.mem_of_getElem? k2)) e).2) g hg
    · rcases at8 k y' hk with ⟨rfl, rfl⟩ | ⟨k1, k2⟩
      · intro e
        exact nb _ (fun g hg => h.ne _ _ _ _ hx i2 (fun e => i1 e.symm) g hg) (fun g e => (own_blk_le (h.dat _ (List.mem_of_getElem? i2)) e).2) g e hg
      · exact h.ne _ _ _ _ i2 k2 hik g hg
  · have M8 := own_kp (own_below hm.own b) K fun g e hX => hm.ne x hxm g hX e
    refine ⟨own_set M8 ⟨qe, j, none⟩ _ fun e => ty_ne (own_type M8 e) T8 (by decide) rfl, hm.dat, fun z hz g hg => ?_⟩
    obtain ⟨k, hk⟩ := List.mem_iff_getElem?.1 hz
    rcases at8 k z hk with ⟨_, rfl⟩ | ⟨_, h2⟩
    · exact nb _ (fun g hg => hm.ne x hxm g hg) (fun g e => (own_blk_le hm.own e).2) g hg
    · exact hm.ne z (List.mem_of_getElem? h2) g hg
  · have b1 : Below w.heap.size w W1 := b0.trans (b.mono b0.size)
    have b8 : Below w.heap.size w W8 := g8.low b1 b1.size fun g e => (own_blk_le (h.dat x hxm) e).1
    exact b8.setCell (p := ⟨qe, j, none⟩) hqe.1 _
theorem made_rep (z : Value) (n : Nat) : (madeCells #[z] n).toList = List.replicate n z := by
  apply List.ext_getElem
  · simp [madeCells]
  · intro i h1 h2
    simp [madeCells, Nat.mod_one]
def nilX : XV := ⟨none, 0, []⟩
theorem ef_new {w w2 : World} {n : Nat} (h : w2.ownsRow w.heap.size 42 1 (.slice (some ⟨w.heap.size, 0, none⟩) n n) n (List.replicate n (.slice none 0 0))) : Ef w w2 w.heap.size n (List.replicate n nilX) := by
  refine ⟨by simp, ?_, fun x hx => ?_, fun x hx y hy => ?_, fun i k x y hi hk _ g hg => ?_⟩
  · have e : xvs (List.replicate n nilX) = List.replicate n (.slice none 0 0) := by simp [xvs, XV.v, nilX]
    rw [e]; exact h
  · obtain rfl := List.eq_of_mem_replicate hx
    exact World.ownsRow_nil _ _ _ _
  · obtain rfl := List.eq_of_mem_replicate hx
    cases hy
  · obtain rfl := List.eq_of_mem_replicate (List.mem_of_getElem? hi)
    simp [nilX, blk] at hg
theorem tx_flat {X : List XV} {j : Nat} {x : XV} (h : X[j]? = some x) : ((X.take (j + 1)).map XV.t).flatten = ((X.take j).map XV.t).flatten ++ x.t := by
  rw [List.take_add_one, h]; simp
theorem ch_take5 {l : List CV} {j : Nat} {x : CV} (h : l[j]? = some x) : (l.take (j + 1)).map CV.ch = (l.take j).map CV.ch ++ [x.ch] := by
  rw [List.take_add_one, h]; simp
theorem mfd_skip {M : List Ch} {B : Ent} {p : List Ch} {c : Ch} (h : ∀ key, mfd M key = app B p key) (hd : c.del = true) (hn : mfd M c.k = none) : ∀ key, mfd M key = app B (p ++ [c]) key := fun key => by
  rw [app_snoc]
  unfold step
  rw [hd]
  split
  · rename_i e; rw [← e, hn]; rfl
  · exact h key
set_option maxHeartbeats 12800000 in
theorem effective_any {A : Option Addr} {n c : Nat} {X : List XV} (w : World) (HX : Hid (Xr w A n c X)) (hn : n ≤ 20) (SM : Hid (∀ x ∈ X, x.l.length ≤ 12 ∧ ∀ y ∈ x.l, y.ch.ok = true)) :
    Calls Tryz.prog 20 #[.slice A n c] w fun e w' => ∃ (L : List XV), e = .returned (.slice (some ⟨w.heap.size, 0, none⟩) n n) ∧ Hid (L.map XV.t = effs (fun _ => none) (X.map XV.t)) ∧ Hid (Ef w w' w.heap.size n L) ∧ Below w.heap.size w w' := by
  have NX := Lib.hid HX.out.len
  have hnc := HX.out.row.nc
  have hc63 := HX.out.row.c63
  obtain ⟨i0, hi, hz0, hz1, hz2⟩ := info_parts info_change
  obtain ⟨i1, hi1, hc0, hc1, hc2⟩ := info_parts info_changes
  obtain ⟨w2, hmk, own2, g2⟩ := run_make_full (P := Tryz.prog) w w.heap.size 22 42 i1 (.slice none 0 0) 1 Tryz.underlying22 hi1 hc0 hc1 .i64 .i64 n (by rw [hc2]; omega) (by unfold maxLen; omega) (Nat.le_refl _)
  rw [Nat.mul_one, show (Value.slice none 0 0).cells = #[.slice none 0 0] from rfl, made_rep] at own2
  have EF2 := Lib.hid (ef_new own2)
  have b2 := grown_below2 g2
  clear own2 g2
  go_enter Tryz.func20, Tryz.ntmps20
  go_wp2_with fail
  go_loopw [3, 14] (fun mv iv' wr => ∃ (j : Nat) (L : List XV) (MA : Option Addr) (mn mc : Nat) (M : List CV), j ≤ n ∧ iv' = .int .i64 (j : Int) ∧ mv = .slice MA mn mc ∧ mn ≤ 12 * j ∧ Hid (Ef w wr w.heap.size n L) ∧ Hid (Em w wr L MA mn mc M) ∧ Hid ((L.take j).map XV.t = effs (fun _ => none) ((X.take j).map XV.t)) ∧
    Hid (∀ k, j ≤ k → k < n → L[k]? = some nilX) ∧ Hid (∀ key, mfd (M.map CV.ch) key = app (fun _ => none) ((X.take j).map XV.t).flatten key) ∧ Below w.heap.size w wr) (fun _ iv' _ => (n - intOf iv').toNat)
  case atStart =>
    exact ⟨0, _, none, 0, 0, [], by omega, rfl, rfl, by omega, EF2, Lib.hid ⟨World.ownsRow_nil _ _ _ _, by simp, fun x hx g hg e => by simp [blk] at e⟩, Lib.hid rfl, Lib.hid fun k _ hk => by rw [List.getElem?_replicate, if_pos hk], Lib.hid fun key => rfl, b2⟩
  case round =>
    obtain ⟨j, L0, MA0, mn0, mc0, M0, hj, rfl, rfl, hmn0, EF0, EM0, LT0, LN0, MF0, bw⟩ := hrel
    clear EF2
    obtain ⟨wo, rfl⟩ : ∃ u, u = wr := ⟨_, rfl⟩
    by_cases hlt : j < n
    · have d1 : decide ((j : Int) < (n : Int)) = true := decide_eq_true (by omega)
      obtain ⟨g, o, x, rfl, hg, hx, cw⟩ := HX.out.item hlt
      have c0 : wo.cell? ⟨g, o + j, none⟩ = _ := ((bcell bw).1 _ _ hg).trans cw
      have ET := Lib.hid (effs_take (b := fun _ => none) hx)
      have FT := Lib.hid (tx_flat hx)
      have SMX := Lib.hid (SM.out x (List.mem_of_getElem? hx))
      have CX := Lib.hid ((HX.out.dat x (List.mem_of_getElem? hx)))
      obtain ⟨xn, hxn⟩ : ∃ xn, x.l.length = xn := ⟨_, rfl⟩
      obtain ⟨XA, hXA⟩ : ∃ XA, x.A = XA := ⟨_, rfl⟩
      obtain ⟨xc, hxc⟩ : ∃ xc, x.c = xc := ⟨_, rfl⟩
      rw [hxn, hXA, hxc] at c0 CX
      have xn12 : xn ≤ 12 := by rw [← hxn]; exact SMX.out.1
      have HXN := Lib.hid hxn
      have cnc := CX.out.row.nc
      have c63 := CX.out.row.c63
      obtain ⟨B, hB⟩ : ∃ B, app (fun _ => none) ((X.take j).map XV.t).flatten = B := ⟨_, rfl⟩
      rw [hB] at ET MF0
      have HB := Lib.hid hB
      clear hx hxn hXA hxc cw hB
      go_wp2_with fail
      go_loopw [3, 21] (fun mv iv' wr => ∃ (i : Nat) (L : List XV) (xj : XV) (MA : Option Addr) (mn mc : Nat) (M : List CV), i ≤ xn ∧ iv' = .int .i64 (i : Int) ∧ mv = .slice MA mn mc ∧ mn ≤ 12 * j + i ∧ Hid (Ef w wr w.heap.size n L) ∧ Hid (Em w wr L MA mn mc M) ∧ Hid (L[j]? = some xj) ∧ xj.l.length ≤ i ∧
        Hid (xj.t = eff B ((x.l.take i).map CV.ch)) ∧ Hid ((L.take j).map XV.t = effs (fun _ => none) ((X.take j).map XV.t)) ∧ Hid (∀ k, j + 1 ≤ k → k < n → L[k]? = some nilX) ∧ Hid (∀ key, mfd (M.map CV.ch) key = app B ((x.l.take i).map CV.ch) key) ∧ Below w.heap.size w wr) (fun _ iv' _ => (xn - intOf iv').toNat)
      case atStart => exact ⟨0, L0, nilX, MA0, mn0, mc0, M0, by omega, rfl, rfl, by omega, EF0, EM0, Lib.hid (LN0.out j (Nat.le_refl _) hlt), by simp [nilX], Lib.hid rfl, LT0, Lib.hid fun k h1 h2 => LN0.out k (by omega) h2, Lib.hid fun key => MF0.out key, bw⟩
      case round =>
        obtain ⟨i, L, xj, MA, mn, mc, M, hi', rfl, rfl, hmn, EF, EM, HXJ, hxj, XT, LT, LN, MF, bw2⟩ := hrel
        clear EF0 EM0 LT0 LN0 MF0
        by_cases hlt2 : i < xn
        · have d2 : decide ((i : Int) < (xn : Int)) = true := decide_eq_true (by omega)
          obtain ⟨g', o', y, rfl, hg', hy, a0, a1, a2⟩ := (CX.out.nx bw2).item hlt2
          have TK := Lib.hid (ch_take5 hy)
          have OKY := Lib.hid (SMX.out.2 y (List.mem_of_getElem? hy))
          have DYW := Lib.hid (CX.out.dat y (List.mem_of_getElem? hy))
          obtain ⟨kn, hkn⟩ : ∃ kn, y.k.length = kn := ⟨_, rfl⟩
          obtain ⟨vn, hvn⟩ : ∃ vn, y.v.length = vn := ⟨_, rfl⟩
          obtain ⟨xm, hxm⟩ : ∃ xm, xj.l.length = xm := ⟨_, rfl⟩
          obtain ⟨xA, hxA⟩ : ∃ xA, xj.A = xA := ⟨_, rfl⟩
          obtain ⟨xcp, hxcp⟩ : ∃ xcp, xj.c = xcp := ⟨_, rfl⟩
          rw [hkn] at a0
          rw [hvn] at a1
          rw [hxm] at hxj
          have HKN := Lib.hid hkn
          have HVN := Lib.hid hvn
          have HXM := Lib.hid hxm
          have HXA := Lib.hid hxA
          have HXC := Lib.hid hxcp
          clear hy hkn hvn hxm hxA hxcp
          obtain ⟨q8, hq8⟩ : ∃ q8, wr.heap.size = q8 := ⟨_, rfl⟩
          obtain ⟨W8, hW8⟩ : ∃ W8, wr.alloc (.cells #[.slice y.A kn y.c, .slice y.B vn y.d, .bool y.del] 52) = W8 := ⟨_, rfl⟩
          have v8 : Below wr.heap.size wr W8 := hW8 ▸ bal _ _
          have V : Hid (Bx W8 q8 [.slice y.A kn y.c, .slice y.B vn y.d, .bool y.del]) := hW8 ▸ Lib.hid (Bx.put _ hq8 #[.slice y.A kn y.c, .slice y.B vn y.d, .bool y.del] 52)
          have TV : Hid (Ty W8 q8 52) := hW8 ▸ hq8 ▸ Lib.hid (Ty.new _ _ _)
          have HW8 := Lib.hid hW8
          clear hW8
          have bw8 := bw2.trans (v8.mono bw2.size)
          have K8 : Hid (Rd W8 1 y.A kn y.c (bv y.k)) := Lib.hid (by rw [← HKN.out]; exact (DYW.out.nx bw8).k)
          have AE : Hid (app B (eff B ((x.l.take i).map CV.ch)) y.k = mfd (M.map CV.ch) y.k) := Lib.hid (by rw [app_eff, MF.out])
          go_upto_region 9 with fail
          rw [HW8.out]
          clear a0 a1 a2
          cases hdel : y.del with
          | true =>
            have HDEL : Hid (y.ch.del = true) := Lib.hid hdel
            have FD := rFind_any W8 (Lib.hid ((EM.out.nx v8).cr bw8)) K8
            rw [hdel] at V
            rcases fnd_cases (M.map CV.ch) y.k with ⟨hf, hm⟩ | ⟨q, z, hf, hz, hm⟩
            · rw [hf] at FD
              have FD := Lib.hid FD
              have EJ : Hid (eff B ((x.l.take (i + 1)).map CV.ch) = eff B ((x.l.take i).map CV.ch)) := Lib.hid (by
                rw [TK.out, eff_snoc]; unfold estp; rw [if_pos ⟨HDEL.out, by rw [show y.ch.k = y.k from rfl, AE.out]; exact hm⟩])
              have MF2 : Hid (∀ key, mfd (M.map CV.ch) key = app B ((x.l.take (i + 1)).map CV.ch) key) := Lib.hid (by rw [TK.out]; exact mfd_skip MF.out HDEL.out hm)
              clear hf hm hdel
              have v0 := V.out.at_ 0 (by simp)
              have v1 := V.out.at_ 1 (by simp)
              have v2 := V.out.at_ 2 (by simp)
              simp only [List.getElem?_cons_succ, List.getElem?_cons_zero] at v0 v1 v2
              go_wp2_with fail
              go_at_call 17
              refine FD.out.mono ?_
              rintro e W9 ⟨rfl, nq, hW9⟩
              have b9 : Below W8.heap.size W8 W9 := hW9 ▸ bdrewN (Below.refl _ _)
              clear hW9
              have v9 := v8.trans (b9.mono v8.size)
              have bw9 := bw2.trans (v9.mono bw2.size)
              go_wp2_with fail
              go_roundw
              case rel => exact ⟨i + 1, L, xj, MA, mn, mc, M, by omega, by first | rfl | go_num, rfl, by omega, Lib.hid (EF.out.nx v9), Lib.hid (EM.out.nx v9), HXJ, by rw [HXM.out]; omega, Lib.hid (by rw [EJ.out]; exact XT.out), LT, LN, MF2, bw9⟩
              case measure => simp [intOf]; omega
            · rw [hf] at FD
              have FD := Lib.hid FD
              have NSK : Hid (¬ (y.ch.del = true ∧ app B (eff B ((x.l.take i).map CV.ch)) y.ch.k = none)) := Lib.hid fun h => by
                have := h.2; rw [show y.ch.k = y.k from rfl, AE.out, hm] at this; cases this
              have q0 : decide ((q : Int) < 0) = false := decide_eq_false (by omega)
              clear hf hz hm
              have v0 := V.out.at_ 0 (by simp)
              have v1 := V.out.at_ 1 (by simp)
              have v2 := V.out.at_ 2 (by simp)
              simp only [List.getElem?_cons_succ, List.getElem?_cons_zero] at v0 v1 v2
              go_wp2_with fail
              go_at_call 17
              refine FD.out.mono ?_
              rintro e W9 ⟨rfl, nq, hW9⟩
              have b9 : Below W8.heap.size W8 W9 := hW9 ▸ bdrewN (Below.refl _ _)
              clear hW9 v0 v1 v2
              have HDL := Lib.hid hdel
              clear hdel
              have V9 := Lib.hid (V.out.nx b9)
              have EF9 := Lib.hid (EF.out.nx (v8.trans (b9.mono v8.size)))
              have EM9 := Lib.hid (EM.out.nx (v8.trans (b9.mono v8.size)))
              have v9 := v8.trans (b9.mono v8.size)
              have bw9 := bw2.trans (v9.mono bw2.size)
              have OJ : Hid (∀ U, Below W9.heap.size W9 U → U.ownsRow w.heap.size 52 3 (.slice xA xm xcp) xm (cvs xj.l)) := Lib.hid fun U hU => by
                have h := own_below (EF9.out.dat xj (List.mem_of_getElem? HXJ.out)) hU
                rw [← HXM.out, ← HXA.out, ← HXC.out]; exact h
              have CE : Hid (∀ U, Below W9.heap.size W9 U → U.cell? ⟨w.heap.size, j, none⟩ = some (.slice xA xm xcp) ∧ U.frozen? ⟨w.heap.size, j, none⟩ = false ∧ U.cell? ⟨q8, 0, none⟩ = some (.slice y.A kn y.c) ∧ U.cell? ⟨q8, 1, none⟩ = some (.slice y.B vn y.d) ∧ U.cell? ⟨q8, 2, none⟩ = some (.bool true)) := Lib.hid fun U hU => by
                have R := (EF9.out.nx hU).row
                have X := Lib.hid (V9.out.nx hU)
                have x0 := X.out.at_ 0 (by simp)
                have x1 := X.out.at_ 1 (by simp)
                have x2 := X.out.at_ 2 (by simp)
                simp only [List.getElem?_cons_succ, List.getElem?_cons_zero] at x0 x1 x2
                refine ⟨?_, R.frozenAt j, x0, x1, x2⟩
                rw [R.cellAt j (by omega)]; unfold xvs; rw [List.getElem?_map, HXJ.out, ← HXM.out, ← HXA.out, ← HXC.out]; rfl
              have PU : Hid (∀ (W1 W18 : World) (A8 : Option Addr) (c8 : Nat), Below W9.heap.size W9 W1 → W18.ownsRow w.heap.size 52 3 (.slice A8 (xm + 1) c8) (xm + 1) (cvs xj.l ++ [.slice y.A kn y.c, .slice y.B vn y.d, .bool true]) → Grew W1 xA W18 A8 →
                  (W18.cell? ⟨w.heap.size, j, none⟩ = some (.slice xA xm xcp) ∧ W18.frozen? ⟨w.heap.size, j, none⟩ = false) ∧ Ef w (W18.setCell ⟨w.heap.size, j, none⟩ (.slice A8 (xm + 1) c8)) w.heap.size n (L.set j ⟨A8, c8, xj.l ++ [y]⟩) ∧
                  Em w (W18.setCell ⟨w.heap.size, j, none⟩ (.slice A8 (xm + 1) c8)) (L.set j ⟨A8, c8, xj.l ++ [y]⟩) MA mn mc M ∧ Bx (W18.setCell ⟨w.heap.size, j, none⟩ (.slice A8 (xm + 1) c8)) q8 [.slice y.A kn y.c, .slice y.B vn y.d, .bool true] ∧ Below w.heap.size w (W18.setCell ⟨w.heap.size, j, none⟩ (.slice A8 (xm + 1) c8))) := Lib.hid fun W1 W18 A8 c8 hb ho hg => by
                have e : cvs xj.l ++ [.slice y.A kn y.c, .slice y.B vn y.d, .bool true] = cvs (xj.l ++ [y]) := by rw [cvs_app]; simp [cvs, CV.cs, HKN.out, HVN.out, HDL.out]
                rw [e, ← HXM.out] at ho
                rw [← HXA.out] at hg
                have h := EF9.out.push HXJ.out bw9 hb ho hg DYW.out OKY.out
                rw [HXM.out, HXA.out, HXC.out] at h
                obtain ⟨h1, h2, h3, h4⟩ := h
                refine ⟨h1, h2, h3 _ _ _ _ EM9.out, ?_, h4⟩
                have hx : ∀ g, blk xj.A = some g → g < wr.heap.size := fun g e => (own_blk_le (EF.out.dat xj (List.mem_of_getElem? HXJ.out)) e).2
                have hq := (own_blk_le (g := w.heap.size) EF.out.row rfl).2
                have VX := (V9.out.nx hb).kp (Kp.of_grew (X := fun g => blk xj.A = some g) hg fun g e => e) fun e => by have := hx _ e; omega
                exact VX.other (by omega) j _
              have EJ : Hid (eff B ((x.l.take (i + 1)).map CV.ch) = eff B ((x.l.take i).map CV.ch) ++ [y.ch]) := Lib.hid (by
                rw [TK.out, eff_snoc]; unfold estp; rw [if_neg NSK.out])
              obtain ⟨e0, f0, v0, v1, v2⟩ := CE.out _ (Below.refl _ _)
              have vd : Below W9.heap.size W9 W9.drew := (Below.refl _ _).drew
              obtain ⟨e0d, f0d, v0d, v1d, v2d⟩ := CE.out _ vd
              have one63 : 1 ≤ 9223372036854775807 := by omega
              have va : Below W9.heap.size W9 (W9.alloc (.cells #[.slice y.A kn y.c, .slice y.B vn y.d, .bool true] 52)) := bal _ _
              have vb : Below W9.heap.size W9 (W9.alloc (.cells #[.slice y.A kn y.c, .slice y.B vn y.d, .bool true] 52)).drew := (bal _ _).drew
              have vc : Below W9.heap.size W9 (W9.drew.alloc (.cells #[.slice y.A kn y.c, .slice y.B vn y.d, .bool true] 52)) := bel_alloc vd (Nat.le_refl _) _
              obtain ⟨e0b, _, _, _, _⟩ := CE.out _ vb
              obtain ⟨e0c, _, _, _, _⟩ := CE.out _ vc
              have L1 := Lib.hid (rd_lit W9 rfl 52 3 #[.slice y.A kn y.c, .slice y.B vn y.d, .bool true] 1 one63 rfl)
              have L2 := Lib.hid (rd_lit W9 rfl 52 3 #[.slice y.A kn y.c, .slice y.B vn y.d, .bool true] 1 one63 rfl).drew
              have L3 := Lib.hid (rd_lit W9.drew rfl 52 3 #[.slice y.A kn y.c, .slice y.B vn y.d, .bool true] 1 one63 rfl)
              have VD := Lib.hid vd
              have VA := Lib.hid va
              have VB := Lib.hid vb
              have VC := Lib.hid vc
              clear vd va vb vc
              have j0 : (0 : Int) ≤ (j : Int) := by omega
              have j1 : (j : Int) < (n : Int) := by omega
              go_upto_region 10 with fail
              go_region_law
                (first
                  | (refine step_app (news := (#[.slice y.A kn y.c, .slice y.B vn y.d, .bool true] : Array Value).toList) _ (by rfl) (.tmp 39) (.tmp 41) 42 (by rfl) w.heap.size 52 i0 (.agg #[.slice none 0 0, .slice none 0 0, .bool false]) 3 56 Tryz.underlying42 hi hz0 hz1 hz2 rfl (by omega) (by rfl) (xs := cvs xj.l) ?_ (by rfl) ?_ (Wl.one3 _ _ _ rfl rfl rfl) (by omega) (by omega) ?_ ?_
                     · first | exact OJ.out _ VC.out | exact OJ.out _ VB.out | exact OJ.out _ VA.out
                     · first | exact L3.out | exact L2.out | exact L1.out
                     · first | exact (bw9.trans (VC.out.mono bw9.size)).size | exact (bw9.trans (VB.out.mono bw9.size)).size | exact (bw9.trans (VA.out.mono bw9.size)).size
                     intro A8 c8 W18 own8 g8
                     have PS := by first | exact PU.out _ _ _ _ VC.out own8 g8 | exact PU.out _ _ _ _ VB.out own8 g8 | exact PU.out _ _ _ _ VA.out own8 g8
                     obtain ⟨⟨e8, f8⟩, PS⟩ := PS
                     have PS := Lib.hid PS
                     clear own8 g8))
              all_goals
                obtain ⟨W10, hW10⟩ : ∃ u, W18.setCell ⟨w.heap.size, j, none⟩ (.slice A8 (xm + 1) c8) = u := ⟨_, rfl⟩
                rw [hW10] at PS ⊢
                clear hW10 e0 f0 v0 v1 v2 e0d f0d v0d v1d v2d e0b e0c L1 L2 L3 VD VA VB VC e8 f8 PU OJ CE
                have EF10 := Lib.hid PS.out.1
                have EM10 := Lib.hid PS.out.2.1
                have V10 := Lib.hid PS.out.2.2.1
                have bw10 := PS.out.2.2.2
                have AP : Hid (Calls Tryz.prog 44 #[.slice MA mn mc, .agg #[.slice y.A kn y.c, .slice y.B vn y.d, .bool true]] W10 (ApPost W10 mn M y)) := Lib.hid (by
                  rw [← HDL.out]
                  exact rApply_any W10 (Lib.hid (EM10.out.cr bw10)) (Lib.hid (show Dt W10 ⟨y.A, y.c, y.k, y.B, y.d, y.v, y.del⟩ from DYW.out.nx bw10)) (Lib.hid HKN.out.symm) (Lib.hid HVN.out.symm) (by omega))
                have v0 := V10.out.at_ 0 (by simp)
                have v1 := V10.out.at_ 1 (by simp)
                have v2 := V10.out.at_ 2 (by simp)
                simp only [List.getElem?_cons_succ, List.getElem?_cons_zero] at v0 v1 v2
                go_wp2_with fail
                go_at_call 44
                refine AP.out.mono ?_
                rintro e W11 ⟨A11, n11, c11, M11, rfl, hn11, HM11, OM11, DM11, b11⟩
                have EF11 := Lib.hid (EF10.out.nx b11)
                have EM11 : Hid (Em w W11 (L.set j ⟨A8, c8, xj.l ++ [y]⟩) A11 n11 c11 M11) := Lib.hid ⟨own_base OM11.out bw10.size, fun z hz => (DM11.out z hz).elim (EM10.out.dat z) (fun e => e ▸ DYW.out), fun z hz g hg e => by
                  have := (own_blk_le (EF10.out.dat z hz) hg).2
                  have := (own_blk_le OM11.out e).1
                  omega⟩
                have MF11 : Hid (∀ key, mfd (M11.map CV.ch) key = app B ((x.l.take (i + 1)).map CV.ch) key) := Lib.hid fun key => by
                  have h : mfd (M.map CV.ch) = app B ((x.l.take i).map CV.ch) := funext MF.out
                  rw [HM11.out, mfd_apl, TK.out, app_snoc, h]
                have hjl : j < L.length := by rw [EF.out.ln]; exact hlt
                have XT11 : Hid ((⟨A8, c8, xj.l ++ [y]⟩ : XV).t = eff B ((x.l.take (i + 1)).map CV.ch)) := Lib.hid (by
                  rw [EJ.out, ← XT.out]; show (xj.l ++ [y]).map CV.ch = _; rw [List.map_append]; rfl)
                have LT11 : Hid (((L.set j ⟨A8, c8, xj.l ++ [y]⟩).take j).map XV.t = effs (fun _ => none) ((X.take j).map XV.t)) := Lib.hid (by
                  have e : (L.set j ⟨A8, c8, xj.l ++ [y]⟩).take j = L.take j := by
                    apply List.ext_getElem?
                    intro k
                    rw [List.getElem?_take, List.getElem?_take]
                    split
                    · rw [List.getElem?_set_ne (by omega)]
                    · rfl
                  rw [e]; exact LT.out)
                have LN11 : Hid (∀ k, j + 1 ≤ k → k < n → (L.set j ⟨A8, c8, xj.l ++ [y]⟩)[k]? = some nilX) := Lib.hid fun k h1 h2 => by
                  rw [List.getElem?_set_ne (by omega)]; exact LN.out k h1 h2
                have bw11 := bw10.trans (b11.mono bw10.size)
                clear v0 v1 v2 AP
                go_wp2_with fail
                go_roundw
                case rel => exact ⟨i + 1, _, _, A11, n11, c11, M11, by omega, by first | rfl | go_num, rfl, by omega, EF11, EM11, Lib.hid (List.getElem?_set_self hjl), by simp [HXM.out]; omega, XT11, LT11, LN11, MF11, bw11⟩
                case measure => simp [intOf]; omega
          | false =>
            have NSK : Hid (¬ (y.ch.del = true ∧ app B (eff B ((x.l.take i).map CV.ch)) y.ch.k = none)) := Lib.hid fun h => by
              have h1 := h.1; rw [show y.ch.del = y.del from rfl, hdel] at h1; cases h1
            rw [hdel] at V
            have HDL := Lib.hid hdel
            clear hdel
            obtain ⟨W9, rfl⟩ : ∃ u, u = W8 := ⟨_, rfl⟩
            have b9 := Below.refl W9.heap.size W9
            have V9 := Lib.hid (V.out.nx b9)
            have EF9 := Lib.hid (EF.out.nx (v8.trans (b9.mono v8.size)))
            have EM9 := Lib.hid (EM.out.nx (v8.trans (b9.mono v8.size)))
            have v9 := v8.trans (b9.mono v8.size)
            have bw9 := bw2.trans (v9.mono bw2.size)
            have OJ : Hid (∀ U, Below W9.heap.size W9 U → U.ownsRow w.heap.size 52 3 (.slice xA xm xcp) xm (cvs xj.l)) := Lib.hid fun U hU => by
              have h := own_below (EF9.out.dat xj (List.mem_of_getElem? HXJ.out)) hU
              rw [← HXM.out, ← HXA.out, ← HXC.out]; exact h
            have CE : Hid (∀ U, Below W9.heap.size W9 U → U.cell? ⟨w.heap.size, j, none⟩ = some (.slice xA xm xcp) ∧ U.frozen? ⟨w.heap.size, j, none⟩ = false ∧ U.cell? ⟨q8, 0, none⟩ = some (.slice y.A kn y.c) ∧ U.cell? ⟨q8, 1, none⟩ = some (.slice y.B vn y.d) ∧ U.cell? ⟨q8, 2, none⟩ = some (.bool false)) := Lib.hid fun U hU => by
              have R := (EF9.out.nx hU).row
              have X := Lib.hid (V9.out.nx hU)
              have x0 := X.out.at_ 0 (by simp)
              have x1 := X.out.at_ 1 (by simp)
              have x2 := X.out.at_ 2 (by simp)
              simp only [List.getElem?_cons_succ, List.getElem?_cons_zero] at x0 x1 x2
              refine ⟨?_, R.frozenAt j, x0, x1, x2⟩
              rw [R.cellAt j (by omega)]; unfold xvs; rw [List.getElem?_map, HXJ.out, ← HXM.out, ← HXA.out, ← HXC.out]; rfl
            have PU : Hid (∀ (W1 W18 : World) (A8 : Option Addr) (c8 : Nat), Below W9.heap.size W9 W1 → W18.ownsRow w.heap.size 52 3 (.slice A8 (xm + 1) c8) (xm + 1) (cvs xj.l ++ [.slice y.A kn y.c, .slice y.B vn y.d, .bool false]) → Grew W1 xA W18 A8 →
                (W18.cell? ⟨w.heap.size, j, none⟩ = some (.slice xA xm xcp) ∧ W18.frozen? ⟨w.heap.size, j, none⟩ = false) ∧ Ef w (W18.setCell ⟨w.heap.size, j, none⟩ (.slice A8 (xm + 1) c8)) w.heap.size n (L.set j ⟨A8, c8, xj.l ++ [y]⟩) ∧
                Em w (W18.setCell ⟨w.heap.size, j, none⟩ (.slice A8 (xm + 1) c8)) (L.set j ⟨A8, c8, xj.l ++ [y]⟩) MA mn mc M ∧ Bx (W18.setCell ⟨w.heap.size, j, none⟩ (.slice A8 (xm + 1) c8)) q8 [.slice y.A kn y.c, .slice y.B vn y.d, .bool false] ∧ Below w.heap.size w (W18.setCell ⟨w.heap.size, j, none⟩ (.slice A8 (xm + 1) c8))) := Lib.hid fun W1 W18 A8 c8 hb ho hg => by
              have e : cvs xj.l ++ [.slice y.A kn y.c, .slice y.B vn y.d, .bool false] = cvs (xj.l ++ [y]) := by rw [cvs_app]; simp [cvs, CV.cs, HKN.out, HVN.out, HDL.out]
              rw [e, ← HXM.out] at ho
              rw [← HXA.out] at hg
              have h := EF9.out.push HXJ.out bw9 hb ho hg DYW.out OKY.out
              rw [HXM.out, HXA.out, HXC.out] at h
              obtain ⟨h1, h2, h3, h4⟩ := h
              refine ⟨h1, h2, h3 _ _ _ _ EM9.out, ?_, h4⟩
              have hx : ∀ g, blk xj.A = some g → g < wr.heap.size := fun g e => (own_blk_le (EF.out.dat xj (List.mem_of_getElem? HXJ.out)) e).2
              have hq := (own_blk_le (g := w.heap.size) EF.out.row rfl).2
              have VX := (V9.out.nx hb).kp (Kp.of_grew (X := fun g => blk xj.A = some g) hg fun g e => e) fun e => by have := hx _ e; omega
              exact VX.other (by omega) j _
            have EJ : Hid (eff B ((x.l.take (i + 1)).map CV.ch) = eff B ((x.l.take i).map CV.ch) ++ [y.ch]) := Lib.hid (by
              rw [TK.out, eff_snoc]; unfold estp; rw [if_neg NSK.out])
            obtain ⟨e0, f0, v0, v1, v2⟩ := CE.out _ (Below.refl _ _)
            have vd : Below W9.heap.size W9 W9.drew := (Below.refl _ _).drew
            obtain ⟨e0d, f0d, v0d, v1d, v2d⟩ := CE.out _ vd
            have one63 : 1 ≤ 9223372036854775807 := by omega
            have va : Below W9.heap.size W9 (W9.alloc (.cells #[.slice y.A kn y.c, .slice y.B vn y.d, .bool false] 52)) := bal _ _
            have vb : Below W9.heap.size W9 (W9.alloc (.cells #[.slice y.A kn y.c, .slice y.B vn y.d, .bool false] 52)).drew := (bal _ _).drew
            have vc : Below W9.heap.size W9 (W9.drew.alloc (.cells #[.slice y.A kn y.c, .slice y.B vn y.d, .bool false] 52)) := bel_alloc vd (Nat.le_refl _) _
            obtain ⟨e0b, _, _, _, _⟩ := CE.out _ vb
            obtain ⟨e0c, _, _, _, _⟩ := CE.out _ vc
            have L1 := Lib.hid (rd_lit W9 rfl 52 3 #[.slice y.A kn y.c, .slice y.B vn y.d, .bool false] 1 one63 rfl)
            have L2 := Lib.hid (rd_lit W9 rfl 52 3 #[.slice y.A kn y.c, .slice y.B vn y.d, .bool false] 1 one63 rfl).drew
            have L3 := Lib.hid (rd_lit W9.drew rfl 52 3 #[.slice y.A kn y.c, .slice y.B vn y.d, .bool false] 1 one63 rfl)
            have VD := Lib.hid vd
            have VA := Lib.hid va
            have VB := Lib.hid vb
            have VC := Lib.hid vc
            clear vd va vb vc
            have j0 : (0 : Int) ≤ (j : Int) := by omega
            have j1 : (j : Int) < (n : Int) := by omega
            go_upto_region 10 with fail
            go_region_law
              (first
                | (refine step_app (news := (#[.slice y.A kn y.c, .slice y.B vn y.d, .bool false] : Array Value).toList) _ (by rfl) (.tmp 39) (.tmp 41) 42 (by rfl) w.heap.size 52 i0 (.agg #[.slice none 0 0, .slice none 0 0, .bool false]) 3 56 Tryz.underlying42 hi hz0 hz1 hz2 rfl (by omega) (by rfl) (xs := cvs xj.l) ?_ (by rfl) ?_ (Wl.one3 _ _ _ rfl rfl rfl) (by omega) (by omega) ?_ ?_
                   · first | exact OJ.out _ VC.out | exact OJ.out _ VB.out | exact OJ.out _ VA.out
                   · first | exact L3.out | exact L2.out | exact L1.out
                   · first | exact (bw9.trans (VC.out.mono bw9.size)).size | exact (bw9.trans (VB.out.mono bw9.size)).size | exact (bw9.trans (VA.out.mono bw9.size)).size
                   intro A8 c8 W18 own8 g8
                   have PS := by first | exact PU.out _ _ _ _ VC.out own8 g8 | exact PU.out _ _ _ _ VB.out own8 g8 | exact PU.out _ _ _ _ VA.out own8 g8
                   obtain ⟨⟨e8, f8⟩, PS⟩ := PS
                   have PS := Lib.hid PS
                   clear own8 g8))
            all_goals
              obtain ⟨W10, hW10⟩ : ∃ u, W18.setCell ⟨w.heap.size, j, none⟩ (.slice A8 (xm + 1) c8) = u := ⟨_, rfl⟩
              rw [hW10] at PS ⊢
              clear hW10 e0 f0 v0 v1 v2 e0d f0d v0d v1d v2d e0b e0c L1 L2 L3 VD VA VB VC e8 f8 PU OJ CE
              have EF10 := Lib.hid PS.out.1
              have EM10 := Lib.hid PS.out.2.1
              have V10 := Lib.hid PS.out.2.2.1
              have bw10 := PS.out.2.2.2
              have AP : Hid (Calls Tryz.prog 44 #[.slice MA mn mc, .agg #[.slice y.A kn y.c, .slice y.B vn y.d, .bool false]] W10 (ApPost W10 mn M y)) := Lib.hid (by
                rw [← HDL.out]
                exact rApply_any W10 (Lib.hid (EM10.out.cr bw10)) (Lib.hid (show Dt W10 ⟨y.A, y.c, y.k, y.B, y.d, y.v, y.del⟩ from DYW.out.nx bw10)) (Lib.hid HKN.out.symm) (Lib.hid HVN.out.symm) (by omega))
              have v0 := V10.out.at_ 0 (by simp)
              have v1 := V10.out.at_ 1 (by simp)
              have v2 := V10.out.at_ 2 (by simp)
              simp only [List.getElem?_cons_succ, List.getElem?_cons_zero] at v0 v1 v2
              go_wp2_with fail
              go_at_call 44
              refine AP.out.mono ?_
              rintro e W11 ⟨A11, n11, c11, M11, rfl, hn11, HM11, OM11, DM11, b11⟩
              have EF11 := Lib.hid (EF10.out.nx b11)
              have EM11 : Hid (Em w W11 (L.set j ⟨A8, c8, xj.l ++ [y]⟩) A11 n11 c11 M11) := Lib.hid ⟨own_base OM11.out bw10.size, fun z hz => (DM11.out z hz).elim (EM10.out.dat z) (fun e => e ▸ DYW.out), fun z hz g hg e => by
                have := (own_blk_le (EF10.out.dat z hz) hg).2
                have := (own_blk_le OM11.out e).1
                omega⟩
              have MF11 : Hid (∀ key, mfd (M11.map CV.ch) key = app B ((x.l.take (i + 1)).map CV.ch) key) := Lib.hid fun key => by
                have h : mfd (M.map CV.ch) = app B ((x.l.take i).map CV.ch) := funext MF.out
                rw [HM11.out, mfd_apl, TK.out, app_snoc, h]
              have hjl : j < L.length := by rw [EF.out.ln]; exact hlt
              have XT11 : Hid ((⟨A8, c8, xj.l ++ [y]⟩ : XV).t = eff B ((x.l.take (i + 1)).map CV.ch)) := Lib.hid (by
                rw [EJ.out, ← XT.out]; show (xj.l ++ [y]).map CV.ch = _; rw [List.map_append]; rfl)
              have LT11 : Hid (((L.set j ⟨A8, c8, xj.l ++ [y]⟩).take j).map XV.t = effs (fun _ => none) ((X.take j).map XV.t)) := Lib.hid (by
                have e : (L.set j ⟨A8, c8, xj.l ++ [y]⟩).take j = L.take j := by
                  apply List.ext_getElem?
                  intro k
                  rw [List.getElem?_take, List.getElem?_take]
                  split
                  · rw [List.getElem?_set_ne (by omega)]
                  · rfl
                rw [e]; exact LT.out)
              have LN11 : Hid (∀ k, j + 1 ≤ k → k < n → (L.set j ⟨A8, c8, xj.l ++ [y]⟩)[k]? = some nilX) := Lib.hid fun k h1 h2 => by
                rw [List.getElem?_set_ne (by omega)]; exact LN.out k h1 h2
              have bw11 := bw10.trans (b11.mono bw10.size)
              clear v0 v1 v2 AP
              go_wp2_with fail
              go_roundw
              case rel => exact ⟨i + 1, _, _, A11, n11, c11, M11, by omega, by first | rfl | go_num, rfl, by omega, EF11, EM11, Lib.hid (List.getElem?_set_self hjl), by simp [HXM.out]; omega, XT11, LT11, LN11, MF11, bw11⟩
              case measure => simp [intOf]; omega
        · obtain rfl : i = xn := by omega
          have d2 : decide ((i : Int) < (i : Int)) = false := decide_eq_false (by omega)
          have et : x.l.take i = x.l := List.take_of_length_le (by have := HXN.out; omega)
          have LT1 : Hid ((L.take (j + 1)).map XV.t = effs (fun _ => none) ((X.take (j + 1)).map XV.t)) := Lib.hid (by
            have h := XT.out
            rw [et] at h
            rw [ET.out, List.take_add_one, HXJ.out, ← LT.out]
            simp only [Option.toList_some, List.map_append, List.map_cons, List.map_nil]
            rw [h]; rfl)
          have MF1 : Hid (∀ key, mfd (M.map CV.ch) key = app (fun _ => none) ((X.take (j + 1)).map XV.t).flatten key) := Lib.hid fun key => by
            rw [MF.out, et, FT.out, app_app, HB.out]; rfl
          clear et
          go_wp2_with fail
          go_roundw
          case rel => exact ⟨j + 1, L, MA, mn, mc, M, by omega, by first | rfl | go_num, rfl, by omega, EF, EM, LT1, LN, MF1, bw2⟩
          case measure => simp [intOf]; omega
    · obtain rfl : j = n := by omega
      have d1 : decide ((j : Int) < (j : Int)) = false := decide_eq_false (by omega)
      have LF : Hid (L0.map XV.t = effs (fun _ => none) (X.map XV.t)) := Lib.hid (by
        have h := LT0.out
        rw [List.take_of_length_le (by rw [EF0.out.ln]; omega), List.take_of_length_le (by have := NX.out; omega)] at h
        exact h)
      go_wp2_with fail
      go_ret
      exact ⟨L0, rfl, LF, EF0, bw⟩
end Go.Proofs.YtpmkohnljngbhaaGreatDoor.Sr
