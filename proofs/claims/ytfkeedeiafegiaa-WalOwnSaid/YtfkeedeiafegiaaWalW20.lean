/- Walk: Compact, by the program. -/
import Derived.Test.YtfkeedeiafegiaaWalW19
namespace Go.Proofs.Ytfkeedeiafegiaa.Wl
set_option linter.unusedVariables false
set_option linter.unusedSimpArgs false
open Go.RowKit

/-- What is left of the transactions, from number j on. -/
structure Rest (w : World) (base z : Nat) (A : Option Addr) (n c : Nat) (out : List TV) (j : Nat) : Prop where
  row : w.ownsRow base 73 2 (.slice A n c) n (tcells out)
  dat : ∀ k x, j ≤ k → out[k]? = some x → Rs w base x.g.A x.g.n x.g.c x.g.l
  rlt : ∀ q, blk A = some q → q < z
  glt : ∀ x ∈ out, ∀ q, blk x.g.A = some q → q < z
  dlt : ∀ x ∈ out, ∀ y ∈ x.g.l, ∀ q, blk y.A = some q → q < z
theorem Tr.rest {w : World} {base n c : Nat} {A : Option Addr} {out : List TV} (h : Tr w base A n c out) : Rest w base w.heap.size A n c out 0 :=
  ⟨h.row, fun k x _ hx => h.dat x (List.mem_of_getElem? hx), fun q hq => (own_blk_le h.row hq).2, fun x hx q hq => (own_blk_le (h.dat x hx).row hq).2, fun x hx y hy q hq => (own_blk_le ((h.dat x hx).dat y hy) hq).2⟩
section
variable {w w' : World} {base z n c j : Nat} {A : Option Addr} {out : List TV}
theorem Rest.below (h : Rest w base z A n c out j) (hb : Below w.heap.size w w') : Rest w' base z A n c out j :=
  ⟨own_below h.row hb, fun k x hk hx => (h.dat k x hk hx).below hb, h.rlt, h.glt, h.dlt⟩
theorem Rest.next (h : Rest w base z A n c out j) : Rest w base z A n c out (j + 1) := ⟨h.row, fun k x hk hx => h.dat k x (by omega) hx, h.rlt, h.glt, h.dlt⟩
theorem Rest.grew (h : Rest w base z A n c out j) {B B' : Option Addr} (g : Grew w B w' B') (hz : ∀ q, blk B = some q → z ≤ q) : Rest w' base z A n c out j :=
  ⟨own_grew h.row g (ap_lo hz h.rlt).symm, fun k x hk hx => (h.dat k x hk hx).grew g (ap_lo hz (h.glt x (List.mem_of_getElem? hx))).symm fun y hy => (ap_lo hz (h.dlt x (List.mem_of_getElem? hx) y hy)).symm, h.rlt, h.glt, h.dlt⟩
theorem Rest.at_ (h : Rest w base z A n c out j) {i : Nat} (hi : i < n) : ∃ g x, A = some ⟨g, 0, none⟩ ∧ g < w.heap.size ∧ out[i]? = some x ∧ x ∈ out ∧
    w.cell? ⟨g, i * 2, none⟩ = some (.int .i64 x.tx) ∧ w.cell? ⟨g, i * 2 + 1, none⟩ = some (.slice x.g.A x.g.n x.g.c) := by
  have ht : Tr w base A n c out ∨ True := .inr trivial
  obtain ⟨g, o, e, hb, hc⟩ := (Rd.of_own h.row).at_ (by omega)
  obtain ⟨g', e', _⟩ := own_pos h.row (by omega)
  obtain ⟨rfl, rfl⟩ : g' = g ∧ o = 0 := by rw [e'] at e; injection e with e; injection e with e1 e2; exact ⟨e1, e2.symm⟩
  have hl : n = out.length := by have := h.row.1; rw [tcells_len] at this; omega
  have hx : out[i]? = some (out[i]'(by omega)) := List.getElem?_eq_getElem (by omega)
  obtain ⟨c0, c1⟩ := tcells_get out i _ hx
  refine ⟨g', _, e, hb, hx, List.getElem_mem _, ?_, ?_⟩
  · have := hc (i * 2) (by omega); rw [Nat.zero_add] at this; rw [this]; exact c0
  · have := hc (i * 2 + 1) (by omega); rw [Nat.zero_add] at this; rw [this]; exact c1
/-- The row of one transaction grows. -/
theorem Rest.push (h : Rest w base z A n c out j) (hap : out.Pairwise fun x y => ap x.g.A y.g.A) {x : TV} (hx : out[j]? = some x) {B' : Option Addr} (g : Grew w x.g.A w' B') : Rest w' base z A n c out (j + 1) := by
  have hr := h.dat j x (Nat.le_refl _) hx
  refine ⟨own_grew h.row g (own_ne h.row hr.row (by decide)), fun k y hk hy => (h.dat k y (by omega) hy).grew g ?_ fun u hu => own_ne ((h.dat k y (by omega) hy).dat u hu) hr.row (by decide), h.rlt, h.glt, h.dlt⟩
  obtain ⟨h1, e1⟩ := List.getElem?_eq_some_iff.1 hx
  obtain ⟨h2, e2⟩ := List.getElem?_eq_some_iff.1 hy
  have := (List.pairwise_iff_getElem.1 hap) j k h1 h2 (by omega)
  rw [e1, e2] at this
  exact this.symm
end
/-- What has been written after j transactions. -/
def cmpT (out : List TV) (f : Int) (j : Nat) : List Rec := (((out.take j).map (fun x => (x.tx, x.g.l.map RV.r))).filter (fun p => decide (f ≤ p.1))).map grp |>.flatten
theorem cmpT_y {out : List TV} {f : Int} {j : Nat} {x : TV} (h : out[j]? = some x) (hf : f ≤ x.tx) : cmpT out f (j + 1) = cmpT out f j ++ grp (x.tx, x.g.l.map RV.r) := by
  unfold cmpT
  rw [List.take_add_one, h, List.map_append, List.filter_append, List.map_append, List.flatten_append]
  simp [hf]
theorem cmpT_n {out : List TV} {f : Int} {j : Nat} {x : TV} (h : out[j]? = some x) (hf : x.tx < f) : cmpT out f (j + 1) = cmpT out f j := by
  unfold cmpT
  have : ¬ f ≤ x.tx := by omega
  rw [List.take_add_one, h, List.map_append, List.filter_append, List.map_append, List.flatten_append]
  simp [this]
theorem cmpT_all {out : List TV} {f : Int} {l : List Rec} (h : out.map (fun x => (x.tx, x.g.l.map RV.r)) = trs l) {j : Nat} (hj : out.length ≤ j) : cmpT out f j = cmp l f := by
  unfold cmpT cmp
  rw [List.take_of_length_le hj, h]
theorem cmpT_le (out : List TV) (f : Int) (j : Nat) : (encs (cmpT out f j)).length ≤ (encs (cmpT out f out.length)).length := by
  have h : cmpT out f out.length = cmpT out f j ++ ((((out.drop j).map (fun x => (x.tx, x.g.l.map RV.r))).filter (fun p => decide (f ≤ p.1))).map grp).flatten := by
    unfold cmpT
    rw [← List.flatten_append, ← List.map_append, ← List.filter_append, ← List.map_append, List.take_append_drop, List.take_length]
  rw [h, encs_len_app]; omega
/-- The result. -/
def Co (w : World) (b : List UInt8) (f : Int) (e : Ending) (w' : World) : Prop :=
  ∃ A m c, e = .returned (.tuple #[.slice A m c, .int .i64 0]) ∧ m = (encs (cmp (rd b) f)).length ∧ w'.ownsRow w.heap.size 5 1 (.slice A m c) m (bv (encs (cmp (rd b) f))) ∧ Below w.heap.size w w'
theorem Compact_bad {A : Option Addr} {n c : Nat} (f : Int) (w : World) (hf : f < 1) : Calls Try.prog 32 #[.slice A n c, .int .i64 f] w (Er w 2) := by
  go_enter Try.func32, Try.ntmps32
  go_wp2_with fail
  go_ret2
  exact ⟨rfl, Below.refl _ _⟩
def Rec.rv (r : Rec) (A : Option Addr) (c : Nat) : RV := ⟨r.k, r.t, A, c, r.d⟩
set_option maxHeartbeats 3200000 in
theorem Compact_ok {A : Option Addr} {n c : Nat} {b : List UInt8} (f : Int) (w : World) (hl : Hid (n = b.length)) (h : Hid (Rd w 1 A n c (bv b))) (hn : n ≤ 1048576) (hf : 1 ≤ f) (f2 : f ≤ 9223372036854775807) :
    Calls Try.prog 32 #[.slice A n c, .int .i64 f] w (Co w b f) := by
  obtain ⟨i0, hi, hz0, hz1, hz2⟩ := info_parts info_rec
  go_enter Try.func32, Try.ntmps32
  go_wp2_with fail
  go_at_call 53
  refine (transactions_any _ hl h (by omega)).mono ?_
  rintro e w1 ⟨A1, n1, c1, out, rfl, tr, ho, b1⟩
  have HO := Lib.hid ho
  have hle := sts_le (rd b)
  have hrl := rd_len b
  have hn1 : n1 ≤ 1048576 := by
    have h1 := congrArg List.length ho
    rw [List.length_map] at h1
    have h2 := tr.len
    have h3 := hle.2.1
    have h4 := hl.out
    have h5 : (trs (rd b)).length = (sts (rd b)).2.length := rfl
    omega
  have hgn : Hid (∀ x ∈ out, x.g.n ≤ 1048576) := Lib.hid fun x hx => by
    have h1 := hle.2.2 (x.tx, x.g.l.map RV.r) (by
      have : (x.tx, x.g.l.map RV.r) ∈ out.map (fun x => (x.tx, x.g.l.map RV.r)) := List.mem_map_of_mem hx
      rw [ho] at this; exact this)
    have h2 := (tr.dat x hx).len
    have h4 := hl.out
    simp at h1
    omega
  have htk : Hid (∀ x ∈ out, (∀ y ∈ x.g.l, ok y.r) ∧ 1 ≤ x.tx ∧ x.tx < 9223372036854775808) := Lib.hid fun x hx => by
    have hm : (x.tx, x.g.l.map RV.r) ∈ trs (rd b) := ho ▸ List.mem_map_of_mem (f := fun x : TV => (x.tx, x.g.l.map RV.r)) hx
    obtain ⟨h1, q, h2, h3, h4⟩ := trs_k _ _ hm
    refine ⟨fun y hy => rd_ok b _ (h1 y.r (List.mem_map_of_mem hy)).2.2, ?_⟩
    have := rd_ok b q h2
    dsimp only at h4
    rw [← h4]
    exact ⟨this.2.2.1, this.2.2.2.1⟩
  have hsz : Hid (∀ j, (encs (cmpT out f j)).length ≤ n) := Lib.hid fun j => by
    have h1 := cmpT_le out f j
    rw [cmpT_all ho (Nat.le_refl _)] at h1
    have h2 := cmp_len (rd b) f (rd_ok b)
    have h3 := glen_le b
    unfold glen at h3
    have := hl.out
    omega
  have hnc := (Rd.of_own tr.row).nc
  have hc63 := (Rd.of_own tr.row).c63
  have hlen := Lib.hid tr.len
  have hap := Lib.hid tr.apO
  have R1 := Lib.hid tr.rest
  clear ho tr hle hrl
  have zw := b1.size
  go_wp2_with fail
  go_loopw [6, 16] (fun v i wr => ∃ (j : Nat) (Ao : Option Addr) (no co : Nat), j ≤ n1 ∧ no ≤ n ∧ i = .int .i64 j ∧ v = .slice Ao no co ∧ Hid (no = (encs (cmpT out f j)).length) ∧ Hid (wr.ownsRow w.heap.size 5 1 (.slice Ao no co) no (bv (encs (cmpT out f j)))) ∧ Hid (∀ q, blk Ao = some q → w1.heap.size ≤ q) ∧ Hid (Rest wr w.heap.size w1.heap.size A1 n1 c1 out j) ∧ w1.heap.size ≤ wr.heap.size ∧ Below w.heap.size w wr) (fun _ i _ => (n1 - intOf i).toNat)
  case atStart => exact ⟨0, none, 0, 0, by omega, by omega, rfl, rfl, Lib.hid rfl, Lib.hid (World.ownsRow_nil _ _ _ _), Lib.hid (fun q h => by cases h), R1, Nat.le_refl _, b1⟩
  case round =>
    obtain ⟨j, Ao, no, co, hj, hno, rfl, rfl, hnl, own, hlo, rs, z1, bw⟩ := hrel
    have zb := bw.size
    by_cases hlt : j < n1
    · obtain ⟨g, x, rfl, hg, hx, hxm, a0, a1⟩ := rs.out.at_ hlt
      have hxn := hgn.out x hxm
      obtain ⟨hxk, ht1, ht2⟩ := htk.out x hxm
      have HXK := Lib.hid hxk
      obtain ⟨⟨tx, ⟨gA, gn, gc, gl⟩⟩, hxx⟩ : ∃ y, x = y := ⟨_, rfl⟩
      subst hxx
      dsimp only at a0 a1 hxn ht1 ht2 HXK
      have HX := Lib.hid hx
      obtain ⟨Wa, hWa⟩ : ∃ Wa, wr.alloc (.cells #[.int .i64 tx, .slice gA gn gc] 73) = Wa := ⟨_, rfl⟩
      have hba : Below wr.heap.size wr Wa := hWa ▸ (Below.refl _ _).alloc (Nat.le_refl _) _
      have bwa : Below w.heap.size w Wa := bw.trans (hba.mono zb)
      have za := hba.size
      by_cases hlf : tx < f
      · have HC : Hid (cmpT out f (j + 1) = cmpT out f j) := Lib.hid (cmpT_n hx hlf)
        have rs2 := Lib.hid (rs.out.below hba).next
        have own2 := Lib.hid (own_below own.out hba)
        have HWa := Lib.hid hWa
        clear hWa hx hxk
        go_wp2_with fail
        rw [HWa.out]
        go_roundw
        case rel => exact ⟨j + 1, Ao, no, co, by omega, hno, by go_num, rfl, by rw [HC.out]; exact hnl, by rw [HC.out]; exact own2, hlo, rs2, by omega, bwa⟩
        case measure => simp [intOf]; omega
      · have hff : f ≤ tx := by omega
        have HC : Hid (cmpT out f (j + 1) = cmpT out f j ++ grp (tx, gl.map RV.r)) := Lib.hid (cmpT_y hx hff)
        obtain ⟨Wb, hWb⟩ : ∃ Wb, Wa.alloc (.cells #[.int .i64 3, .int .i64 tx, .slice none 0 0] 24) = Wb := ⟨_, rfl⟩
        have hbb : Below Wa.heap.size Wa Wb := hWb ▸ (Below.refl _ _).alloc (Nat.le_refl _) _
        have hbc : Below wr.heap.size wr Wb := hba.trans (hbb.mono za)
        have bwb : Below w.heap.size w Wb := bw.trans (hbc.mono zb)
        have zbb := hbc.size
        have rsb := Lib.hid (rs.out.below hbc)
        have gb := Lib.hid (rsb.out.dat j _ (Nat.le_refl _) hx)
        have gbr : Hid (Wb.ownsRow w.heap.size 24 3 (.slice gA gn gc) gn (cells gl)) := Lib.hid gb.out.row
        have hwz : Wa.heap.size = wr.heap.size + 1 := by rw [← hWa]; simp
        have hrb : Hid (Rd Wb 3 (some ⟨wr.heap.size + 1, 0, none⟩) 1 1 (#[.int .i64 3, .int .i64 tx, .slice none 0 0] : Array Value).toList) := Lib.hid (hWb ▸ Rd.lit' _ _ 3 #[.int .i64 3, .int .i64 tx, .slice none 0 0] 1 hwz (by omega) rfl)
        have ownb := Lib.hid (own_below own.out hbc)
        have zwb : w.heap.size ≤ Wb.heap.size := by omega
        have HWa := Lib.hid hWa
        have HWb := Lib.hid hWb
        have HXM := Lib.hid hxm
        have b0 : Wa.cell? ⟨wr.heap.size, 0, none⟩ = some (.int .i64 tx) := by rw [← hWa]; unfold World.cell?; rw [heap_alloc_new]; rfl
        have b1' : Wa.cell? ⟨wr.heap.size, 1, none⟩ = some (.slice gA gn gc) := by rw [← hWa]; unfold World.cell?; rw [heap_alloc_new]; rfl
        clear hWa hWb hx hxk hbb hbc hba rs own hff hxm
        go_wp2_with (first | (rw [HWa.out, HWb.out]; at_builtin; refine wpList_app _ rfl (.tmp 25) (.tmp 29) 33 rfl w.heap.size 24 i0 (.agg #[.int .i64 0, .int .i64 0, .slice none 0 0]) 3 40 Try.underlying33 hi hz0 hz1 hz2 rfl (by omega) (by rfl) gbr.out (by rfl) hrb.out (one3 _ _ _ rfl rfl rfl) (by omega) (by omega) zwb ?_; intro A2 c2 w2 own2 g2))
        have gs2 : Hid (Rs w2 w.heap.size A2 (gn + 1) c2 (gl ++ [⟨3, tx, none, 0, []⟩])) := Lib.hid (gb.out.push ⟨3, tx, none, 0, []⟩ (World.ownsRow_nil _ _ _ _) own2 g2)
        have rs2 := Lib.hid (rsb.out.push hap.out HX.out g2)
        have ow2 := Lib.hid (own_grew ownb.out g2 (own_ne ownb.out gbr.out (by decide)))
        have bw2 : Below w.heap.size w w2 := g2.low bwb zwb (fun q e => (own_blk_le gbr.out e).1)
        have z2 : w1.heap.size ≤ w2.heap.size := by have := g2.by_.size; omega
        have HR : Hid ((gl ++ [(⟨3, tx, none, 0, []⟩ : RV)]).map RV.r = grp (tx, gl.map RV.r)) := Lib.hid (by rw [List.map_append]; rfl)
        obtain ⟨GL, hGL⟩ : ∃ GL, gl ++ [(⟨3, tx, none, 0, []⟩ : RV)] = GL := ⟨_, rfl⟩
        rw [hGL] at gs2 HR
        have HD : Hid (∀ y ∈ GL, ok y.r ∧ ∀ q, blk y.A = some q → q < w1.heap.size) := Lib.hid fun y hy => by
          rw [← hGL] at hy
          rcases List.mem_append.1 hy with hy | hy
          · exact ⟨HXK.out y hy, R1.out.dlt _ HXM.out y hy⟩
          · obtain rfl : y = ⟨3, tx, none, 0, []⟩ := by simpa using hy
            exact ⟨⟨by show (1 : Int) ≤ 3; decide, by show (3 : Int) ≤ 3; decide, ht1, ht2, by simp [RV.r], fun _ => rfl⟩, fun q e => by cases e⟩
        have hgs := gs2.out.rr.row.nc
        have hgs63 := gs2.out.rr.row.c63
        clear hGL own2 g2 rsb gb gbr ownb hrb b0 b1' bwb zwb
        go_wp2_with fail
        go_loopw [6, 32] (fun v i wi => ∃ (k : Nat) (Ai : Option Addr) (ni ci : Nat), k ≤ gn + 1 ∧ ni ≤ n ∧ i = .int .i64 k ∧ v = .slice Ai ni ci ∧ Hid (ni = (encs (cmpT out f j ++ (GL.take k).map RV.r)).length) ∧ Hid (wi.ownsRow w.heap.size 5 1 (.slice Ai ni ci) ni (bv (encs (cmpT out f j ++ (GL.take k).map RV.r)))) ∧ Hid (∀ q, blk Ai = some q → w1.heap.size ≤ q) ∧ Hid (Rest wi w.heap.size w1.heap.size (some ⟨g, 0, none⟩) n1 c1 out (j + 1)) ∧ Hid (Rs wi w.heap.size A2 (gn + 1) c2 GL) ∧ w1.heap.size ≤ wi.heap.size ∧ Below w.heap.size w wi) (fun _ i _ => (gn + 1 - intOf i).toNat)
        case atStart => exact ⟨0, Ao, no, co, by omega, hno, rfl, rfl, Lib.hid (by simpa using hnl.out), Lib.hid (by simpa using ow2.out), hlo, rs2, gs2, z2, bw2⟩
        case round =>
          obtain ⟨k, Ai, ni, ci, hk, hni, rfl, rfl, hil, iown, ilo, irs, igs, zi, ibw⟩ := hrel
          have zib := ibw.size
          by_cases hkt : k < gn + 1
          · obtain ⟨q, o, x, rfl, hq, hx, hxm, x0, x1, x2⟩ := igs.out.rr.rec_ hkt
            obtain ⟨hok, hdl⟩ := HD.out x hxm
            have HXX := Lib.hid (take_map hx)
            have hdat := igs.out.dat x hxm
            obtain ⟨nx, hnx⟩ : ∃ nx, x.d.length = nx := ⟨_, rfl⟩
            have hap2 : Hid (0 < nx → blk Ai = none ∨ blk Ai ≠ blk x.A) := Lib.hid fun _ => ap_lo ilo.out hdl
            have k1 : 1 ≤ x.k := hok.1
            have k2 : x.k ≤ 3 := hok.2.1
            have t1 : 1 ≤ x.t := hok.2.2.1
            have t2 : x.t < 9223372036854775808 := hok.2.2.2.1
            have hm4 : nx ≤ 4096 := by have := hok.2.2.2.2.1; rw [← hnx]; exact this
            have HI : Hid (ni + (21 + nx) = (encs (cmpT out f j ++ (GL.take (k + 1)).map RV.r)).length) := Lib.hid (by
              rw [HXX.out, ← List.append_assoc, encs_snoc, List.length_append, enc_len, ← hil.out, ← hnx]; rfl)
            have HE : Hid (encs (cmpT out f j ++ (GL.take (k + 1)).map RV.r) = encs (cmpT out f j ++ (GL.take k).map RV.r) ++ enc x.r) := Lib.hid (by
              rw [HXX.out, ← List.append_assoc, encs_snoc])
            have hni2 : ni + (21 + nx) ≤ n := by
              rw [HI.out]
              have h1 := hsz.out (j + 1)
              rw [HC.out, ← HR.out] at h1
              have h2 : GL.map RV.r = (GL.take (k + 1)).map RV.r ++ (GL.drop (k + 1)).map RV.r := by rw [← List.map_append, List.take_append_drop]
              rw [h2, ← List.append_assoc, encs_len_app] at h1
              omega
            rw [hnx] at x2 hdat
            obtain ⟨Wx, hWx⟩ : ∃ Wx, wr.alloc (.cells #[.int .i64 x.k, .int .i64 x.t, .slice x.A nx x.c] 24) = Wx := ⟨_, rfl⟩
            have hbx : Below wr.heap.size wr Wx := hWx ▸ (Below.refl _ _).alloc (Nat.le_refl _) _
            obtain ⟨y0, y1, y2⟩ := box3 wr (.int .i64 x.k) (.int .i64 x.t) (.slice x.A nx x.c) 24
            rw [hWx] at y0 y1 y2
            have dx := Lib.hid (Rd.of_own (own_below hdat hbx))
            have ox := Lib.hid (own_below iown.out hbx)
            have rx := Lib.hid (irs.out.below hbx)
            have gx := Lib.hid (igs.out.below hbx)
            have bx : Below w.heap.size w Wx := ibw.trans (hbx.mono zib)
            have zx := hbx.size
            have HWx := Lib.hid hWx
            have HNX := Lib.hid hnx
            clear hWx hbx hnx hx hdat hok iown irs igs
            go_wp2_with fail
            rw [HWx.out]
            go_at_call 43
            refine (code_any (base := w.heap.size) x.k x.t _ ox dx hap2 k1 k2 t1 (by omega) hm4 (by omega) (by omega)).mono ?_
            rintro e w3 ⟨A3, c3, rfl, own3, g3⟩
            have own4 : Hid (w3.ownsRow w.heap.size 5 1 (.slice A3 (ni + (21 + nx)) c3) (ni + (21 + nx)) (bv (encs (cmpT out f j ++ (GL.take (k + 1)).map RV.r)))) := Lib.hid (by rw [HE.out]; exact own3)
            have rs3 := Lib.hid (rx.out.grew g3 ilo.out)
            have gs3 := Lib.hid (gx.out.grew g3 (own_ne gx.out.row ox.out (by decide)) fun y hy => (ap_lo ilo.out (HD.out y hy).2).symm)
            have lo3 : Hid (∀ q, blk A3 = some q → w1.heap.size ≤ q) := Lib.hid fun q hq => by
              rcases g3.at_ with e | ⟨p, e, hp⟩
              · exact ilo.out q (e ▸ hq)
              · have : some p = some q := e ▸ hq
                injection this with this
                omega
            have bw3 : Below w.heap.size w w3 := g3.low bx (by omega) (fun q e => by have := ilo.out q e; omega)
            have z3 : w1.heap.size ≤ w3.heap.size := by have := g3.by_.size; omega
            clear own3 g3 ox rx gx dx y0 y1 y2
            go_wp2_with fail
            go_roundw
            case rel => exact ⟨k + 1, A3, ni + (21 + nx), c3, by omega, hni2, by go_num, rfl, HI, own4, lo3, rs3, gs3, z3, bw3⟩
            case measure => simp [intOf]; omega
          · obtain rfl : k = gn + 1 := by omega
            have hGT : Hid (cmpT out f j ++ (GL.take (gn + 1)).map RV.r = cmpT out f (j + 1)) := Lib.hid (by
              rw [HC.out, ← HR.out, List.take_of_length_le (by have := igs.out.len; omega)])
            rw [hGT.out] at hil iown
            go_wp2_with fail
            go_roundw
            case rel => exact ⟨j + 1, Ai, ni, ci, by omega, hni, by go_num, rfl, hil, iown, ilo, irs, zi, ibw⟩
            case measure => simp [intOf]; omega
    · obtain rfl : j = n1 := by omega
      have hF : Hid (cmpT out f j = cmp (rd b) f) := Lib.hid (cmpT_all HO.out (by have := hlen.out; omega))
      rw [hF.out] at hnl own
      go_wp2_with fail
      go_ret2
      exact ⟨Ao, no, co, rfl, hnl.out, own.out, bw⟩
end Go.Proofs.Ytfkeedeiafegiaa.Wl
