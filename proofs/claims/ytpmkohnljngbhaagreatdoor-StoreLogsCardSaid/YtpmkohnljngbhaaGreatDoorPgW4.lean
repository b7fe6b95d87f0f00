/- A row of bytes of the call's own that is written. -/
import Derived.Test.YtpmkohnljngbhaaGreatDoorPgB1
import Derived.Laws.CopyOwn
import Derived.Test.YtpmkohnljngbhaaGreatDoorPgB3
import Derived.Deep.RegionLaw
set_option linter.all false
namespace Go.Proofs.YtpmkohnljngbhaaGreatDoor.Pg
set_option linter.unusedVariables false
set_option linter.unusedSimpArgs false
set_option maxRecDepth 1000000
open Go.RowKit Wl

structure Row (w : World) (P : Nat) (cur : List UInt8) : Prop where
  h : w.heap[P]? = some (.cells (bv cur).toArray 5 (0, 0))
section
variable {w w' : World} {P : Nat} {cur : List UInt8} {X : Nat → Prop}
theorem Row.lt (h : Row w P cur) : P < w.heap.size := (Array.getElem?_eq_some_iff.1 h.h).1
theorem Row.kp (h : Row w P cur) (k : Kp w w' X) (hX : ¬ X P) : Row w' P cur := ⟨(k.block P h.lt hX).trans h.h⟩
theorem Row.below {B : Nat} (h : Row w P cur) (hb : Below B w w') (hP : P < B) : Row w' P cur := ⟨(hb.block P hP).trans h.h⟩
theorem Row.step (h : Row w P cur) (hb : Below w.heap.size w w') : Row w' P cur := h.below hb h.lt
theorem Row.cell (h : Row w P cur) {j : Nat} {u : UInt8} (hj : cur[j]? = some u) : w.cell? ⟨P, j, none⟩ = some (.int .u8 (u.toNat : Int)) := by
  unfold World.cell?
  simp [h.h, bv_get, hj]
theorem Row.fz (h : Row w P cur) (j : Nat) : w.frozen? ⟨P, j, none⟩ = false := by
  unfold World.frozen?
  simp [h.h]
theorem Row.set (h : Row w P cur) (j : Nat) {z : Int} {u : UInt8} (hz : z = (u.toNat : Int)) : Row (w.setCell ⟨P, j, none⟩ (.int .u8 z)) P (cur.set j u) := by
  refine ⟨?_⟩
  subst hz
  have hl := h.lt
  unfold World.setCell
  rw [Array.getElem?_modify]
  simp only [if_pos, h.h, Option.map_some, Option.isSome_none, Bool.false_eq_true, if_false]
  congr 2
  apply Array.ext'
  simp [bv, List.map_set]
theorem Row.drewN (h : Row w P cur) (n : Nat) : Row (w.drewN n) P cur := ⟨h.h⟩
theorem Row.rd (h : Row w P cur) {n : Nat} (hn : n = cur.length) (h63 : n ≤ 9223372036854775807) : Rd w 1 (some ⟨P, 0, none⟩) n n (bv cur) := by
  refine ⟨by rw [bv_len]; omega, Nat.le_refl _, fun e => (by cases e), h63, fun _ => ⟨P, 0, rfl, h.lt, fun j hj => ?_⟩⟩
  unfold World.cell?
  simp [h.h]
theorem own_heap {base e n g : Nat} {xs : List Value} (h : w.ownsRow base e 1 (.slice (some ⟨g, 0, none⟩) n n) n xs) : w.heap[g]? = some (.cells xs.toArray e (0, 0)) := by
  rcases h.2 with ⟨h1, _⟩ | ⟨g', cap, cu, h1, _, h2, _, _, h5, h6⟩
  · injection h1 with h1; cases h1
  · injection h1 with h1 _ h3
    injection h1 with h1
    injection h1 with h1
    subst h1 h3
    rw [h2]
    congr 2
    rw [← h6, List.take_of_length_le (by simp; omega)]
end
/-- copy into a row of the call's own, as a step of a region that draws its order: nothing else turns. -/
theorem step_copy_kp {P : Program} {ops : Array Oper} {o : Oper} {a : Act} {w : World} {K : Act → World → Prop} {Q : Exit → Act → World → Prop} {E : Prop} (hgd : o.guard = none) (d s : Operand) (dT sT : TypeId)
    (ho : o.op = .call { callee := .builtin .copy, args := #[d, s], argTypes := #[dT, sT] }) (elem : TypeId) (hu : P.underlying dT = some (.slice elem)) (hsz : (P.info? elem).map (·.size) = some 1)
    (dp sp : Option Addr) (dLen dCap sLen sCap : Nat) (hd : a.eval d = .slice dp dLen dCap) (hs : a.eval s = .slice sp sLen sCap)
    (g off : Nat) (cur : List Value) (t : TypeId) (hg : w.heap[g]? = some (.cells cur.toArray t (0, 0))) (cs : List Value) (hn : cs.length = Nat.min sLen dLen)
    (hpos : 0 < cs.length → dp = some ⟨g, off, none⟩ ∧ ∃ ad, sp = some ad ∧ ∀ j v, cs[j]? = some v → w.cell? (ad.add j) = some v)
    (hfit : off + cs.length ≤ cur.length) (h1 : ∀ v ∈ cs, v.oneCell' = true)
    (h : ∀ w', Hid (w'.heap[g]? = some (.cells (splice cur off cs).toArray t (0, 0))) → Hid (Kp w w' (· = g)) → K (a.put o.dst (goInt cs.length)) w') :
    if Region.wanted o (yielded ops a.tmps) = true then Oper.wp P o a w K Q else E := by
  have hw : Region.wanted o (yielded ops a.tmps) = true := by simp [Region.wanted, hgd]
  rw [if_pos hw]
  by_cases h0 : cs.length = 0
  · obtain rfl : cs = [] := List.eq_nil_of_length_eq_zero h0
    have hrun := run_copy_none (P := P) w dT sT o.type elem dp sp dLen dCap sLen sCap hu hsz (by simpa using hn.symm)
    unfold Oper.wp
    simp [execOp, ho, resolve, invoke, builtin, hd, hs, hrun, Result.andThen]
    exact h w (show _ = _ by simpa [splice] using hg) (Lib.hid (Kp.refl _ _))
  · obtain ⟨rfl, ad, rfl, hsrc⟩ := hpos (by omega)
    have hrun := run_copy_row (P := P) w dT sT o.type elem g off dLen dCap ad sLen sCap cur.toArray t cs hu hsz hg hn hsrc (by simpa using hfit) h1
    unfold Oper.wp
    simp [execOp, ho, resolve, invoke, builtin, hd, hs, hrun, Result.andThen]
    exact h _ (show _ = _ by simpa [splice] using setRow_heap w g _ _ t _ hg) (Lib.hid ⟨rfl, rfl, rfl, by simp [World.setRow], fun k _ hk => setRow_other w g k _ hk⟩)
/-- A page that is written from its beginning. -/
def zs (H : List UInt8) : List UInt8 := H ++ List.replicate (256 - H.length) 0
theorem zs_len {H : List UInt8} (h : H.length ≤ 256) : (zs H).length = 256 := by simp [zs]; omega
theorem zs_set {H : List UInt8} (h : H.length < 256) (u : UInt8) : (zs H).set H.length u = zs (H ++ [u]) := by
  unfold zs
  rw [List.set_append_right _ _ (Nat.le_refl _), Nat.sub_self, show 256 - H.length = (256 - (H ++ [u]).length) + 1 by simp; omega, List.replicate_succ]
  simp
theorem zs_get {H : List UInt8} {j : Nat} (h1 : H.length ≤ j) (h2 : j < 256) : (zs H)[j]? = some 0 := by
  unfold zs
  rw [List.getElem?_append_right h1, List.getElem?_replicate, if_pos (by omega)]
theorem zs_splice {H cs : List UInt8} (h : H.length + cs.length ≤ 256) : splice (zs H) H.length cs = zs (H ++ cs) := by
  unfold zs splice
  rw [List.take_left, List.append_assoc]
  congr 2
  rw [List.drop_append, List.drop_of_length_le (by omega), List.nil_append, List.drop_replicate]
  congr 1
  simp; omega
theorem zs_splice' {H cs : List UInt8} {off : Nat} (h0 : off = H.length) (h : H.length + cs.length ≤ 256) : splice (zs H) off cs = zs (H ++ cs) := by subst h0; exact zs_splice h
theorem zs_zero : zs [] = zs [0, 0, 0, 0] := by kernel_rfl
theorem bv_splice (a : List UInt8) (k : Nat) (b : List UInt8) : bv (splice a k b) = splice (bv a) k (bv b) := by simp [splice, bv]
theorem cells_zero : (madeCells (Value.int .u8 0).cells (256 * 1)).toList = bv (zs []) := by kernel_rfl
end Go.Proofs.YtpmkohnljngbhaaGreatDoor.Pg
/- The walk of page.encode. -/
namespace Go.Proofs.YtpmkohnljngbhaaGreatDoor.Pg
set_option maxRecDepth 1000000
open Go.RowKit Wl

theorem info_u8 : (Tryz.prog.info? 5).map (fun i => (i.zero, i.size, i.bytes)) = some (some (.int .u8 0), 1, 1) := by kernel_rfl
def hd (kd n : Nat) : List UInt8 := [0, 0, 0, 0, UInt8.ofNat kd, UInt8.ofNat n]
theorem u8_lit {n : Nat} (h : n < 256) : ((UInt8.ofNat n).toNat : Int) = (n : Int) := by rw [nat8 h]
/-- What encode writes. -/
def EncPost (w : World) (kd : Nat) (l : List IV) (e : Ending) (w' : World) : Prop :=
  e = .returned (.slice (some ⟨w.heap.size, 0, none⟩) 256 256) ∧ Hid (Row w' w.heap.size (enc kd (its l))) ∧ Below w.heap.size w w'
theorem tot_lt {kind k : Nat} {l : List IV} {x : IV} (h : l[k]? = some x) : tot kind (its (l.take k)) + isz kind x.it ≤ tot kind (its l) := by
  have e : l = l.take k ++ x :: l.drop (k + 1) := by
    have h3 := (List.getElem?_eq_some_iff.1 h).2
    rw [← h3, List.getElem_cons_drop, List.take_append_drop]
  conv => rhs; rw [e, its_app, tot_app]
  show _ ≤ _ + (isz kind x.it + _)
  omega
theorem bdy_take {kind k : Nat} {l : List IV} {x : IV} (h : l[k]? = some x) : bdy kind (its (l.take (k + 1))) = bdy kind (its (l.take k)) ++ itb kind x.it := by
  rw [List.take_add_one, h, its_app, bdy_app]; simp [its, bdy]
theorem hd_set (kd n : Nat) : ((zs []).set 4 (UInt8.ofNat kd)).set 5 (UInt8.ofNat n) = zs (hd kd n) := by
  rw [zs_zero]
  have e1 := zs_set (H := [0, 0, 0, 0]) (by simp) (UInt8.ofNat kd)
  have e2 := zs_set (H := [0, 0, 0, 0, UInt8.ofNat kd]) (by simp) (UInt8.ofNat n)
  simp only [List.length_cons, List.length_nil] at e1 e2
  rw [e1]
  exact e2
theorem hdr_set2 {H : List UInt8} {a : Nat} {u v : UInt8} (h : H.length = a) (ha : a + 2 ≤ 256) : ((zs H).set a u).set (a + 1) v = zs (H ++ [u, v]) := by
  subst h
  rw [zs_set (by omega), show H.length + 1 = (H ++ [u]).length by simp, zs_set (by simp; omega)]; simp
theorem hdr_set3 {H : List UInt8} {a : Nat} {u v z : UInt8} (h : H.length = a) (ha : a + 3 ≤ 256) : (((zs H).set a u).set (a + 1) v).set (a + 2) z = zs (H ++ [u, v, z]) := by
  rw [hdr_set2 h (by omega)]
  subst h
  rw [show H.length + 2 = (H ++ [u, v]).length by simp, zs_set (by simp; omega)]; simp
theorem Rd.src {w : World} {n c : Nat} {A : Option Addr} {l : List UInt8} (h : Rd w 1 A n c (bv l)) (hn : 0 < n) : ∃ ad, A = some ad ∧ ∀ j v, (bv l)[j]? = some v → w.cell? (ad.add j) = some v := by
  obtain ⟨g, o, e, _, hc⟩ := h.at_ hn
  refine ⟨_, e, fun j v hv => ?_⟩
  rw [addr_add, hc j (by have := (List.getElem?_eq_some_iff.1 hv).1; rw [h.len] at this; exact this), hv]
theorem u8_mod (n : Nat) : ((UInt8.ofNat n).toNat : Int) = (n : Int) % 256 := by simp
theorem its_mem {l : List IV} {x : IV} (h : x ∈ l) : x.it ∈ its l := List.mem_map.2 ⟨x, h, rfl⟩
theorem bdy_tk {kind k : Nat} {l : List IV} (h : ∀ x ∈ its l, ItOk kind x) : (bdy kind (its (l.take k))).length = tot kind (its (l.take k)) :=
  bdy_len kind fun x hx => h x (by
    obtain ⟨y, hy, rfl⟩ := List.mem_map.1 hx
    exact its_mem (List.mem_of_mem_take hy))
/-- The end of encode: the sum. -/
theorem enc_end {kd n : Nat} {l : List It} (hn : n = l.length) (h : ∀ x ∈ l, ItOk kd x) (ht : tot kd l ≤ 250) :
    (zs (hd kd n ++ bdy kd l)).drop 4 = rst kd l ∧ ∀ a b c d : UInt8, ((((zs (hd kd n ++ bdy kd l)).set 0 a).set 1 b).set 2 c).set 3 d = [a, b, c, d] ++ rst kd l := by
  have hb := bdy_len kd h
  have e : zs (hd kd n ++ bdy kd l) = [0, 0, 0, 0] ++ rst kd l := by
    subst hn
    simp [zs, hd, rst, hb]
  rw [e]
  exact ⟨rfl, fun a b c d => rfl⟩
set_option maxRecDepth 1000000 in
set_option maxHeartbeats 6400000 in
theorem encode_1 {A : Option Addr} {n c : Nat} {l : List IV} (w : World) (h : Hid (Rd w 3 A n c (ic l))) (hd1 : Hid (∀ x ∈ l, Rd w 1 x.kA x.k.length x.kc (bv x.k) ∧ Rd w 1 x.vA x.v.length x.vc (bv x.v)))
    (hl : Hid (∀ x ∈ its l, ItOk 1 x)) (ht : Hid (tot 1 (its l) ≤ 250)) (hn : n ≤ 250) :
    Calls Tryz.prog 121 #[.int .i64 1, .slice A n c] w (EncPost w 1 l) := by
  have hc := h.out.nc
  have hc2 := h.out.c63
  have hln := Lib.hid (len3 h.out)
  obtain ⟨j0, hj, hy0, hy1, hy2⟩ := info_parts info_u8
  have hsz : (Tryz.prog.info? 5).map (·.size) = some 1 := by rw [hj]; simp [hy1]
  go_enter Tryz.func121, Tryz.ntmps121
  obtain ⟨P, hP⟩ : ∃ P, w.heap.size = P := ⟨_, rfl⟩
  have hmk : (madeCells (Value.int .u8 0).cells (256 * 1)).toList = bv (zs []) := cells_zero
  go_wp2_with (at_make; refine wpList_make_full w rfl _ _ 30 rfl w.heap.size 5 j0 (.int .u8 0) 1 Tryz.underlying30 hj hy0 hy1 .i64 .i64 256 256 256 (by rfl) (by rfl) rfl rfl (by omega) (by decide) (by omega) ?_; rw [hmk, hP]; intro w1 own1 gr1; have R1 : Hid (Row w1 P (zs [])) := Lib.hid ⟨own_heap own1⟩; have B1 : Below P w w1 := hP ▸ ⟨gr1.os, gr1.tape, gr1.output, gr1.size, fun q hq => gr1.block q hq (by simp)⟩; have c4 := R1.out.cell (zs_get (H := []) (j := 4) (by simp) (by omega)); have c5 := R1.out.cell (zs_get (H := []) (j := 5) (by simp) (by omega)); have f4 := R1.out.fz 4; have f5 := R1.out.fz 5; clear own1 gr1 hmk)
  have R2 := (R1.out.set 4 (z := 1) (u := UInt8.ofNat 1) rfl).set 5 (z := n) (u := UInt8.ofNat n) (u8_lit (by omega)).symm
  rw [hd_set] at R2
  have R2 := Lib.hid R2
  have B2 := Lib.hid (Below.setCell (Below.setCell B1 (p := ⟨P, 4, none⟩) (Nat.le_refl _) (.int .u8 1)) (p := ⟨P, 5, none⟩) (Nat.le_refl _) (.int .u8 (n : Int)))
  go_loopw [6, 22] (fun av iv wr => ∃ k : Nat, k ≤ n ∧ iv = .int .i64 k ∧ av = .int .i64 ((6 + tot 1 (its (l.take k)) : Nat) : Int) ∧ Hid (Row wr P (zs (hd 1 n ++ bdy 1 (its (l.take k))))) ∧ Hid (Below P w wr)) (fun _ i _ => (n - intOf i).toNat)
  case atStart => exact ⟨0, by omega, rfl, rfl, R2, B2⟩
  case round =>
    clear c4 c5 f4 f5
    obtain ⟨k, hk, rfl, rfl, R3, B3⟩ := hrel
    have z3 := B3.out.size
    have PL := R3.out.lt
    have TL := bdy_tk (k := k) hl.out
    by_cases hlt : k < n
    · obtain ⟨g, o, x, rfl, hg, hx, x0, x1, x2⟩ := Rd.item (h.out.below (hP ▸ B3.out)) hlt
      have xm := List.mem_of_getElem? hx
      have xo := hl.out _ (its_mem xm)
      have TT := tot_lt (kind := 1) hx
      have TN := tot_take (kind := 1) hx
      have BN := bdy_take (kind := 1) hx
      have hto := ht.out
      obtain ⟨t, htt⟩ : ∃ t, tot 1 (its (l.take k)) = t := ⟨_, rfl⟩
      obtain ⟨H, hH⟩ : ∃ H, hd 1 n ++ bdy 1 (its (l.take k)) = H := ⟨_, rfl⟩
      have HL : H.length = 6 + t := by rw [← hH, List.length_append, TL, htt]; rfl
      have HN : hd 1 n ++ bdy 1 (its (l.take (k + 1))) = H ++ itb 1 x.it := by rw [BN, ← List.append_assoc, hH]
      rw [htt] at TT TN ⊢
      rw [hH] at R3
      have k1 := xo.k1
      have k2 := xo.k2
      have v2 := xo.v2
      simp only [IV.it] at k1 k2 v2
      have IS : isz 1 x.it = 2 + x.k.length + x.v.length := rfl
      rw [IS] at TT TN
      simp only [IV.kv, IV.vv] at x0 x1 x2
      have HN := Lib.hid HN
      have TN := Lib.hid TN
      have hne : ∀ q, blk x.kA = some q → q ≠ P := by
        intro q e
        obtain ⟨u, v, e1, e2, _⟩ := (hd1.out x xm).1.at_ (by omega)
        rw [e1] at e; simp [blk] at e; omega
      have hne2 : ∀ q, 0 < x.v.length → blk x.vA = some q → q ≠ P := by
        intro q hq e
        obtain ⟨u, v, e1, e2, _⟩ := (hd1.out x xm).2.at_ hq
        rw [e1] at e; simp [blk] at e; omega
      have XK := Lib.hid ((hd1.out x xm).1.below (hP ▸ B3.out))
      have XV := Lib.hid ((hd1.out x xm).2.below (hP ▸ B3.out))
      clear TL BN htt hH IS xm xo hx
      obtain ⟨a, ha⟩ : ∃ a, 6 + t = a := ⟨_, rfl⟩
      rw [ha] at HL ⊢
      have ha256 : a + 2 + x.k.length + x.v.length ≤ 256 := by omega
      obtain ⟨X, hX⟩ : ∃ X, wr.heap.size = X := ⟨_, rfl⟩
      have DX := Bx.put wr hX #[.slice x.kA x.k.length x.kc, .slice x.vA x.v.length x.vc, .int .i64 (x.ch : Int)] 96
      have bx := bal wr (.cells #[.slice x.kA x.k.length x.kc, .slice x.vA x.v.length x.vc, .int .i64 (x.ch : Int)] 96)
      have RX := Lib.hid (R3.out.step bx)
      have PX : P < X := by omega
      have B4 := Lib.hid (B3.out.trans (bx.mono (by omega)))
      have y0 := DX.at_ 0 (by simp)
      have y1 := DX.at_ 1 (by simp)
      have y2 := DX.at_ 2 (by simp)
      have hw1 : IntKind.i64.wrap ((a : Int) + 1) = (a : Int) + 1 := IntWalk.i64_in _ (by omega)
      have hw2 : IntKind.i64.wrap ((a : Int) + 2) = (a : Int) + 2 := IntWalk.i64_in _ (by omega)
      obtain ⟨W, hW⟩ : ∃ W, wr.alloc (.cells #[.slice x.kA x.k.length x.kc, .slice x.vA x.v.length x.vc, .int .i64 (x.ch : Int)] 96) = W := ⟨_, rfl⟩
      rw [hW] at DX RX B4 y0 y1 y2
      have p0 := RX.out.cell (zs_get (H := H) (j := a) (by omega) (by omega))
      have p1 := RX.out.cell (zs_get (H := H) (j := a + 1) (by omega) (by omega))
      have q0 := RX.out.fz a
      have q1 := RX.out.fz (a + 1)
      have W1 : W.heap.size = X + 1 := by rw [← hW]; simp [hX]
      clear bx
      have HW := Lib.hid hW
      clear hW
      go_wp2_with fail
      rw [HW.out]
      go_region
      obtain ⟨W5, hW5⟩ : ∃ V, ((W.setCell ⟨P, a, none⟩ (.int .u8 (x.k.length : Int))).setCell ⟨P, a + 1, none⟩ (.int .u8 (x.v.length : Int))).drew = V := ⟨_, rfl⟩
      have R5 : Hid (Row W5 P (zs (H ++ [UInt8.ofNat x.k.length, UInt8.ofNat x.v.length]))) := hW5 ▸ Lib.hid (by rw [← hdr_set2 HL (by omega)]; exact ((RX.out.set a (u8_lit (by omega)).symm).set (a + 1) (u8_lit (by omega)).symm).drewN 1)
      have K5 : Hid (Kp W W5 (· = P)) := hW5 ▸ Lib.hid (((Kp.of_set (X := fun i => i = P) W ⟨P, a, none⟩ _ rfl).trans (Kp.of_set (X := fun i => i = P) _ ⟨P, a + 1, none⟩ _ rfl) fun _ _ h => h).trans (Kp.drewN _ 1 fun _ => False) fun _ _ h => h.elim)
      have DX5 := DX.kp K5.out (by omega)
      have B5 : Hid (Below P w W5) := Lib.hid (B4.out.trans (K5.out.low (B := P) (by omega) fun _ e => by omega))
      have z5 : W5.heap.size = X + 1 := by rw [← hW5]; show (World.setCell _ _ _).heap.size = _; simp [W1]
      have XK5 := Lib.hid (Rd.kp (XK.out.below (HW.out ▸ bal wr _)) K5.out (fun q _ e h => hne q e h))
      rw [hW5]
      clear hW5 p0 p1 q0 q1 y0 y1 y2
      have y0 := DX5.at_ 0 (by simp)
      have h256 : ¬ 256 = a + 2 := by omega
      have s0 : (0 : Int) ≤ (a : Int) + 2 := by omega
      have s1 : (a : Int) + 2 ≤ 256 := by omega
      have s2 : ((a : Int) + 2).toNat = a + 2 := by omega
      have bl := bv_len x.k
      have n1 : Hid ((bv x.k).length = Nat.min x.k.length (256 - (a + 2))) := by rw [bv_len]; exact Lib.hid (Nat.min_eq_left (by omega)).symm
      have f1 : Hid (a + 2 + (bv x.k).length ≤ (bv (zs (H ++ [UInt8.ofNat x.k.length, UInt8.ofNat x.v.length]))).length) := by rw [bv_len, bv_len, zs_len (by simp; omega)]; exact Lib.hid (by omega)
      have p1 : Hid (∃ ad, x.kA = some ad ∧ ∀ j v, (bv x.k)[j]? = some v → W5.drew.cell? (ad.add j) = some v) := Lib.hid (Rd.src (Rd.drew XK5.out) (by omega))
      go_wp2_with fail
      go_region_law (refine step_copy_kp rfl (.tmp 72) (.tmp 74) 30 30 rfl 5 Tryz.underlying30 hsz (some ⟨P, a + 2, none⟩) x.kA (256 - (a + 2)) (256 - (a + 2)) x.k.length x.kc (by simp [Act.eval, Act.put]) (by simp [Act.eval, Act.put]) P (a + 2) (bv (zs (H ++ [UInt8.ofNat x.k.length, UInt8.ofNat x.v.length]))) 5 R5.out.h (bv x.k) n1.out (fun _ => ⟨rfl, p1.out⟩) f1.out (bv_one _) ?_; intro w6 HR6 HK6)
      have R6 : Hid (Row w6 P (zs (H ++ [UInt8.ofNat x.k.length, UInt8.ofNat x.v.length] ++ x.k))) := Lib.hid ⟨by have := HR6.out; rwa [← bv_splice, zs_splice' (by simp [HL]) (by simp; omega)] at this⟩
      have DX6 := (DX5.drewN 1).kp HK6.out (by omega)
      have B6 : Hid (Below P w w6) := Lib.hid ((bdrewN (n := 1) B5.out).trans (HK6.out.low (B := P) (by have := PX; show P ≤ W5.heap.size; omega) fun _ e => by omega))
      have z6 : X < w6.heap.size := DX6.lt
      have XV6 := Lib.hid (Rd.kp (Rd.drew (Rd.kp (XV.out.below (HW.out ▸ bal wr _)) K5.out (fun q hq e h => hne2 q hq e h))) HK6.out (fun q hq e h => hne2 q hq e h))
      clear HR6 HK6 p1 n1 f1 y0 h256 s0 s1 s2 bl R5 B5 XK5 DX5
      have y1 := DX6.at_ 1 (by simp)
      obtain ⟨b, hb⟩ : ∃ b, a + 2 + x.k.length = b := ⟨_, rfl⟩
      have hbv : b + x.v.length ≤ 256 := by omega
      have hbi : IntKind.i64.wrap ((a : Int) + 2 + (x.k.length : Int)) = (b : Int) := by rw [← hb]; rw [IntWalk.i64_in _ (by omega)]; omega
      have s0 : (0 : Int) ≤ (b : Int) := by omega
      have s1 : (b : Int) ≤ 256 := by omega
      have s2 : ((b : Int)).toNat = b := by omega
      have n2 : Hid ((bv x.v).length = Nat.min x.v.length (256 - b)) := by rw [bv_len]; exact Lib.hid (Nat.min_eq_left (by omega)).symm
      have f2 : Hid (b + (bv x.v).length ≤ (bv (zs (H ++ [UInt8.ofNat x.k.length, UInt8.ofNat x.v.length] ++ x.k))).length) := by rw [bv_len, bv_len, zs_len (by simp; omega)]; exact Lib.hid (by omega)
      have p2 : Hid (x.v.length ≠ 0 → ∃ ad, x.vA = some ad ∧ ∀ j v, (bv x.v)[j]? = some v → w6.drew.cell? (ad.add j) = some v) := Lib.hid fun h => Rd.src (Rd.drew XV6.out) (by omega)
      have bl := bv_len x.v
      have lv0 : Hid ((bv x.v).length = x.v.length) := Lib.hid (bv_len _)
      by_cases h256 : 256 = b
      · subst h256
        have vz : Hid (x.v.length = 0) := Lib.hid (by omega)
        have n3 : Hid ((bv x.v).length = Nat.min x.v.length 0) := by rw [bv_len, vz.out]; exact Lib.hid rfl
        have hci : IntKind.i64.wrap ((256 : Int) + (x.v.length : Int)) = (256 : Int) + (x.v.length : Int) := IntWalk.i64_in _ (by omega)
        go_wp2_with fail
        go_region_law (refine step_copy_kp rfl (.tmp 80) (.tmp 82) 30 30 rfl 5 Tryz.underlying30 hsz (some ⟨P, 0, none⟩) x.vA 0 0 x.v.length x.vc (by simp [Act.eval, Act.put]) (by simp [Act.eval, Act.put]) P 256 (bv (zs (H ++ [UInt8.ofNat x.k.length, UInt8.ofNat x.v.length] ++ x.k))) 5 R6.out.h (bv x.v) n3.out (fun h => by rw [lv0.out, vz.out] at h; omega) f2.out (bv_one _) ?_; intro w7 HR7 HK7)
        have R7 : Hid (Row w7 P (zs (H ++ itb 1 x.it))) := Lib.hid ⟨by have := HR7.out; rwa [← bv_splice, zs_splice' (by simp; omega) (by simp; omega), show H ++ [UInt8.ofNat x.k.length, UInt8.ofNat x.v.length] ++ x.k ++ x.v = H ++ itb 1 x.it from by simp [itb, hdr, IV.it]] at this⟩
        have B7 : Hid (Below P w w7) := Lib.hid ((bdrewN (n := 1) B6.out).trans (HK7.out.low (B := P) (by show P ≤ w6.heap.size; omega) fun _ e => by omega))
        clear HR7 HK7
        go_wp2_with fail
        go_roundw
        case rel => exact ⟨k + 1, by omega, by go_num, by rw [TN.out]; congr 1; omega, by rw [HN.out]; exact R7, B7⟩
        case measure => simp [intOf]; omega
      · have hci : IntKind.i64.wrap ((b : Int) + (x.v.length : Int)) = (b : Int) + (x.v.length : Int) := IntWalk.i64_in _ (by omega)
        go_wp2_with fail
        go_region_law (refine step_copy_kp rfl (.tmp 80) (.tmp 82) 30 30 rfl 5 Tryz.underlying30 hsz (some ⟨P, b, none⟩) x.vA (256 - b) (256 - b) x.v.length x.vc (by simp [Act.eval, Act.put]) (by simp [Act.eval, Act.put]) P b (bv (zs (H ++ [UInt8.ofNat x.k.length, UInt8.ofNat x.v.length] ++ x.k))) 5 R6.out.h (bv x.v) n2.out (fun h => ⟨rfl, p2.out (by rw [lv0.out] at h; omega)⟩) f2.out (bv_one _) ?_; intro w7 HR7 HK7)
        have R7 : Hid (Row w7 P (zs (H ++ itb 1 x.it))) := Lib.hid ⟨by have := HR7.out; rwa [← bv_splice, zs_splice' (by simp; omega) (by simp; omega), show H ++ [UInt8.ofNat x.k.length, UInt8.ofNat x.v.length] ++ x.k ++ x.v = H ++ itb 1 x.it from by simp [itb, hdr, IV.it]] at this⟩
        have B7 : Hid (Below P w w7) := Lib.hid ((bdrewN (n := 1) B6.out).trans (HK7.out.low (B := P) (by show P ≤ w6.heap.size; omega) fun _ e => by omega))
        clear HR7 HK7
        go_wp2_with fail
        go_roundw
        case rel => exact ⟨k + 1, by omega, by go_num, by rw [TN.out]; congr 1; omega, by rw [HN.out]; exact R7, B7⟩
        case measure => simp [intOf]; omega
    · obtain rfl : k = n := by omega
      have RZ := R3.out
      rw [List.take_of_length_le (by have := hln.out; omega)] at RZ ⊢
      obtain ⟨E1, E2⟩ := enc_end (kd := 1) (n := k) (l := its l) (by rw [its_len]; exact hln.out) hl.out ht.out
      have LZ : (zs (hd 1 k ++ bdy 1 (its l))).length = 256 := zs_len (by have := bdy_len 1 hl.out; have := ht.out; simp [hd]; omega)
      have RR := Lib.hid (RZ.rd (n := 256) LZ.symm (by omega))
      obtain ⟨C, hC⟩ : ∃ C, zs (hd 1 k ++ bdy 1 (its l)) = C := ⟨_, rfl⟩
      rw [hC] at RZ LZ RR E1 E2
      have RZ := Lib.hid RZ
      have RD : Hid (Rd wr 1 (some ⟨P, 4, none⟩) 252 252 (bv (rst 1 (its l)))) := by rw [← E1]; exact Lib.hid (RR.out.tail (lo := 4) (by omega))
      have RL : Hid (252 = (rst 1 (its l)).length) := by rw [← E1, List.length_drop, LZ]; exact Lib.hid rfl
      clear E1 hC
      obtain ⟨cr, hcr⟩ : ∃ cr, crc (rst 1 (its l)) = cr := ⟨_, rfl⟩
      have cl := crc_lt (rst 1 (its l))
      rw [hcr] at cl
      have HCR := Lib.hid hcr
      clear hcr
      have b0 := RZ.out.cell (j := 0) (List.getElem?_eq_getElem (by omega))
      have b1 := RZ.out.cell (j := 1) (List.getElem?_eq_getElem (by omega))
      have b2 := RZ.out.cell (j := 2) (List.getElem?_eq_getElem (by omega))
      have b3 := RZ.out.cell (j := 3) (List.getElem?_eq_getElem (by omega))
      have f0 := RZ.out.fz 0
      have f1 := RZ.out.fz 1
      have f2 := RZ.out.fz 2
      have f3 := RZ.out.fz 3
      go_wp2_with fail
      go_at_call 112
      refine (Sum_any _ RL RD).mono ?_
      rw [HCR.out]
      rintro e w1 ⟨rfl, rfl⟩
      have g0 : (cr : Int) / 16777216 = ((UInt8.ofNat (cr / 256 ^ 3)).toNat : Int) := by rw [u8_mod]; omega
      have g1 : (cr : Int) / 65536 % 256 = ((UInt8.ofNat (cr / 256 ^ 2)).toNat : Int) := by rw [u8_mod]; omega
      have g2 : (cr : Int) / 256 % 256 = ((UInt8.ofNat (cr / 256 ^ 1)).toNat : Int) := by rw [u8_mod]; omega
      have g3 : (cr : Int) % 256 = ((UInt8.ofNat (cr / 256 ^ 0)).toNat : Int) := by rw [u8_mod]; omega
      have R9 := (((RZ.out.set 0 g0).set 1 g1).set 2 g2).set 3 g3
      rw [E2] at R9
      have EE : enc 1 (its l) = [UInt8.ofNat (cr / 256 ^ 3), UInt8.ofNat (cr / 256 ^ 2), UInt8.ofNat (cr / 256 ^ 1), UInt8.ofNat (cr / 256 ^ 0)] ++ rst 1 (its l) := by unfold enc; rw [HCR.out]; rfl
      rw [← EE] at R9
      have R9 := Lib.hid R9
      have B9 := Lib.hid ((((Below.setCell B3.out (p := ⟨P, 0, none⟩) (Nat.le_refl _) (.int .u8 ((cr : Int) / 16777216))).setCell (p := ⟨P, 1, none⟩) (Nat.le_refl _) (.int .u8 ((cr : Int) / 65536 % 256))).setCell (p := ⟨P, 2, none⟩) (Nat.le_refl _) (.int .u8 ((cr : Int) / 256 % 256))).setCell (p := ⟨P, 3, none⟩) (Nat.le_refl _) (.int .u8 ((cr : Int) % 256)))
      clear g0 g1 g2 g3 E2 EE
      go_wp2_with fail
      exact bodyPost_ret (v := .slice (some ⟨P, 0, none⟩) 256 256) (by simp [results, Tryz.results121, go_sem]) rfl ⟨by rw [hP], by rw [hP]; exact R9, by rw [hP]; exact B9.out⟩
set_option maxRecDepth 1000000 in
set_option maxHeartbeats 6400000 in
theorem encode_2 {A : Option Addr} {n c : Nat} {l : List IV} (w : World) (h : Hid (Rd w 3 A n c (ic l))) (hd1 : Hid (∀ x ∈ l, Rd w 1 x.kA x.k.length x.kc (bv x.k) ∧ Rd w 1 x.vA x.v.length x.vc (bv x.v)))
    (hl : Hid (∀ x ∈ its l, ItOk 2 x)) (ht : Hid (tot 2 (its l) ≤ 250)) (hn : n ≤ 250) :
    Calls Tryz.prog 121 #[.int .i64 2, .slice A n c] w (EncPost w 2 l) := by
  have hc := h.out.nc
  have hc2 := h.out.c63
  have hln := Lib.hid (len3 h.out)
  obtain ⟨j0, hj, hy0, hy1, hy2⟩ := info_parts info_u8
  have hsz : (Tryz.prog.info? 5).map (·.size) = some 1 := by rw [hj]; simp [hy1]
  go_enter Tryz.func121, Tryz.ntmps121
  obtain ⟨P, hP⟩ : ∃ P, w.heap.size = P := ⟨_, rfl⟩
  have hmk : (madeCells (Value.int .u8 0).cells (256 * 1)).toList = bv (zs []) := cells_zero
  go_wp2_with (at_make; refine wpList_make_full w rfl _ _ 30 rfl w.heap.size 5 j0 (.int .u8 0) 1 Tryz.underlying30 hj hy0 hy1 .i64 .i64 256 256 256 (by rfl) (by rfl) rfl rfl (by omega) (by decide) (by omega) ?_; rw [hmk, hP]; intro w1 own1 gr1; have R1 : Hid (Row w1 P (zs [])) := Lib.hid ⟨own_heap own1⟩; have B1 : Below P w w1 := hP ▸ ⟨gr1.os, gr1.tape, gr1.output, gr1.size, fun q hq => gr1.block q hq (by simp)⟩; have c4 := R1.out.cell (zs_get (H := []) (j := 4) (by simp) (by omega)); have c5 := R1.out.cell (zs_get (H := []) (j := 5) (by simp) (by omega)); have f4 := R1.out.fz 4; have f5 := R1.out.fz 5; clear own1 gr1 hmk)
  have R2 := (R1.out.set 4 (z := 2) (u := UInt8.ofNat 2) rfl).set 5 (z := n) (u := UInt8.ofNat n) (u8_lit (by omega)).symm
  rw [hd_set] at R2
  have R2 := Lib.hid R2
  have B2 := Lib.hid (Below.setCell (Below.setCell B1 (p := ⟨P, 4, none⟩) (Nat.le_refl _) (.int .u8 2)) (p := ⟨P, 5, none⟩) (Nat.le_refl _) (.int .u8 (n : Int)))
  go_loopw [6, 22] (fun av iv wr => ∃ k : Nat, k ≤ n ∧ iv = .int .i64 k ∧ av = .int .i64 ((6 + tot 2 (its (l.take k)) : Nat) : Int) ∧ Hid (Row wr P (zs (hd 2 n ++ bdy 2 (its (l.take k))))) ∧ Hid (Below P w wr)) (fun _ i _ => (n - intOf i).toNat)
  case atStart => exact ⟨0, by omega, rfl, rfl, R2, B2⟩
  case round =>
    clear c4 c5 f4 f5
    obtain ⟨k, hk, rfl, rfl, R3, B3⟩ := hrel
    have z3 := B3.out.size
    have PL := R3.out.lt
    have TL := bdy_tk (k := k) hl.out
    by_cases hlt : k < n
    · obtain ⟨g, o, x, rfl, hg, hx, x0, x1, x2⟩ := Rd.item (h.out.below (hP ▸ B3.out)) hlt
      have xm := List.mem_of_getElem? hx
      have xo := hl.out _ (its_mem xm)
      have TT := tot_lt (kind := 2) hx
      have TN := tot_take (kind := 2) hx
      have BN := bdy_take (kind := 2) hx
      have hto := ht.out
      obtain ⟨t, htt⟩ : ∃ t, tot 2 (its (l.take k)) = t := ⟨_, rfl⟩
      obtain ⟨H, hH⟩ : ∃ H, hd 2 n ++ bdy 2 (its (l.take k)) = H := ⟨_, rfl⟩
      have HL : H.length = 6 + t := by rw [← hH, List.length_append, TL, htt]; rfl
      have HN : hd 2 n ++ bdy 2 (its (l.take (k + 1))) = H ++ itb 2 x.it := by rw [BN, ← List.append_assoc, hH]
      rw [htt] at TT TN ⊢
      rw [hH] at R3
      obtain ⟨fv, fc⟩ := xo.fk (by omega)
      simp only [IV.it] at fv fc
      have FV : Hid (x.v.length = 0) := Lib.hid (by rw [fv]; rfl)
      clear fv
      have k1 := xo.k1
      have k2 := xo.k2
      have v2 := xo.v2
      simp only [IV.it] at k1 k2 v2
      have IS : isz 2 x.it = 3 + x.k.length := rfl
      rw [IS] at TT TN
      simp only [IV.kv, IV.vv] at x0 x1 x2
      have HN := Lib.hid HN
      have TN := Lib.hid TN
      have hne : ∀ q, blk x.kA = some q → q ≠ P := by
        intro q e
        obtain ⟨u, v, e1, e2, _⟩ := (hd1.out x xm).1.at_ (by omega)
        rw [e1] at e; simp [blk] at e; omega
      have hne2 : ∀ q, 0 < x.v.length → blk x.vA = some q → q ≠ P := by
        intro q hq e
        obtain ⟨u, v, e1, e2, _⟩ := (hd1.out x xm).2.at_ hq
        rw [e1] at e; simp [blk] at e; omega
      have XK := Lib.hid ((hd1.out x xm).1.below (hP ▸ B3.out))
      have XV := Lib.hid ((hd1.out x xm).2.below (hP ▸ B3.out))
      clear TL BN htt hH IS xm xo hx
      obtain ⟨a, ha⟩ : ∃ a, 6 + t = a := ⟨_, rfl⟩
      rw [ha] at HL ⊢
      have ha256 : a + 3 + x.k.length ≤ 256 := by omega
      obtain ⟨X, hX⟩ : ∃ X, wr.heap.size = X := ⟨_, rfl⟩
      have DX := Bx.put wr hX #[.slice x.kA x.k.length x.kc, .slice x.vA x.v.length x.vc, .int .i64 (x.ch : Int)] 96
      have bx := bal wr (.cells #[.slice x.kA x.k.length x.kc, .slice x.vA x.v.length x.vc, .int .i64 (x.ch : Int)] 96)
      have RX := Lib.hid (R3.out.step bx)
      have PX : P < X := by omega
      have B4 := Lib.hid (B3.out.trans (bx.mono (by omega)))
      have y0 := DX.at_ 0 (by simp)
      have y1 := DX.at_ 1 (by simp)
      have y2 := DX.at_ 2 (by simp)
      have hw1 : IntKind.i64.wrap ((a : Int) + 1) = (a : Int) + 1 := IntWalk.i64_in _ (by omega)
      have hw2 : IntKind.i64.wrap ((a : Int) + 2) = (a : Int) + 2 := IntWalk.i64_in _ (by omega)
      obtain ⟨W, hW⟩ : ∃ W, wr.alloc (.cells #[.slice x.kA x.k.length x.kc, .slice x.vA x.v.length x.vc, .int .i64 (x.ch : Int)] 96) = W := ⟨_, rfl⟩
      rw [hW] at DX RX B4 y0 y1 y2
      have p0 := RX.out.cell (zs_get (H := H) (j := a) (by omega) (by omega))
      have p1 := RX.out.cell (zs_get (H := H) (j := a + 1) (by omega) (by omega))
      have q0 := RX.out.fz a
      have q1 := RX.out.fz (a + 1)
      have p2 := RX.out.cell (zs_get (H := H) (j := a + 2) (by omega) (by omega))
      have q2 := RX.out.fz (a + 2)
      have W1 : W.heap.size = X + 1 := by rw [← hW]; simp [hX]
      clear bx
      have HW := Lib.hid hW
      clear hW
      go_wp2_with fail
      rw [HW.out]
      go_region
      obtain ⟨W5, hW5⟩ : ∃ V, (((W.setCell ⟨P, a, none⟩ (.int .u8 ((x.ch : Int) / 256))).setCell ⟨P, a + 1, none⟩ (.int .u8 ((x.ch : Int) % 256))).setCell ⟨P, a + 2, none⟩ (.int .u8 (x.k.length : Int))).drew = V := ⟨_, rfl⟩
      have R5 : Hid (Row W5 P (zs (H ++ [UInt8.ofNat (x.ch / 256), UInt8.ofNat x.ch, UInt8.ofNat x.k.length]))) := hW5 ▸ Lib.hid (by rw [← hdr_set3 HL (by omega)]; exact (((RX.out.set a (show (x.ch : Int) / 256 = _ by rw [u8_mod]; omega)).set (a + 1) (u8_mod _).symm).set (a + 2) (u8_lit (by omega)).symm).drewN 1)
      have K5 : Hid (Kp W W5 (· = P)) := hW5 ▸ Lib.hid ((((Kp.of_set (X := fun i => i = P) W ⟨P, a, none⟩ _ rfl).trans (Kp.of_set (X := fun i => i = P) _ ⟨P, a + 1, none⟩ _ rfl) fun _ _ h => h).trans (Kp.of_set (X := fun i => i = P) _ ⟨P, a + 2, none⟩ _ rfl) fun _ _ h => h).trans (Kp.drewN _ 1 fun _ => False) fun _ _ h => h.elim)
      have DX5 := DX.kp K5.out (by omega)
      have B5 : Hid (Below P w W5) := Lib.hid (B4.out.trans (K5.out.low (B := P) (by omega) fun _ e => by omega))
      have z5 : W5.heap.size = X + 1 := by rw [← hW5]; show (World.setCell _ _ _).heap.size = _; simp [W1]
      have XK5 := Lib.hid (Rd.kp (XK.out.below (HW.out ▸ bal wr _)) K5.out (fun q _ e h => hne q e h))
      rw [hW5]
      clear hW5 p0 p1 q0 q1 y0 y1 y2 p2 q2
      have y0 := DX5.at_ 0 (by simp)
      have h256 : ¬ 256 = a + 3 := by omega
      have s0 : (0 : Int) ≤ (a : Int) + 3 := by omega
      have s1 : (a : Int) + 3 ≤ 256 := by omega
      have s2 : ((a : Int) + 3).toNat = a + 3 := by omega
      have bl := bv_len x.k
      have n1 : Hid ((bv x.k).length = Nat.min x.k.length (256 - (a + 3))) := by rw [bv_len]; exact Lib.hid (Nat.min_eq_left (by omega)).symm
      have f1 : Hid (a + 3 + (bv x.k).length ≤ (bv (zs (H ++ [UInt8.ofNat (x.ch / 256), UInt8.ofNat x.ch, UInt8.ofNat x.k.length]))).length) := by rw [bv_len, bv_len, zs_len (by simp; omega)]; exact Lib.hid (by omega)
      have p1 : Hid (∃ ad, x.kA = some ad ∧ ∀ j v, (bv x.k)[j]? = some v → W5.drew.cell? (ad.add j) = some v) := Lib.hid (Rd.src (Rd.drew XK5.out) (by omega))
      go_wp2_with fail
      go_region_law (refine step_copy_kp rfl (.tmp 72) (.tmp 74) 30 30 rfl 5 Tryz.underlying30 hsz (some ⟨P, a + 3, none⟩) x.kA (256 - (a + 3)) (256 - (a + 3)) x.k.length x.kc (by simp [Act.eval, Act.put]) (by simp [Act.eval, Act.put]) P (a + 3) (bv (zs (H ++ [UInt8.ofNat (x.ch / 256), UInt8.ofNat x.ch, UInt8.ofNat x.k.length]))) 5 R5.out.h (bv x.k) n1.out (fun _ => ⟨rfl, p1.out⟩) f1.out (bv_one _) ?_; intro w6 HR6 HK6)
      have R6 : Hid (Row w6 P (zs (H ++ [UInt8.ofNat (x.ch / 256), UInt8.ofNat x.ch, UInt8.ofNat x.k.length] ++ x.k))) := Lib.hid ⟨by have := HR6.out; rwa [← bv_splice, zs_splice' (by simp [HL]) (by simp; omega)] at this⟩
      have DX6 := (DX5.drewN 1).kp HK6.out (by omega)
      have B6 : Hid (Below P w w6) := Lib.hid ((bdrewN (n := 1) B5.out).trans (HK6.out.low (B := P) (by have := PX; show P ≤ W5.heap.size; omega) fun _ e => by omega))
      have z6 : X < w6.heap.size := DX6.lt
      have XV6 := Lib.hid (Rd.kp (Rd.drew (Rd.kp (XV.out.below (HW.out ▸ bal wr _)) K5.out (fun q hq e h => hne2 q hq e h))) HK6.out (fun q hq e h => hne2 q hq e h))
      clear HR6 HK6 p1 n1 f1 y0 h256 s0 s1 s2 bl R5 B5 XK5 DX5
      have y1 := DX6.at_ 1 (by simp)
      obtain ⟨b, hb⟩ : ∃ b, a + 3 + x.k.length = b := ⟨_, rfl⟩
      have hbv : b + x.v.length ≤ 256 := by have vz0 := FV.out; omega
      have hbi : IntKind.i64.wrap ((a : Int) + 3 + (x.k.length : Int)) = (b : Int) := by rw [← hb]; rw [IntWalk.i64_in _ (by omega)]; omega
      have s0 : (0 : Int) ≤ (b : Int) := by omega
      have s1 : (b : Int) ≤ 256 := by omega
      have s2 : ((b : Int)).toNat = b := by omega
      have n2 : Hid ((bv x.v).length = Nat.min x.v.length (256 - b)) := by rw [bv_len]; exact Lib.hid (Nat.min_eq_left (by omega)).symm
      have f2 : Hid (b + (bv x.v).length ≤ (bv (zs (H ++ [UInt8.ofNat (x.ch / 256), UInt8.ofNat x.ch, UInt8.ofNat x.k.length] ++ x.k))).length) := by rw [bv_len, bv_len, zs_len (by simp; omega)]; exact Lib.hid (by omega)
      have p2 : Hid (x.v.length ≠ 0 → ∃ ad, x.vA = some ad ∧ ∀ j v, (bv x.v)[j]? = some v → w6.drew.cell? (ad.add j) = some v) := Lib.hid fun h => Rd.src (Rd.drew XV6.out) (by omega)
      have bl := bv_len x.v
      have lv0 : Hid ((bv x.v).length = x.v.length) := Lib.hid (bv_len _)
      by_cases h256 : 256 = b
      · subst h256
        have vz : Hid (x.v.length = 0) := Lib.hid (by omega)
        have n3 : Hid ((bv x.v).length = Nat.min x.v.length 0) := by rw [bv_len, vz.out]; exact Lib.hid rfl
        have hci : IntKind.i64.wrap ((256 : Int) + (x.v.length : Int)) = (256 : Int) + (x.v.length : Int) := IntWalk.i64_in _ (by omega)
        go_wp2_with fail
        go_region_law (refine step_copy_kp rfl (.tmp 80) (.tmp 82) 30 30 rfl 5 Tryz.underlying30 hsz (some ⟨P, 0, none⟩) x.vA 0 0 x.v.length x.vc (by simp [Act.eval, Act.put]) (by simp [Act.eval, Act.put]) P 256 (bv (zs (H ++ [UInt8.ofNat (x.ch / 256), UInt8.ofNat x.ch, UInt8.ofNat x.k.length] ++ x.k))) 5 R6.out.h (bv x.v) n3.out (fun h => by rw [lv0.out, vz.out] at h; omega) f2.out (bv_one _) ?_; intro w7 HR7 HK7)
        have R7 : Hid (Row w7 P (zs (H ++ itb 2 x.it))) := Lib.hid ⟨by have := HR7.out; rwa [← bv_splice, zs_splice' (by simp; omega) (by simp; omega), show H ++ [UInt8.ofNat (x.ch / 256), UInt8.ofNat x.ch, UInt8.ofNat x.k.length] ++ x.k ++ x.v = H ++ itb 2 x.it from by simp [itb, hdr, IV.it]] at this⟩
        have B7 : Hid (Below P w w7) := Lib.hid ((bdrewN (n := 1) B6.out).trans (HK7.out.low (B := P) (by show P ≤ w6.heap.size; omega) fun _ e => by omega))
        clear HR7 HK7
        go_wp2_with fail
        go_roundw
        case rel => exact ⟨k + 1, by omega, by go_num, by rw [TN.out]; congr 1; have vz0 := FV.out; omega, by rw [HN.out]; exact R7, B7⟩
        case measure => simp [intOf]; omega
      · have hci : IntKind.i64.wrap ((b : Int) + (x.v.length : Int)) = (b : Int) + (x.v.length : Int) := IntWalk.i64_in _ (by omega)
        go_wp2_with fail
        go_region_law (refine step_copy_kp rfl (.tmp 80) (.tmp 82) 30 30 rfl 5 Tryz.underlying30 hsz (some ⟨P, b, none⟩) x.vA (256 - b) (256 - b) x.v.length x.vc (by simp [Act.eval, Act.put]) (by simp [Act.eval, Act.put]) P b (bv (zs (H ++ [UInt8.ofNat (x.ch / 256), UInt8.ofNat x.ch, UInt8.ofNat x.k.length] ++ x.k))) 5 R6.out.h (bv x.v) n2.out (fun h => ⟨rfl, p2.out (by rw [lv0.out] at h; omega)⟩) f2.out (bv_one _) ?_; intro w7 HR7 HK7)
        have R7 : Hid (Row w7 P (zs (H ++ itb 2 x.it))) := Lib.hid ⟨by have := HR7.out; rwa [← bv_splice, zs_splice' (by simp; omega) (by simp; omega), show H ++ [UInt8.ofNat (x.ch / 256), UInt8.ofNat x.ch, UInt8.ofNat x.k.length] ++ x.k ++ x.v = H ++ itb 2 x.it from by simp [itb, hdr, IV.it]] at this⟩
        have B7 : Hid (Below P w w7) := Lib.hid ((bdrewN (n := 1) B6.out).trans (HK7.out.low (B := P) (by show P ≤ w6.heap.size; omega) fun _ e => by omega))
        clear HR7 HK7
        go_wp2_with fail
        go_roundw
        case rel => exact ⟨k + 1, by omega, by go_num, by rw [TN.out]; congr 1; have vz0 := FV.out; omega, by rw [HN.out]; exact R7, B7⟩
        case measure => simp [intOf]; omega
    · obtain rfl : k = n := by omega
      have RZ := R3.out
      rw [List.take_of_length_le (by have := hln.out; omega)] at RZ ⊢
      obtain ⟨E1, E2⟩ := enc_end (kd := 2) (n := k) (l := its l) (by rw [its_len]; exact hln.out) hl.out ht.out
      have LZ : (zs (hd 2 k ++ bdy 2 (its l))).length = 256 := zs_len (by have := bdy_len 2 hl.out; have := ht.out; simp [hd]; omega)
      have RR := Lib.hid (RZ.rd (n := 256) LZ.symm (by omega))
      obtain ⟨C, hC⟩ : ∃ C, zs (hd 2 k ++ bdy 2 (its l)) = C := ⟨_, rfl⟩
      rw [hC] at RZ LZ RR E1 E2
      have RZ := Lib.hid RZ
      have RD : Hid (Rd wr 1 (some ⟨P, 4, none⟩) 252 252 (bv (rst 2 (its l)))) := by rw [← E1]; exact Lib.hid (RR.out.tail (lo := 4) (by omega))
      have RL : Hid (252 = (rst 2 (its l)).length) := by rw [← E1, List.length_drop, LZ]; exact Lib.hid rfl
      clear E1 hC
      obtain ⟨cr, hcr⟩ : ∃ cr, crc (rst 2 (its l)) = cr := ⟨_, rfl⟩
      have cl := crc_lt (rst 2 (its l))
      rw [hcr] at cl
      have HCR := Lib.hid hcr
      clear hcr
      have b0 := RZ.out.cell (j := 0) (List.getElem?_eq_getElem (by omega))
      have b1 := RZ.out.cell (j := 1) (List.getElem?_eq_getElem (by omega))
      have b2 := RZ.out.cell (j := 2) (List.getElem?_eq_getElem (by omega))
      have b3 := RZ.out.cell (j := 3) (List.getElem?_eq_getElem (by omega))
      have f0 := RZ.out.fz 0
      have f1 := RZ.out.fz 1
      have f2 := RZ.out.fz 2
      have f3 := RZ.out.fz 3
      go_wp2_with fail
      go_at_call 112
      refine (Sum_any _ RL RD).mono ?_
      rw [HCR.out]
      rintro e w1 ⟨rfl, rfl⟩
      have g0 : (cr : Int) / 16777216 = ((UInt8.ofNat (cr / 256 ^ 3)).toNat : Int) := by rw [u8_mod]; omega
      have g1 : (cr : Int) / 65536 % 256 = ((UInt8.ofNat (cr / 256 ^ 2)).toNat : Int) := by rw [u8_mod]; omega
      have g2 : (cr : Int) / 256 % 256 = ((UInt8.ofNat (cr / 256 ^ 1)).toNat : Int) := by rw [u8_mod]; omega
      have g3 : (cr : Int) % 256 = ((UInt8.ofNat (cr / 256 ^ 0)).toNat : Int) := by rw [u8_mod]; omega
      have R9 := (((RZ.out.set 0 g0).set 1 g1).set 2 g2).set 3 g3
      rw [E2] at R9
      have EE : enc 2 (its l) = [UInt8.ofNat (cr / 256 ^ 3), UInt8.ofNat (cr / 256 ^ 2), UInt8.ofNat (cr / 256 ^ 1), UInt8.ofNat (cr / 256 ^ 0)] ++ rst 2 (its l) := by unfold enc; rw [HCR.out]; rfl
      rw [← EE] at R9
      have R9 := Lib.hid R9
      have B9 := Lib.hid ((((Below.setCell B3.out (p := ⟨P, 0, none⟩) (Nat.le_refl _) (.int .u8 ((cr : Int) / 16777216))).setCell (p := ⟨P, 1, none⟩) (Nat.le_refl _) (.int .u8 ((cr : Int) / 65536 % 256))).setCell (p := ⟨P, 2, none⟩) (Nat.le_refl _) (.int .u8 ((cr : Int) / 256 % 256))).setCell (p := ⟨P, 3, none⟩) (Nat.le_refl _) (.int .u8 ((cr : Int) % 256)))
      clear g0 g1 g2 g3 E2 EE
      go_wp2_with fail
      exact bodyPost_ret (v := .slice (some ⟨P, 0, none⟩) 256 256) (by simp [results, Tryz.results121, go_sem]) rfl ⟨by rw [hP], by rw [hP]; exact R9, by rw [hP]; exact B9.out⟩
end Go.Proofs.YtpmkohnljngbhaaGreatDoor.Pg
