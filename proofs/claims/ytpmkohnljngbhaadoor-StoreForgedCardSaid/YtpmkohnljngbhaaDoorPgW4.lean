/- A row of bytes of the call's own that is written. -/
import Derived.Test.YtpmkohnljngbhaaDoorPgB1
import Derived.Laws.CopyOwn
import Derived.Test.YtpmkohnljngbhaaDoorPgB3
import Derived.Deep.RegionLaw
set_option linter.all false
namespace Go.Proofs.YtpmkohnljngbhaaDoor.Pg
set_option linter.unusedVariables false
set_option linter.unusedSimpArgs false
set_option maxRecDepth 1000000
open Go.RowKit Wl

structure Row (w : World) (P : Nat) (cur : List UInt8) : Prop where
  h : w.heap[P]? = some (.cells (bv cur).toArray 5 (0, 0))
section
variable {w w' : World} {P : Nat} {cur : List UInt8} {X : Nat → Prop}
theorem Row.lt (h : Row w P cur) : P < w.heap.size := (Array.getElem?_eq_some_iff.1 h.h).1
theorem Row.kp (h : Row w P cur) (k : Kp w w' X) (hX : ¬ X P) : Row w' P cur := ⟨(k.block P h.lt hX).trans h.h⟩
theorem Row.below {B : Nat} (h : Row w P cur) (hb : Below B w w') (hP : P < B) : Row w' P cur := ⟨(hb.block P hP).trans h.h⟩
theorem Row.step (h : Row w P cur) (hb : Below w.heap.size w w') : Row w' P cur := h.below hb h.lt
theorem Row.cell (h : Row w P cur) {j : Nat} {u : UInt8} (hj : cur[j]? = some u) : w.cell? ⟨P, j, none⟩ = some (.int .u8 (u.toNat : Int)) := by
  unfold World.cell?
  simp [h.h, bv_get, hj]
theorem Row.fz (h : Row w P cur) (j : Nat) : w.frozen? ⟨P, j, none⟩ = false := by
  unfold World.frozen?
  simp [h.h]
theorem Row.set (h : Row w P cur) (j : Nat) {z : Int} {u : UInt8} (hz : z = (u.toNat : Int)) : Row (w.setCell ⟨P, j, none⟩ (.int .u8 z)) P (cur.set j u) := by
  refine ⟨?_⟩
  subst hz
  have hl := h.lt
  unfold World.setCell
  rw [Array.getElem?_modify]
  simp only [if_pos, h.h, Option.map_some, Option.isSome_none, Bool.false_eq_true, if_false]
  congr 2
  apply Array.ext'
  simp [bv, List.map_set]
theorem Row.drewN (h : Row w P cur) (n : Nat) : Row (w.drewN n) P cur := ⟨h.h⟩
theorem Row.rd (h : Row w P cur) {n : Nat} (hn : n = cur.length) (h63 : n ≤ 9223372036854775807) : Rd w 1 (some ⟨P, 0, none⟩) n n (bv cur) := by
  refine ⟨by rw [bv_len]; omega, Nat.le_refl _, fun e => (by cases e), h63, fun _ => ⟨P, 0, rfl, h.lt, fun j hj => ?_⟩⟩
  unfold World.cell?
  simp [h.h]
theorem own_heap {base e n g : Nat} {xs : List Value} (h : w.ownsRow base e 1 (.slice (some ⟨g, 0, none⟩) n n) n xs) : w.heap[g]? = some (.cells xs.toArray e (0, 0)) := by
  rcases h.2 with ⟨h1, _⟩ | ⟨g', cap, cu, h1, _, h2, _, _, h5, h6⟩
  · injection h1 with h1; cases h1
  · injection h1 with h1 _ h3
    injection h1 with h1
    injection h1 with h1
    subst h1 h3
    rw [h2]
    congr 2
    rw [← h6, List.take_of_length_le (by simp; omega)]
end
/-- copy into a row of the call's own, as a step of a region that draws its order: nothing else turns. -/
theorem step_copy_kp {P : Program} {ops : Array Oper} {o : Oper} {a : Act} {w : World} {K : Act → World → Prop} {Q : Exit → Act → World → Prop} {E : Prop} (hgd : o.guard = none) (d s : Operand) (dT sT : TypeId)
    (ho : o.op = .call { callee := .builtin .copy, args := #[d, s], argTypes := #[dT, sT] }) (elem : TypeId) (hu : P.underlying dT = some (.slice elem)) (hsz : (P.info? elem).map (·.size) = some 1)
    (dp sp : Option Addr) (dLen dCap sLen sCap : Nat) (hd : a.eval d = .slice dp dLen dCap) (hs : a.eval s = .slice sp sLen sCap)
    (g off : Nat) (cur : List Value) (t : TypeId) (hg : w.heap[g]? = some (.cells cur.toArray t (0, 0))) (cs : List Value) (hn : cs.length = Nat.min sLen dLen)
    (hpos : 0 < cs.length → dp = some ⟨g, off, none⟩ ∧ ∃ ad, sp = some ad ∧ ∀ j v, cs[j]? = some v → w.cell? (ad.add j) = some v)
    (hfit : off + cs.length ≤ cur.length) (h1 : ∀ v ∈ cs, v.oneCell' = true)
    (h : ∀ w', Hid (w'.heap[g]? = some (.cells (splice cur off cs).toArray t (0, 0))) → Hid (Kp w w' (· = g)) → K (a.put o.dst (goInt cs.length)) w') :
    if Region.wanted o (yielded ops a.tmps) = true then Oper.wp P o a w K Q else E := by
  have hw : Region.wanted o (yielded ops a.tmps) = true := by simp [Region.wanted, hgd]
  rw [if_pos hw]
  by_cases h0 : cs.length = 0
  · obtain rfl : cs = [] := List.eq_nil_of_length_eq_zero h0
    have hrun := run_copy_none (P := P) w dT sT o.type elem dp sp dLen dCap sLen sCap hu hsz (by simpa using hn.symm)
    unfold Oper.wp
    simp [execOp, ho, resolve, invoke, builtin, hd, hs, hrun, Result.andThen]
    exact h w (show _ = _ by simpa [splice] using hg) (Lib.hid (Kp.refl _ _))
  · obtain ⟨rfl, ad, rfl, hsrc⟩ := hpos (by omega)
    have hrun := run_copy_row (P := P) w dT sT o.type elem g off dLen dCap ad sLen sCap cur.toArray t cs hu hsz hg hn hsrc (by simpa using hfit) h1
    unfold Oper.wp
    simp [execOp, ho, resolve, invoke, builtin, hd, hs, hrun, Result.andThen]
    exact h _ (show _ = _ by simpa [splice] using setRow_heap w g _ _ t _ hg) (Lib.hid ⟨rfl, rfl, rfl, by simp [World.setRow], fun k _ hk => setRow_other w g k _ hk⟩)
/-- A page that is written from its beginning. -/
def zs (H : List UInt8) : List UInt8 := H ++ List.replicate (256 - H.length) 0
theorem zs_len {H : List UInt8} (h : H.length ≤ 256) : (zs H).length = 256 := by simp [zs]; omega
theorem zs_set {H : List UInt8} (h : H.length < 256) (u : UInt8) : (zs H).set H.length u = zs (H ++ [u]) := by
  unfold zs
  rw [List.set_append_right _ _ (Nat.le_refl _), Nat.sub_self, show 256 - H.length = (256 - (H ++ [u]).length) + 1 by simp; omega, List.replicate_succ]
  simp
theorem zs_get {H : List UInt8} {j : Nat} (h1 : H.length ≤ j) (h2 : j < 256) : (zs H)[j]? = some 0 := by
  unfold zs
  rw [List.getElem?_append_right h1, List.getElem?_replicate, if_pos (by omega)]
theorem zs_splice {H cs : List UInt8} (h : H.length + cs.length ≤ 256) : splice (zs H) H.length cs = zs (H ++ cs) := by
  unfold zs splice
  rw [List.take_left, List.append_assoc]
  congr 2
  rw [List.drop_append, List.drop_of_length_le (by omega), List.nil_append, List.drop_replicate]
  congr 1
  simp; omega
theorem zs_splice' {H cs : List UInt8} {off : Nat} (h0 : off = H.length) (h : H.length + cs.length ≤ 256) : splice (zs H) off cs = zs (H ++ cs) := by subst h0; exact zs_splice h
theorem zs_zero : zs [] = zs [0, 0, 0, 0] := by kernel_rfl
theorem bv_splice (a : List UInt8) (k : Nat) (b : List UInt8) : bv (splice a k b) = splice (bv a) k (bv b) := by simp [splice, bv]
theorem cells_zero : (madeCells (Value.int .u8 0).cells (256 * 1)).toList = bv (zs []) := by kernel_rfl
end Go.Proofs.YtpmkohnljngbhaaDoor.Pg
/- The walk of page.encode. -/
namespace Go.Proofs.YtpmkohnljngbhaaDoor.Pg
set_option maxRecDepth 1000000
open Go.RowKit Wl

theorem info_u8 : (Tryd.prog.info? 5).map (fun i => (i.zero, i.size, i.bytes)) = some (some (.int .u8 0), 1, 1) := by kernel_rfl
def hd (kd n : Nat) : List UInt8 := [0, 0, 0, 0, UInt8.ofNat kd, UInt8.ofNat n]
theorem u8_lit {n : Nat} (h : n < 256) : ((UInt8.ofNat n).toNat : Int) = (n : Int) := by rw [nat8 h]
/-- What encode writes. -/
def EncPost (w : World) (kd : Nat) (l : List IV) (e : Ending) (w' : World) : Prop :=
  e = .returned (.slice (some ⟨w.heap.size, 0, none⟩) 256 256) ∧ Hid (Row w' w.heap.size (enc kd (its l))) ∧ Below w.heap.size w w'
theorem tot_lt {kind k : Nat} {l : List IV} {x : IV} (h : l[k]? = some x) : tot kind (its (l.take k)) + isz kind x.it ≤ tot kind (its l) := by
  have e : l = l.take k ++ x :: l.drop (k + 1) := by
    have h3 := (List.getElem?_eq_some_iff.1 h).2
    rw [← h3, List.getElem_cons_drop, List.take_append_drop]
  conv => rhs; rw [e, its_app, tot_app]
  show _ ≤ _ + (isz kind x.it + _)
  omega
theorem bdy_take {kind k : Nat} {l : List IV} {x : IV} (h : l[k]? = some x) : bdy kind (its (l.take (k + 1))) = bdy kind (its (l.take k)) ++ itb kind x.it := by
  rw [List.take_add_one, h, its_app, bdy_app]; simp [its, bdy]
theorem hd_set (kd n : Nat) : ((zs []).set 4 (UInt8.ofNat kd)).set 5 (UInt8.ofNat n) = zs (hd kd n) := by
  rw [zs_zero]
  have e1 := zs_set (H := [0, 0, 0, 0]) (by simp) (UInt8.ofNat kd)
  have e2 := zs_set (H := [0, 0, 0, 0, UInt8.ofNat kd]) (by simp) (UInt8.ofNat n)
  simp only [List.length_cons, List.length_nil] at e1 e2
  rw [e1]
  exact e2
theorem hdr_set2 {H : List UInt8} {a : Nat} {u v : UInt8} (h : H.length = a) (ha : a + 2 ≤ 256) : ((zs H).set a u).set (a + 1) v = zs (H ++ [u, v]) := by
  subst h
  rw [zs_set (by omega), show H.length + 1 = (H ++ [u]).length by simp, zs_set (by simp; omega)]; simp
theorem hdr_set3 {H : List UInt8} {a : Nat} {u v z : UInt8} (h : H.length = a) (ha : a + 3 ≤ 256) : (((zs H).set a u).set (a + 1) v).set (a + 2) z = zs (H ++ [u, v, z]) := by
  rw [hdr_set2 h (by omega)]
  subst h
  rw [show H.length + 2 = (H ++ [u, v]).length by simp, zs_set (by simp; omega)]; simp
theorem Rd.src {w : World} {n c : Nat} {A : Option Addr} {l : List UInt8} (h : Rd w 1 A n c (bv l)) (hn : 0 < n) : ∃ ad, A = some ad ∧ ∀ j v, (bv l)[j]? = some v → w.cell? (ad.add j) = some v := by
  obtain ⟨g, o, e, _, hc⟩ := h.at_ hn
  refine ⟨_, e, fun j v hv => ?_⟩
  rw [addr_add, hc j (by have := (List.getElem?_eq_some_iff.1 hv).1; rw [h.len] at this; exact this), hv]
theorem u8_mod (n : Nat) : ((UInt8.ofNat n).toNat : Int) = (n : Int) % 256 := by simp
theorem its_mem {l : List IV} {x : IV} (h : x ∈ l) : x.it ∈ its l := List.mem_map.2 ⟨x, h, rfl⟩
theorem bdy_tk {kind k : Nat} {l : List IV} (h : ∀ x ∈ its l, ItOk kind x) : (bdy kind (its (l.take k))).length = tot kind (its (l.take k)) :=
  bdy_len kind fun x hx => h x (by
    obtain ⟨y, hy, rfl⟩ := List.mem_map.1 hx
    exact its_mem (List.mem_of_mem_take hy))
/-- The end of encode: the sum. -/
theorem enc_end {kd n : Nat} {l : List It} (hn : n = l.length) (h : ∀ x ∈ l, ItOk kd x) (ht : tot kd l ≤ 250) :
    (zs (hd kd n ++ bdy kd l)).drop 4 = rst kd l ∧ ∀ a b c d : UInt8, ((((zs (hd kd n ++ bdy kd l)).set 0 a).set 1 b).set 2 c).set 3 d = [a, b, c, d] ++ rst kd l := by
  have hb := bdy_len kd h
  have e : zs (hd kd n ++ bdy kd l) = [0, 0, 0, 0] ++ rst kd l := by
    subst hn
    simp [zs, hd, rst, hb]
  rw [e]
  exact ⟨rfl, fun a b c d => rfl⟩
end Go.Proofs.YtpmkohnljngbhaaDoor.Pg
