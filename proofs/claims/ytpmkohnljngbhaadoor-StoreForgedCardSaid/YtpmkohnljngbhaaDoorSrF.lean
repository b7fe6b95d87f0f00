/- slices.Backward over changes: the iterator's contract, at the caller's own invariant. -/
import Derived.Test.YtpmkohnljngbhaaDoorRangeBox
import Derived.Test.YtpmkohnljngbhaaDoorSrMem
namespace Go.Proofs.YtpmkohnljngbhaaDoor.Sr
set_option linter.unusedVariables false
set_option linter.unusedSimpArgs false
set_option maxRecDepth 1000000
open Go.RowKit Go.Shelf Wl Pg
attribute [local go_sem] Oper.semAt_some

theorem back_at (nn : Nat) (hn : 1 ≤ nn) (lr l0 Bs N : Nat) {A : Option Addr} {n c : Nat} {l : List CV} (R D : Obj) (I : List (Nat × CV) → World → Prop) (X : World → Prop) (W : World)
    (hR : W.heap[lr]? = some R) (hD : W.heap[l0]? = some D) (h0 : I [] W) (hbox : W.cell? ⟨Bs, 0, none⟩ = some (.slice A n c)) (hB : Bs < N) (hN : N ≤ W.heap.size)
    (C : Rd W 3 A n c (cvs l)) (hA : 0 < n → ∀ g o, A = some ⟨g, o, none⟩ → g < N) (hn2 : n ≤ 1000000)
    (hY : ∀ pre x W1, (pre.length < n ∧ x.1 = n - 1 - pre.length ∧ l[x.1]? = some x.2) → I pre W1 → W1.heap[lr]? = some R → W1.heap[l0]? = some D → YieldAt Fence.wide (nn - 1) Tryd.prog lr #[.int .i64 (x.1 : Int), x.2.val] W1 fun e W' =>
        (e = .returned (.bool true) ∧ I (pre ++ [x]) W' ∧ W'.heap[lr]? = some R ∧ W'.heap[l0]? = some D ∧ Below N W1 W') ∨ (e = .returned (.bool false) ∧ X W')) :
    CallsIn Fence.wide nn Tryd.prog 74 #[.func (.yield lr) #[] #[], .pointer (some ⟨Bs, 0, none⟩)] W fun e W' => (∃ v, e = .returned v) ∧
      ((∃ xs : List (Nat × CV), xs.length = n ∧ I xs W' ∧ W'.heap[lr]? = some R ∧ W'.heap[l0]? = some D) ∨ X W') := by
  have hnc := C.nc
  have hc63 := C.c63
  have CW : Hid (∀ U, Below N W U → ∀ k, k < n → ∃ g o x, A = some ⟨g, o, none⟩ ∧ g < U.heap.size ∧ l[k]? = some x ∧ U.cell? ⟨g, o + k * 3, none⟩ = some (.slice x.A x.k.length x.c) ∧ U.cell? ⟨g, o + k * 3 + 1, none⟩ = some (.slice x.B x.v.length x.d) ∧ U.cell? ⟨g, o + k * 3 + 2, none⟩ = some (.bool x.del)) := Lib.hid fun U hU k hk => by
    obtain ⟨g, o, e, hg, hc⟩ := C.at_ (by omega)
    have hl : n = l.length := by have := C.len; rw [cvs_len] at this; omega
    have hx : l[k]? = some (l[k]'(by omega)) := List.getElem?_eq_getElem (by omega)
    obtain ⟨k0, k1, k2⟩ := cvs_get l k _ hx
    have hgN := hA (by omega) g o e
    have cc : ∀ j, j < n * 3 → U.cell? ⟨g, o + j, none⟩ = (cvs l)[j]? := fun j hj => (hU.cell (p := ⟨g, o + j, none⟩) hgN).trans (hc j hj)
    exact ⟨g, o, _, e, Nat.lt_of_lt_of_le hg hU.size, hx, by rw [cc _ (by omega), k0], by rw [Nat.add_assoc, cc _ (by omega), k1], by rw [Nat.add_assoc, cc _ (by omega), k2]⟩
  clear C hA
  refine callsIn_of_wp Tryd.func74 rfl trivial ?_ rfl
  simp only [Tryd.ntmps74, List.size_toArray, List.length_cons, List.length_nil, Nat.reduceAdd, Nat.reduceSub, Array.replicate_succ, Array.replicate_zero, List.push_toArray, List.append_toArray, List.nil_append, List.cons_append]
  gi_wp2
  gi_loopw [3] (fun iv wr => ∃ (k : Nat) (pre : List (Nat × CV)), k ≤ n ∧ pre.length = k ∧ iv = .int .i64 ((n : Int) - 1 - k) ∧ I pre wr ∧ wr.heap[lr]? = some R ∧ wr.heap[l0]? = some D ∧ Below N W wr) (fun iv _ => (intOf iv + 1).toNat)
  case atStart => exact ⟨0, [], by omega, rfl, by first | rfl | go_num | simp, h0, hR, hD, Below.refl _ _⟩
  case round =>
    obtain ⟨k, pre, hk, hpre, rfl, hi, hl, hd, hw⟩ := hrel
    by_cases hlt : k < n
    · obtain ⟨q, hq⟩ : ∃ q : Nat, q + 1 + k = n := ⟨n - 1 - k, by omega⟩
      obtain ⟨g, o, x, rfl, hg, hx, c0, c1, c2⟩ := CW.out wr hw q (by omega)
      have hb : wr.cell? ⟨Bs, 0, none⟩ = some (.slice (some ⟨g, o, none⟩) n c) := (hw.cell (p := ⟨Bs, 0, none⟩) hB).trans hbox
      have eq : (n : Int) - 1 - k = (q : Int) := by omega
      rw [eq]
      have d1 : decide ((q : Int) ≥ 0) = true := decide_eq_true (by omega)
      have d2 : q < n := by omega
      obtain ⟨fn, tmps, assign, body, hy, hRd⟩ := hY pre (q, x) wr ⟨by omega, by simp only; omega, hx⟩ hi hl hd
      dsimp only [CV.val] at hy
      obtain ⟨kn, hkn⟩ : ∃ kn, x.k.length = kn := ⟨_, rfl⟩
      obtain ⟨vn, hvn⟩ : ∃ vn, x.v.length = vn := ⟨_, rfl⟩
      rw [hkn, hvn] at hy
      rw [hkn] at c0
      rw [hvn] at c1
      have HQ := Lib.hid hq
      clear hkn hvn hx eq hbox hq hk
      gi_wp2
      refine hRd.mono ?_
      rintro e W3 (⟨rfl, hi3, hl3, hd3, hb3⟩ | ⟨rfl, hx3⟩)
      · gi_wp2
        go_roundw
        case rel => exact ⟨k + 1, pre ++ [(q, x)], by omega, by simp [hpre], by have := HQ.out; rw [show (n : Int) - 1 - ((k + 1 : Nat) : Int) = (q : Int) - 1 by omega], hi3, hl3, hd3, hw.trans hb3⟩
        case measure => have := HQ.out; first | (simp [intOf]; done) | (simp [intOf]; omega)
      · gi_wp2
        refine bodyPost_ret (results_none rfl _ _ _) rfl ?_
        exact ⟨⟨_, rfl⟩, .inr hx3⟩
    · obtain rfl : k = n := by omega
      have eq : (k : Int) - 1 - k = -1 := by omega
      rw [eq]
      clear eq
      gi_wp2
      go_end0
      exact ⟨⟨_, rfl⟩, .inl ⟨pre, hpre, hi, hl, hd⟩⟩
/-- A row under the turn of an object that is no cells. -/
theorem rd_put {W : World} {s n c l : Nat} {A : Option Addr} {xs : List Value} {o o' : Obj} (h : Rd W s A n c xs) (hl : W.heap[l]? = some o) (ho : o.isCells = false) : Rd (W.putObj l o') s A n c xs :=
  ⟨h.len, h.nc, h.nil, h.c63, fun h0 => by
    obtain ⟨g, q, e, hg, hc⟩ := h.at_ h0
    refine ⟨g, q, e, by simpa using hg, fun j hj => ?_⟩
    have hv : xs[j]? = some (xs[j]'(by have := h.len; omega)) := List.getElem?_eq_getElem (by have := h.len; omega)
    exact (putObj_cell (cell_ne ((hc j hj).trans hv) hl ho)).trans (hc j hj)⟩
theorem bx_put {W : World} {p l : Nat} {o' : Obj} {xs : List Value} (h : Bx W p xs) (hp : p ≠ l) : Bx (W.putObj l o') p xs :=
  ⟨by simpa using h.lt, fun j hj => (putObj_cell hp).trans (h.at_ j hj), fun j hj => (putObj_frozen hp).trans (h.fz j hj)⟩
end Go.Proofs.YtpmkohnljngbhaaDoor.Sr
