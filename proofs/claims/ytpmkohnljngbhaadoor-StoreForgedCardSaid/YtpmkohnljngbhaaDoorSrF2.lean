/- slices.Backward over changes: the iterator's contract, at the caller's own invariant. -/
import Derived.Test.YtpmkohnljngbhaaDoorRangeBox
import Derived.Test.YtpmkohnljngbhaaDoorSrMem
import Derived.Test.YtpmkohnljngbhaaDoorPgW9
set_option linter.all false
namespace Go.Proofs.YtpmkohnljngbhaaDoor.Sr
set_option linter.unusedVariables false
set_option linter.unusedSimpArgs false
set_option maxRecDepth 1000000
open Go.RowKit Go.Shelf Wl Pg
attribute [local go_sem] Oper.semAt_some

theorem back_at (nn : Nat) (hn : 1 ≤ nn) (lr l0 Bs N : Nat) {A : Option Addr} {n c : Nat} {l : List CV} (R D : Obj) (I : List (Nat × CV) → World → Prop) (X : World → Prop) (W : World)
    (hR : W.heap[lr]? = some R) (hD : W.heap[l0]? = some D) (h0 : I [] W) (hbox : W.cell? ⟨Bs, 0, none⟩ = some (.slice A n c)) (hB : Bs < N) (hN : N ≤ W.heap.size)
    (C : Rd W 3 A n c (cvs l)) (hA : 0 < n → ∀ g o, A = some ⟨g, o, none⟩ → g < N) (hn2 : n ≤ 1000000)
    (hY : ∀ pre x W1, (pre.length < n ∧ x.1 = n - 1 - pre.length ∧ l[x.1]? = some x.2) → I pre W1 → W1.heap[lr]? = some R → W1.heap[l0]? = some D → YieldAt Fence.wide (nn - 1) Tryd.prog lr #[.int .i64 (x.1 : Int), x.2.val] W1 fun e W' =>
        (e = .returned (.bool true) ∧ I (pre ++ [x]) W' ∧ W'.heap[lr]? = some R ∧ W'.heap[l0]? = some D ∧ Below N W1 W') ∨ (e = .returned (.bool false) ∧ X W')) :
    CallsIn Fence.wide nn Tryd.prog 74 #[.func (.yield lr) #[] #[], .pointer (some ⟨Bs, 0, none⟩)] W fun e W' => (∃ v, e = .returned v) ∧
      ((∃ xs : List (Nat × CV), xs.length = n ∧ I xs W' ∧ W'.heap[lr]? = some R ∧ W'.heap[l0]? = some D) ∨ X W') := by
  have hnc := C.nc
  have hc63 := C.c63
  have CW : Hid (∀ U, Below N W U → ∀ k, k < n → ∃ g o x, A = some ⟨g, o, none⟩ ∧ g < U.heap.size ∧ l[k]? = some x ∧ U.cell? ⟨g, o + k * 3, none⟩ = some (.slice x.A x.k.length x.c) ∧ U.cell? ⟨g, o + k * 3 + 1, none⟩ = some (.slice x.B x.v.length x.d) ∧ U.cell? ⟨g, o + k * 3 + 2, none⟩ = some (.bool x.del)) := Lib.hid fun U hU k hk => by
    obtain ⟨g, o, e, hg, hc⟩ := C.at_ (by omega)
    have hl : n = l.length := by have := C.len; rw [cvs_len] at this; omega
    have hx : l[k]? = some (l[k]'(by omega)) := List.getElem?_eq_getElem (by omega)
    obtain ⟨k0, k1, k2⟩ := cvs_get l k _ hx
    have hgN := hA (by omega) g o e
    have cc : ∀ j, j < n * 3 → U.cell? ⟨g, o + j, none⟩ = (cvs l)[j]? := fun j hj => (hU.cell (p := ⟨g, o + j, none⟩) hgN).trans (hc j hj)
    exact ⟨g, o, _, e, Nat.lt_of_lt_of_le hg hU.size, hx, by rw [cc _ (by omega), k0], by rw [Nat.add_assoc, cc _ (by omega), k1], by rw [Nat.add_assoc, cc _ (by omega), k2]⟩
  clear C hA
  refine callsIn_of_wp Tryd.func74 rfl trivial ?_ rfl
  simp only [Tryd.ntmps74, List.size_toArray, List.length_cons, List.length_nil, Nat.reduceAdd, Nat.reduceSub, Array.replicate_succ, Array.replicate_zero, List.push_toArray, List.append_toArray, List.nil_append, List.cons_append]
  gi_wp2
  gi_loopw [3] (fun iv wr => ∃ (k : Nat) (pre : List (Nat × CV)), k ≤ n ∧ pre.length = k ∧ iv = .int .i64 ((n : Int) - 1 - k) ∧ I pre wr ∧ wr.heap[lr]? = some R ∧ wr.heap[l0]? = some D ∧ Below N W wr) (fun iv _ => (intOf iv + 1).toNat)
  case atStart => exact ⟨0, [], by omega, rfl, by first | rfl | go_num | simp, h0, hR, hD, Below.refl _ _⟩
  case round =>
    obtain ⟨k, pre, hk, hpre, rfl, hi, hl, hd, hw⟩ := hrel
    by_cases hlt : k < n
    · obtain ⟨q, hq⟩ : ∃ q : Nat, q + 1 + k = n := ⟨n - 1 - k, by omega⟩
      obtain ⟨g, o, x, rfl, hg, hx, c0, c1, c2⟩ := CW.out wr hw q (by omega)
      have hb : wr.cell? ⟨Bs, 0, none⟩ = some (.slice (some ⟨g, o, none⟩) n c) := (hw.cell (p := ⟨Bs, 0, none⟩) hB).trans hbox
      have eq : (n : Int) - 1 - k = (q : Int) := by omega
      rw [eq]
      have d1 : decide ((q : Int) ≥ 0) = true := decide_eq_true (by omega)
      have d2 : q < n := by omega
      obtain ⟨fn, tmps, assign, body, hy, hRd⟩ := hY pre (q, x) wr ⟨by omega, by simp only; omega, hx⟩ hi hl hd
      dsimp only [CV.val] at hy
      obtain ⟨kn, hkn⟩ : ∃ kn, x.k.length = kn := ⟨_, rfl⟩
      obtain ⟨vn, hvn⟩ : ∃ vn, x.v.length = vn := ⟨_, rfl⟩
      rw [hkn, hvn] at hy
      rw [hkn] at c0
      rw [hvn] at c1
      have HQ := Lib.hid hq
      clear hkn hvn hx eq hbox hq hk
      gi_wp2
      refine hRd.mono ?_
      rintro e W3 (⟨rfl, hi3, hl3, hd3, hb3⟩ | ⟨rfl, hx3⟩)
      · gi_wp2
        go_roundw
        case rel => exact ⟨k + 1, pre ++ [(q, x)], by omega, by simp [hpre], by have := HQ.out; rw [show (n : Int) - 1 - ((k + 1 : Nat) : Int) = (q : Int) - 1 by omega], hi3, hl3, hd3, hw.trans hb3⟩
        case measure => have := HQ.out; first | (simp [intOf]; done) | (simp [intOf]; omega)
      · gi_wp2
        refine bodyPost_ret (results_none rfl _ _ _) rfl ?_
        exact ⟨⟨_, rfl⟩, .inr hx3⟩
    · obtain rfl : k = n := by omega
      have eq : (k : Int) - 1 - k = -1 := by omega
      rw [eq]
      clear eq
      gi_wp2
      go_end0
      exact ⟨⟨_, rfl⟩, .inl ⟨pre, hpre, hi, hl, hd⟩⟩
/-- A row under the turn of an object that is no cells. -/
theorem rd_put {W : World} {s n c l : Nat} {A : Option Addr} {xs : List Value} {o o' : Obj} (h : Rd W s A n c xs) (hl : W.heap[l]? = some o) (ho : o.isCells = false) : Rd (W.putObj l o') s A n c xs :=
  ⟨h.len, h.nc, h.nil, h.c63, fun h0 => by
    obtain ⟨g, q, e, hg, hc⟩ := h.at_ h0
    refine ⟨g, q, e, by simpa using hg, fun j hj => ?_⟩
    have hv : xs[j]? = some (xs[j]'(by have := h.len; omega)) := List.getElem?_eq_getElem (by have := h.len; omega)
    exact (putObj_cell (cell_ne ((hc j hj).trans hv) hl ho)).trans (hc j hj)⟩
theorem bx_put {W : World} {p l : Nat} {o' : Obj} {xs : List Value} (h : Bx W p xs) (hp : p ≠ l) : Bx (W.putObj l o') p xs :=
  ⟨by simpa using h.lt, fun j hj => (putObj_cell hp).trans (h.at_ j hj), fun j hj => (putObj_frozen hp).trans (h.fz j hj)⟩
end Go.Proofs.YtpmkohnljngbhaaDoor.Sr
/- Walk: find. -/
namespace Go.Proofs.YtpmkohnljngbhaaDoor.Sr
set_option maxRecDepth 1000000
open Go.RowKit Go.Shelf Wl Pg
attribute [local go_sem] Oper.semAt_some

/-- The entries of a valid file. -/
def Fent (F : Fi) (b : Ent) : Prop := Shp F ∧ ∃ s, Rok F.pg F.free F.root s ∧ b = lkp s.2
theorem Fent.vld {F : Fi} {b : Ent} (h : Fent F b) : Vld F := ⟨h.1, let ⟨s, hs, _⟩ := h.2; ⟨s, hs⟩⟩
def FdPost (w : World) (o : Option (List UInt8)) (e : Ending) (w' : World) : Prop :=
  ∃ (A : Option Addr) (n c : Nat) (er : Int), e = .returned (.tuple #[.slice A n c, .int .i64 er]) ∧
    ((er = 7 ∧ o = none ∧ n = 0) ∨ (er = 0 ∧ ∃ d, o = some d ∧ Hid (n = d.length) ∧ Hid (Rd w' 1 A n c (bv d)))) ∧ Below w.heap.size w w'
section
variable {PA FA A K : Option Addr} {np pc m fc n c kn kc : Nat} {r0 : Int} {f : FV} {l : List CV} {key : List UInt8} {b : Ent}
/-- Between two rounds. -/
structure FI (w : World) (p : Nat) (PA : Option Addr) (np pc : Nat) (r0 : Int) (FA : Option Addr) (m fc : Nat) (K : Option Addr) (kn kc : Nat) (A : Option Addr) (n c : Nat) (l : List CV) (key : List UInt8) (j : Nat) (W : World) : Prop where
  b : Below w.heap.size w W
  X : Bx W p [.slice PA np pc, .int .i64 r0, .slice FA m fc]
  Y : Bx W (p + 1) [.slice K kn kc]
  R6 : Bx W (p + 1 + 1) [.slice none 0 0]
  R7 : Bx W (p + 1 + 1 + 1) [.int .i64 0]
  B : Bx W (p + 1 + 1 + 1 + 1) [.slice A n c]
  ls : j ≤ n
  no : ∀ y ∈ l.drop (n - j), y.k ≠ key
theorem FI.nx {w W W' : World} {p j : Nat} (h : FI w p PA np pc r0 FA m fc K kn kc A n c l key j W) (k : Below W.heap.size W W') : FI w p PA np pc r0 FA m fc K kn kc A n c l key j W' :=
  ⟨h.b.trans (k.mono h.b.size), h.X.nx k, h.Y.nx k, h.R6.nx k, h.R7.nx k, h.B.nx k, h.ls, h.no⟩
theorem FI.put {w W : World} {p j q : Nat} {o o' : Obj} (hp : w.heap.size = p) (h : FI w p PA np pc r0 FA m fc K kn kc A n c l key j W) (hq : p + 1 + 1 + 1 + 1 < q) (hl : W.heap[q]? = some o) (ho : o.isCells = false) (hw : o.isWalk = false) : FI w p PA np pc r0 FA m fc K kn kc A n c l key j (W.putObj q o') :=
  ⟨h.b.trans (belowK_b (w := w) (Nat.le_refl _) W _ _ _ (by omega) hl ho hw), bx_put h.X (by omega), bx_put h.Y (by omega), bx_put h.R6 (by omega), bx_put h.R7 (by omega), bx_put h.B (by omega), h.ls, h.no⟩
/-- Behind a return of the body. -/
def FX (w : World) (p : Nat) (o : Option (List UInt8)) (W : World) : Prop :=
  Below w.heap.size w W ∧ ∃ (A : Option Addr) (n c : Nat) (er : Int), W.cell? ⟨p + 1 + 1, 0, none⟩ = some (.slice A n c) ∧ W.cell? ⟨p + 1 + 1 + 1, 0, none⟩ = some (.int .i64 er) ∧
    ((er = 7 ∧ o = none ∧ n = 0) ∨ (er = 0 ∧ ∃ d, o = some d ∧ n = d.length ∧ Rd W 1 A n c (bv d)))
theorem FX.put {w W : World} {p q : Nat} {o o' : Obj} {r : Option (List UInt8)} (hp : w.heap.size = p) (h : FX w p r W) (hq : p + 1 + 1 + 1 + 1 < q) (hl : W.heap[q]? = some o) (ho : o.isCells = false) (hw : o.isWalk = false) : FX w p r (W.putObj q o') := by
  obtain ⟨hb, A, n, c, er, h1, h2, h3⟩ := h
  refine ⟨hb.trans (belowK_b (w := w) (Nat.le_refl _) W _ _ _ (by omega) hl ho hw), A, n, c, er, (putObj_cell (by show p + 1 + 1 ≠ q; omega)).trans h1, (putObj_cell (by show p + 1 + 1 + 1 ≠ q; omega)).trans h2, ?_⟩
  rcases h3 with h3 | ⟨h3, d, h4, h5, h6⟩
  · exact .inl h3
  · exact .inr ⟨h3, d, h4, h5, rd_put h6 hl ho⟩
theorem fitem {i : Nat} {x : CV} (h : l[i]? = some x) : l.drop i = x :: l.drop (i + 1) := by
  obtain ⟨hi, e⟩ := List.getElem?_eq_some_iff.1 h
  rw [List.drop_eq_getElem_cons hi, e]
/-- What is found in the last change of the key. -/
theorem app_found {i : Nat} {x : CV} (hx : l[i]? = some x) (hk : x.k = key) (h : ∀ y ∈ l.drop (i + 1), y.k ≠ key) : app b (l.map CV.ch) key = if x.del = true then none else some x.v := by
  have e : l.map CV.ch = (l.take i).map CV.ch ++ x.ch :: (l.drop (i + 1)).map CV.ch := by
    rw [← List.map_cons, ← fitem hx, ← List.map_append, List.take_append_drop]
  rw [e]
  exact app_last b (c := x.ch) (fun y hy => by obtain ⟨z, hz, rfl⟩ := List.mem_map.1 hy; exact h z hz) hk
theorem get_ent {F : Fi} {d : List UInt8} {er : Int} (O : GetO F key d er) (h : Fent F b) (lk : lenK key) : (er = 7 ∧ b key = none ∧ d = []) ∨ (er = 0 ∧ b key = some d) := by
  obtain ⟨hs, s, hr, rfl⟩ := h
  cases O with
  | arg h => exact absurd lk h
  | log _ h => exact absurd hs h
  | get _ _ _ _ hf =>
    cases hf with
    | bad h => exact absurd hr (h s)
    | none t ht hn => obtain rfl := ht.uniq hr; exact .inl ⟨rfl, hn, rfl⟩
    | some t _ ht hn => obtain rfl := ht.uniq hr; exact .inr ⟨rfl, hn⟩
set_option maxHeartbeats 4000000 in
theorem sfind_any (hcs : CsOf f PA np pc r0 FA m fc) (w : World) (G : Hid (Gl w)) (HF : Hid (Fl w f)) (HE : Hid (Fent f.f b)) (C : Hid (Cr w A n c l)) (hn : n ≤ 1000000) (OKL : Hid (∀ x ∈ l, x.ch.ok = true))
    (hk : Hid (Rd w 1 K kn kc (bv key))) (lk : Hid (lenK key)) :
    Calls Tryd.prog 40 #[.agg #[.slice PA np pc, .int .i64 r0, .slice FA m fc], .slice A n c, .slice K kn kc] w (FdPost w (app b (l.map CV.ch) key)) := by
  have NL := Lib.hid C.out.len
  obtain ⟨p, hp⟩ : ∃ p, w.heap.size = p := ⟨_, rfl⟩
  obtain ⟨W1, hW1⟩ : ∃ W1, w.alloc (.cells #[.slice PA np pc, .int .i64 r0, .slice FA m fc] 29) = W1 := ⟨_, rfl⟩
  have v1 : Below w.heap.size w W1 := hW1 ▸ bal _ _
  have X : Hid (Bx W1 p [.slice PA np pc, .int .i64 r0, .slice FA m fc]) := hW1 ▸ Lib.hid (Bx.put _ hp #[.slice PA np pc, .int .i64 r0, .slice FA m fc] 29)
  have TX : Hid (Ty W1 p 29) := hW1 ▸ hp ▸ Lib.hid (Ty.new _ _ _)
  have HW1 := Lib.hid hW1
  clear hW1
  obtain ⟨p2, hp2⟩ : ∃ p2, W1.heap.size = p2 := ⟨_, rfl⟩
  obtain ⟨W2, hW2⟩ : ∃ W2, W1.alloc (.cells #[.slice K kn kc] 23) = W2 := ⟨_, rfl⟩
  have v2 : Below W1.heap.size W1 W2 := hW2 ▸ bal _ _
  have Y : Hid (Bx W2 p2 [.slice K kn kc]) := hW2 ▸ Lib.hid (Bx.put _ hp2 #[.slice K kn kc] 23)
  have TY : Hid (Ty W2 p2 23) := hW2 ▸ hp2 ▸ Lib.hid (Ty.new _ _ _)
  have HW2 := Lib.hid hW2
  clear hW2
  obtain ⟨p3, hp3⟩ : ∃ p3, W2.heap.size = p3 := ⟨_, rfl⟩
  obtain ⟨W3, hW3⟩ : ∃ W3, W2.alloc (.cells #[.slice none 0 0] 23) = W3 := ⟨_, rfl⟩
  have v3 : Below W2.heap.size W2 W3 := hW3 ▸ bal _ _
  have Z : Hid (Bx W3 p3 [.slice none 0 0]) := hW3 ▸ Lib.hid (Bx.put _ hp3 #[.slice none 0 0] 23)
  have TZ : Hid (Ty W3 p3 23) := hW3 ▸ hp3 ▸ Lib.hid (Ty.new _ _ _)
  have HW3 := Lib.hid hW3
  clear hW3
  obtain ⟨p4, hp4⟩ : ∃ p4, W3.heap.size = p4 := ⟨_, rfl⟩
  obtain ⟨W4, hW4⟩ : ∃ W4, W3.alloc (.cells #[.int .i64 0] 38) = W4 := ⟨_, rfl⟩
  have v4 : Below W3.heap.size W3 W4 := hW4 ▸ bal _ _
  have Q : Hid (Bx W4 p4 [.int .i64 0]) := hW4 ▸ Lib.hid (Bx.put _ hp4 #[.int .i64 0] 38)
  have TQ : Hid (Ty W4 p4 38) := hW4 ▸ hp4 ▸ Lib.hid (Ty.new _ _ _)
  have HW4 := Lib.hid hW4
  clear hW4
  obtain ⟨p5, hp5⟩ : ∃ p5, W4.heap.size = p5 := ⟨_, rfl⟩
  obtain ⟨W5, hW5⟩ : ∃ W5, W4.alloc (.cells #[.slice A n c] 36) = W5 := ⟨_, rfl⟩
  have v5 : Below W4.heap.size W4 W5 := hW5 ▸ bal _ _
  have B : Hid (Bx W5 p5 [.slice A n c]) := hW5 ▸ Lib.hid (Bx.put _ hp5 #[.slice A n c] 36)
  have TB : Hid (Ty W5 p5 36) := hW5 ▸ hp5 ▸ Lib.hid (Ty.new _ _ _)
  have HW5 := Lib.hid hW5
  clear hW5
  have e2 : p2 = p + 1 := by rw [← hp2, ← HW1.out, ← hp]; simp
  have e3 : p3 = p + 1 + 1 := by rw [← hp3, ← HW2.out, ← e2, ← hp2]; simp
  have e4 : p4 = p + 1 + 1 + 1 := by rw [← hp4, ← HW3.out, ← e3, ← hp3]; simp
  have e5 : p5 = p + 1 + 1 + 1 + 1 := by rw [← hp5, ← HW4.out, ← e4, ← hp4]; simp
  have s5 : W5.heap.size = p + 1 + 1 + 1 + 1 + 1 := by rw [← HW5.out, ← e5, ← hp5]; simp
  subst e2 e3 e4 e5
  have v15 := (((v1.trans (v2.mono v1.size)).trans (v3.mono (v1.trans (v2.mono v1.size)).size)).trans (v4.mono ((v1.trans (v2.mono v1.size)).trans (v3.mono (v1.trans (v2.mono v1.size)).size)).size))
  have v15 := v15.trans (v5.mono v15.size)
  have I0 : Hid (FI w p PA np pc r0 FA m fc K kn kc A n c l key 0 W5) := Lib.hid ⟨v15, (((X.out.nx v2).nx v3).nx v4).nx v5, ((Y.out.nx v3).nx v4).nx v5, (Z.out.nx v4).nx v5, Q.out.nx v5, B.out, by omega, fun y hy => by rw [List.drop_of_length_le (by have := NL.out; omega)] at hy; cases hy⟩
  have hp := hp
  clear TX TY TZ TQ TB X Y Z Q B v1 v2 v3 v4 v5
  refine callsIn_wide.1 (callsIn_of_wp_marks (n := 3) Tryd.func40 rfl trivial ?_ rfl)
  refine wpIn_wide.2 ?_
  simp only [Tryd.ntmps40, List.size_toArray, List.length_cons, List.length_nil, Nat.reduceAdd, Nat.reduceSub, Array.replicate_succ, Array.replicate_zero, List.push_toArray, List.append_toArray, List.nil_append, List.cons_append]
  go_upto_region 1 with fail
  rw [HW1.out, HW2.out, HW3.out, HW4.out]
  go_wp2_with fail
  go_at_call 57
  have BK : Calls Tryd.prog 57 #[.slice A n c] W4 fun e w' => e = .returned (.func (.func 74) #[] #[.pointer (some ⟨p + 1 + 1 + 1 + 1, 0, none⟩)]) ∧ W5 = w' := by
    clear I0 G HF HE C OKL hk lk NL v15
    go_enter Tryd.func57, Tryd.ntmps57
    go_wp2_with fail
    go_ret
    exact ⟨rfl, HW5.out.symm⟩
  refine BK.mono ?_
  rintro e w' ⟨rfl, rfl⟩
  clear BK
  go_wp2_with fail
  refine (wpIn_wide (n := 3)).1 ?_
  refine range_at2 (F := Fence.wide) rfl (by omega) (gf := 74) (lb := #[.pointer (some ⟨p + 1 + 1 + 1 + 1, 0, none⟩)]) rfl trivial (enters_of Tryd.func74 (by kernel_rfl) rfl) (encs := fun x : Nat × CV => #[.int .i64 (x.1 : Int), x.2.val]) (fun _ => rfl)
    (S := fun xs => xs.length = n) (fun pre x => pre.length < n ∧ x.1 = n - 1 - pre.length ∧ l[x.1]? = some x.2) (fun pre W => FI w p PA np pc r0 FA m fc K kn kc A n c l key pre.length W) (FX w p (app b (l.map CV.ch) key))
    (Below W5.heap.size) (fun h k => h.trans k) (fun W q o' hq => ?kb)
    (fun pre W q o o' hi hq ho hc hw => FI.put hp hi (by omega) ho hc hw) (fun W q o o' hi hq ho hc hw => FX.put hp hi (by omega) ho hc hw) (fun o o' => (I0.out.nx (bel_alloc (bel_alloc (Below.refl _ _) (Nat.le_refl _) o) (by simp) o')))
    (fun pre x a' W => FI w p PA np pc r0 FA m fc K kn kc A n c l key pre.length W ∧ ∃ q, p + 1 + 1 + 1 + 1 + 1 ≤ q ∧ Bx W q [.slice x.2.A x.2.k.length x.2.c, .slice x.2.B x.2.v.length x.2.d, .bool x.2.del] ∧ a' = { tmps := #[.agg #[.slice PA np pc, .int .i64 r0, .slice FA m fc], .slice A n c, .slice K kn kc, .pointer (some ⟨p, 0, none⟩), undef, .pointer (some ⟨p + 1, 0, none⟩), .pointer (some ⟨p + 1 + 1, 0, none⟩), .pointer (some ⟨p + 1 + 1 + 1, 0, none⟩), undef, .pointer (some ⟨q, 0, none⟩), .slice A n c, .func (.func 74) #[] #[.pointer (some ⟨p + 1 + 1 + 1 + 1, 0, none⟩)], .int .i64 (x.1 : Int), x.2.val, undef, undef, undef, undef, undef, undef, undef, undef, undef, undef, undef, undef, undef, undef, undef, undef, undef], defers := [] })
    ?hj ?assign ?body ?seq ?done ?stop
  case kb => exact ⟨rfl, rfl, rfl, by simp, fun k hk => World.putObj_heap_other (by omega)⟩
  case hj =>
    rintro pre x a' W q o o' ⟨hi, qq, hq1, hb, rfl⟩ hq ho hc hw
    exact ⟨FI.put hp hi (by omega) ho hc hw, qq, hq1, bx_put hb (cell_ne (p := ⟨qq, 0, none⟩) (hb.at_ 0 (by simp)) ho hc), rfl⟩
  case assign =>
    rintro lr pre ⟨i, x⟩ W K hz hg hi hK
    dsimp only [CV.val] at hK ⊢
    have HI := Lib.hid hi
    have HK := Lib.hid hK
    clear hg hi hK
    gi_wp2
    exact HK.out _ _ ⟨HI.out.nx (bal _ _), _, by omega, Bx.new W #[.slice x.A x.k.length x.c, .slice x.B x.v.length x.d, .bool x.del] 45, rfl⟩ (Others.alloc _ _) (bel_alloc (Below.refl _ _) (by omega) _) (by simp)
  case seq =>
    rintro lr R D X W rfl hR hD hl hd hb hi hY
    refine back_at 2 (by omega) _ _ (p + 1 + 1 + 1 + 1) W5.heap.size R D _ X W hl hd hi (hi.B.at_ 0 (by simp)) (by omega) hb.size (C.out.row.below hi.b) (fun h0 g o e => ?_) (by omega) hY
    obtain ⟨g', o', e', hg', _⟩ := C.out.row.at_ h0
    rw [e] at e'
    injection e' with e'
    injection e' with e1 e2
    have := hi.b.size
    have := v15.size
    omega
  case stop =>
    rintro W ⟨hb, A', n', c', er, h1, h2, h3⟩ hK
    gi_wp2
    refine ⟨by simp, .inl ⟨_, _, rfl, run_takeDeferred hK, ?_⟩⟩
    have p1 : (W.putObj W5.heap.size (.deferred none)).cell? ⟨p + 1 + 1, 0, none⟩ = some (.slice A' n' c') := (putObj_cell (by show p + 1 + 1 ≠ _; omega)).trans h1
    have p2 : (W.putObj W5.heap.size (.deferred none)).cell? ⟨p + 1 + 1 + 1, 0, none⟩ = some (.int .i64 er) := (putObj_cell (by show p + 1 + 1 + 1 ≠ _; omega)).trans h2
    refine ⟨.tuple #[.slice A' n' c', .int .i64 er], by simp [results, Tryd.results40, go_sem, p1, p2], A', n', c', er, rfl, ?_, hb.trans (belowK_b (w := w) (Nat.le_refl _) W _ _ _ (by omega) hK rfl rfl)⟩
    rcases h3 with h3 | ⟨h3, d, h4, h5, h6⟩
    · exact .inl h3
    · exact .inr ⟨h3, d, h4, Lib.hid h5, Lib.hid (rd_put h6 hK rfl)⟩
  case done =>
    rintro xs W rfl hi hK
    have NO : Hid (app b (l.map CV.ch) key = b key) := Lib.hid (app_no b fun z hz => by
      obtain ⟨y, hy, rfl⟩ := List.mem_map.1 hz
      exact hi.no y (by rw [Nat.sub_self]; exact hy))
    have HI := Lib.hid hi
    have bw := hi.b
    have X := Lib.hid hi.X
    have Y := Lib.hid hi.Y
    have K1 := Lib.hid (hk.out.nx bw)
    have x0 := X.out.at_ 0 (by simp)
    have x1 := X.out.at_ 1 (by simp)
    have x2 := X.out.at_ 2 (by simp)
    simp only [List.getElem?_cons_succ, List.getElem?_cons_zero] at x0 x1 x2
    have y0 := Y.out.at_ 0 (by simp)
    simp only [List.getElem?_cons_zero] at y0
    rw [s5] at hK
    have HK := Lib.hid hK
    clear hi hK I0
    go_wp2_with fail
    go_at_call 58
    refine (Get_cs hcs W (Lib.hid (G.out.below bw)) (Lib.hid (HF.out.below bw)) K1).mono ?_
    rintro e W7 ⟨d, er, A7, c7, O, rfl, rd, b7⟩
    have R := Lib.hid (get_ent O HE.out lk.out)
    obtain ⟨dn, hdn⟩ : ∃ dn, d.length = dn := ⟨_, rfl⟩
    rw [hdn] at rd ⊢
    have HDN := Lib.hid hdn
    have R6 := Lib.hid (HI.out.R6.nx b7)
    have R7 := Lib.hid (HI.out.R7.nx b7)
    have r6 := R6.out.at_ 0 (by simp)
    have r7 := R7.out.at_ 0 (by simp)
    have f6 := R6.out.fz 0 (by simp)
    have f7 := R7.out.fz 0 (by simp)
    simp only [List.getElem?_cons_zero] at r6 r7
    have K7 := Lib.hid (Others.setCell _ ⟨p + 1 + 1 + 1, 0, none⟩ (.int .i64 er) _ _ (Others.setCell _ ⟨p + 1 + 1, 0, none⟩ (.slice A7 dn c7) _ _ (Others.below b7 _ _ HK.out rfl) rfl) rfl)
    have RD : Hid (Rd ((W7.setCell ⟨p + 1 + 1, 0, none⟩ (.slice A7 dn c7)).setCell ⟨p + 1 + 1 + 1, 0, none⟩ (.int .i64 er)) 1 A7 dn c7 (bv d)) := Lib.hid (by
      have hf : ∀ g, blk A7 = some g → W.heap.size ≤ g := rd.out.2
      have h1 := HI.out.R6.lt
      have h2 := HI.out.R7.lt
      exact Rd.set (Rd.set rd.out.1 _ _ fun _ e => by have := hf _ e; simp only at this; omega) _ _ fun _ e => by have := hf _ e; simp only at this; omega)
    have b8 : Below w.heap.size w ((W7.setCell ⟨p + 1 + 1, 0, none⟩ (.slice A7 dn c7)).setCell ⟨p + 1 + 1 + 1, 0, none⟩ (.int .i64 er)) := ((bw.trans (b7.mono bw.size)).setCell (p := ⟨p + 1 + 1, 0, none⟩) (by show w.heap.size ≤ p + 1 + 1; omega) _).setCell (p := ⟨p + 1 + 1 + 1, 0, none⟩) (by show w.heap.size ≤ p + 1 + 1 + 1; omega) _
    have E8 : Hid (((W7.setCell ⟨p + 1 + 1, 0, none⟩ (.slice A7 dn c7)).setCell ⟨p + 1 + 1 + 1, 0, none⟩ (.int .i64 er)).cell? ⟨p + 1 + 1, 0, none⟩ = some (.slice A7 dn c7) ∧ ((W7.setCell ⟨p + 1 + 1, 0, none⟩ (.slice A7 dn c7)).setCell ⟨p + 1 + 1 + 1, 0, none⟩ (.int .i64 er)).cell? ⟨p + 1 + 1 + 1, 0, none⟩ = some (.int .i64 er)) := Lib.hid
      ⟨(World.cell?_setCell_other _ _ _ _ (by simp)).trans (World.cell?_setCell_same _ _ _ r6), World.cell?_setCell_same _ _ _ ((World.cell?_setCell_other _ _ _ _ (by simp)).trans r7)⟩
    clear x0 x1 x2 y0 hdn O
    go_wp2_with fail
    obtain ⟨W8, hW8⟩ : ∃ u, (W7.setCell ⟨p + 1 + 1, 0, none⟩ (.slice A7 dn c7)).setCell ⟨p + 1 + 1 + 1, 0, none⟩ (.int .i64 er) = u := ⟨_, rfl⟩
    rw [hW8] at K7 RD b8 E8 ⊢
    refine ⟨by simp, .inl ⟨_, _, rfl, run_takeDeferred K7.out, ?_⟩⟩
    have p1 : (W8.putObj (p + 1 + 1 + 1 + 1 + 1) (.deferred none)).cell? ⟨p + 1 + 1, 0, none⟩ = some (.slice A7 dn c7) := (putObj_cell (by show p + 1 + 1 ≠ _; omega)).trans E8.out.1
    have p2 : (W8.putObj (p + 1 + 1 + 1 + 1 + 1) (.deferred none)).cell? ⟨p + 1 + 1 + 1, 0, none⟩ = some (.int .i64 er) := (putObj_cell (by show p + 1 + 1 + 1 ≠ _; omega)).trans E8.out.2
    refine ⟨.tuple #[.slice A7 dn c7, .int .i64 er], by simp [results, Tryd.results40, go_sem, p1, p2], A7, dn, c7, er, rfl, ?_, b8.trans (belowK_b (w := w) (Nat.le_refl _) W8 _ _ _ (by omega) K7.out rfl rfl)⟩
    rcases R.out with ⟨h1, h2, h3⟩ | ⟨h1, h2⟩
    · exact .inl ⟨h1, by rw [NO.out, h2], by rw [← HDN.out, h3]; rfl⟩
    · exact .inr ⟨h1, d, by rw [NO.out, h2], Lib.hid HDN.out.symm, Lib.hid (rd_put RD.out K7.out rfl)⟩
  case body =>
    rintro lr pre ⟨i, x⟩ a' W hz ⟨g1, g2, g3⟩ ⟨hi, q, hq, hb, rfl⟩
    dsimp only at g1 g2 g3 hb ⊢
    dsimp only [CV.val]
    have HX := Lib.hid g3
    have HM := Lib.hid (List.mem_of_getElem? g3)
    have DT := Lib.hid ((C.out.dat x HM.out).nx hi.b)
    have OKX := Lib.hid (ok_iff.1 (OKL.out x HM.out))
    have HI := Lib.hid hi
    have bw := hi.b
    have EQ := Lib.hid (Equal_any W (Lib.hid DT.out.k) (Lib.hid (hk.out.nx bw)))
    have VN : x.v.length ≤ 120 := OKX.out.2.1
    obtain ⟨vn, hvn⟩ : ∃ vn, x.v.length = vn := ⟨_, rfl⟩
    obtain ⟨kn', hkn⟩ : ∃ k', x.k.length = k' := ⟨_, rfl⟩
    have HB := Lib.hid hb
    have Y := Lib.hid hi.Y
    have R6 := Lib.hid hi.R6
    have R7 := Lib.hid hi.R7
    have IX := Lib.hid (show i + 1 = n - pre.length by omega)
    have JN : pre.length + 1 ≤ n := by omega
    have GO : Hid (x.k ≠ key → FI w p PA np pc r0 FA m fc K kn kc A n c l key (pre.length + 1) W) := Lib.hid fun hne => ⟨hi.b, hi.X, hi.Y, hi.R6, hi.R7, hi.B, JN, fun y hy => by
      rw [show n - (pre.length + 1) = i by have := IX.out; omega, fitem HX.out] at hy
      rcases List.mem_cons.1 hy with rfl | hy
      · exact hne
      · exact hi.no y (by rw [← IX.out]; exact hy)⟩
    have FN : Hid (x.k = key → app b (l.map CV.ch) key = if x.del = true then none else some x.v) := Lib.hid fun hke => app_found HX.out hke fun y hy => hi.no y (by rw [← IX.out]; exact hy)
    rw [hkn, hvn] at HB
    rw [hkn] at EQ
    rw [hvn] at VN
    have HVN := Lib.hid hvn
    have CL : Hid (Calls Tryd.prog 44 #[.slice x.B vn x.d] W (Mv W 5 1 vn (bv x.v))) := Lib.hid (bclone_any W (Lib.hid (by have := DT.out.v; rwa [hvn] at this)) (bv_one _) (by omega))
    clear g1 g2 g3 hb hi hkn hvn
    have z0 := HB.out.at_ 0 (by simp)
    have z1 := HB.out.at_ 1 (by simp)
    have z2 := HB.out.at_ 2 (by simp)
    simp only [List.getElem?_cons_succ, List.getElem?_cons_zero] at z0 z1 z2
    have y0 := Y.out.at_ 0 (by simp)
    have r6 := R6.out.at_ 0 (by simp)
    have r7 := R7.out.at_ 0 (by simp)
    have f6 := R6.out.fz 0 (by simp)
    have f7 := R7.out.fz 0 (by simp)
    simp only [List.getElem?_cons_zero] at y0 r6 r7
    cases he : eqB x.k key with
    | false =>
      rw [he] at EQ
      have HNE := Lib.hid (show x.k ≠ key from fun e => by rw [e, eqB_self] at he; cases he)
      clear he
      gi_wp2_with (first
        | (refine ⟨trivial, ?_⟩; gi_at_call 16; refine (CallsIn.inRound lr (callsIn_wide.2 EQ.out)).mono ?_; rintro e w' ⟨rfl, rfl⟩))
      exact ⟨Others.refl _, Below.refl _ _, by dsimp only; rw [List.length_append]; exact GO.out HNE.out⟩
    | true =>
      rw [he] at EQ
      have HEQ := Lib.hid (eqB_iff.1 he)
      clear he
      cases hd : x.del with
      | true =>
        rw [hd] at z2
        have RR : Hid (app b (l.map CV.ch) key = none) := Lib.hid (by rw [FN.out HEQ.out, if_pos hd])
        clear hd
        gi_wp2_with (first
          | (refine ⟨trivial, ?_⟩; gi_at_call 16; refine (CallsIn.inRound lr (callsIn_wide.2 EQ.out)).mono ?_; rintro e w' ⟨rfl, rfl⟩))
        refine ⟨(Others.setCell _ _ _).trans (Others.setCell _ _ _), ((bw.setCell (p := ⟨p + 1 + 1, 0, none⟩) (by show w.heap.size ≤ p + 1 + 1; omega) _).setCell (p := ⟨p + 1 + 1 + 1, 0, none⟩) (by show w.heap.size ≤ p + 1 + 1 + 1; omega) _), none, 0, 0, 7, ?_, ?_, .inl ⟨rfl, RR.out, rfl⟩⟩
        · exact (World.cell?_setCell_other _ _ _ _ (by simp)).trans (World.cell?_setCell_same _ _ _ r6)
        · exact World.cell?_setCell_same _ _ _ ((World.cell?_setCell_other _ _ _ _ (by simp)).trans r7)
      | false =>
        rw [hd] at z2
        have RR : Hid (app b (l.map CV.ch) key = some x.v) := Lib.hid (by rw [FN.out HEQ.out, if_neg (by rw [hd]; simp)])
        clear hd
        gi_wp2_with (first
          | (refine ⟨trivial, ?_⟩; gi_at_call 16; refine (CallsIn.inRound lr (callsIn_wide.2 EQ.out)).mono ?_; rintro e w' ⟨rfl, rfl⟩)
          | (refine ⟨trivial, ?_⟩; gi_at_call 44; refine (CallsIn.inRound lr (callsIn_wide.2 CL.out)).mono ?_; rintro e W7 ⟨A7, c7, rfl, own, b7⟩; have R6' := Lib.hid (R6.out.nx b7); have R7' := Lib.hid (R7.out.nx b7); have t6 := R6'.out.at_ 0 (by simp); have t7 := R7'.out.at_ 0 (by simp); have u6 := R6'.out.fz 0 (by simp); have u7 := R7'.out.fz 0 (by simp); simp only [List.getElem?_cons_zero] at t6 t7))
        have h6 := R6.out.lt
        have h7 := R7.out.lt
        refine ⟨((Others.below b7).trans (Others.setCell _ _ _)).trans (Others.setCell _ _ _), (((bw.trans (b7.mono bw.size)).setCell (p := ⟨p + 1 + 1, 0, none⟩) (by show w.heap.size ≤ p + 1 + 1; omega) _).setCell (p := ⟨p + 1 + 1 + 1, 0, none⟩) (by show w.heap.size ≤ p + 1 + 1 + 1; omega) _), A7, vn, c7, 0, ?_, ?_, .inr ⟨rfl, x.v, RR.out, HVN.out.symm, ?_⟩⟩
        · exact (World.cell?_setCell_other _ _ _ _ (by simp)).trans (World.cell?_setCell_same _ _ _ t6)
        · exact World.cell?_setCell_same _ _ _ ((World.cell?_setCell_other _ _ _ _ (by simp)).trans t7)
        · exact Rd.of_own (own_set (own_set own.out ⟨p + 1 + 1, 0, none⟩ _ fun e => by have := (own_blk_le own.out e).1; simp only at this; omega) ⟨p + 1 + 1 + 1, 0, none⟩ _ fun e => by have := (own_blk_le own.out e).1; simp only at this; omega)
end
end Go.Proofs.YtpmkohnljngbhaaDoor.Sr
