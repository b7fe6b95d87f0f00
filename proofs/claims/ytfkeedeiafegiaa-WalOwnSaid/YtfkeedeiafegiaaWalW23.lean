/- Walks: deleting the records of earlier transactions. -/
import Derived.Test.YtfkeedeiafegiaaWalW22
import Derived.Lib.SliceRun
namespace Go.Proofs.Ytfkeedeiafegiaa.Wl
set_option linter.unusedVariables false
set_option linter.unusedSimpArgs false
open Go.RowKit

def late (f : Int) (r : Rec) : Bool := decide (f ≤ r.t)
theorem keeps1_any (k t : Int) (A : Option Addr) (n c p : Nat) (f : Int) (w : World) (hp : w.cell? ⟨p, 0, none⟩ = some (.int .i64 f)) (hz : p < w.heap.size) :
    Calls Try.prog 39 #[.agg #[.int .i64 k, .int .i64 t, .slice A n c], .pointer (some ⟨p, 0, none⟩)] w fun e w' => e = .returned (.bool (decide (t < f))) ∧ Below w.heap.size w w' := by
  have hp2 := (cell_alloc_lt (w := w) (o := .cells #[.int .i64 k, .int .i64 t, .slice A n c] 24) (k := 0) hz).trans hp
  go_enter Try.func39, Try.ntmps39
  go_wp2
  go_ret
  exact ⟨rfl, (Below.refl _ _).alloc (Nat.le_refl _) _⟩
/-- The index of the first record of an earlier transaction, or -1. -/
def Ie (w : World) (f : Int) (l : List RV) (e : Ending) (w' : World) : Prop :=
  Below w.heap.size w w' ∧ ((∃ i x, e = .returned (.int .i64 (i : Nat)) ∧ l[i]? = some x ∧ x.t < f ∧ ∀ y ∈ l.take i, f ≤ y.t) ∨ (e = .returned (.int .i64 (-1)) ∧ ∀ y ∈ l, f ≤ y.t))
theorem IndexLate_any {A : Option Addr} {n c p : Nat} {a : List RV} (f : Int) (w : World) (h : Hid (Rr w A n c a)) (hp : w.cell? ⟨p, 0, none⟩ = some (.int .i64 f)) (hz : p < w.heap.size) :
    Calls Try.prog 55 #[.slice A n c, .func (.func 39) #[] #[.pointer (some ⟨p, 0, none⟩)]] w (Ie w f a) := by
  have hnc := h.out.row.nc
  have hc63 := h.out.row.c63
  go_enter Try.func55, Try.ntmps55
  go_wp2_with fail
  go_loopw [8] (fun i wr => ∃ j : Nat, j ≤ n ∧ i = .int .i64 j ∧ Below w.heap.size w wr ∧ Hid (∀ y ∈ a.take j, f ≤ y.t)) (fun i _ => (n - intOf i).toNat)
  case atStart => exact ⟨0, by omega, rfl, Below.refl _ _, Lib.hid (by simp)⟩
  case round =>
    obtain ⟨j, hj, rfl, bw, hpre⟩ := hrel
    have hwz := bw.size
    by_cases hlt : j < n
    · obtain ⟨g, o, x, rfl, hg, hx, hxm, a0, a1, a2⟩ := (h.out.below bw).rec_ hlt
      obtain ⟨nx, hnx⟩ : ∃ nx, x.d.length = nx := ⟨_, rfl⟩
      rw [hnx] at a2
      have HX := Lib.hid hx
      have hp1 : wr.cell? ⟨p, 0, none⟩ = some (.int .i64 f) := (bw.cell (p := ⟨p, 0, none⟩) hz).trans hp
      clear hnx hx
      go_wp2_with fail
      go_at_call 39
      refine (keeps1_any x.k x.t x.A nx x.c p f _ hp1 (by omega)).mono ?_
      rintro e w1 ⟨rfl, hb1⟩
      have bw1 : Below w.heap.size w w1 := bel_step bw hb1 (Nat.le_refl _)
      clear hb1
      by_cases hs : x.t < f
      · have HS := Lib.hid hs
        go_wp2_with fail
        go_ret
        exact ⟨bw1, .inl ⟨j, x, rfl, HX.out, HS.out, hpre.out⟩⟩
      · have hp2 : Hid (∀ y ∈ a.take (j + 1), f ≤ y.t) := Lib.hid fun y hy => by
          rw [take_rv HX.out] at hy
          rcases List.mem_append.1 hy with hy | hy
          · exact hpre.out y hy
          · obtain rfl : y = x := by simpa using hy
            omega
        go_wp2_with fail
        go_roundw
        case rel => exact ⟨j + 1, by omega, by go_num, bw1, hp2⟩
        case measure => simp [intOf]; omega
    · obtain rfl : j = n := by omega
      have R : Hid (∀ y ∈ a, f ≤ y.t) := Lib.hid (by
        have h1 := hpre.out
        rwa [List.take_of_length_le (by rw [← h.out.len]; omega)] at h1)
      go_wp2_with fail
      go_ret
      exact ⟨bw, .inr ⟨rfl, R.out⟩⟩
theorem cells_set : ∀ (l : List RV) (i : Nat) (x : RV), i < l.length → (((cells l).set (i * 3) (.int .i64 x.k)).set (i * 3 + 1) (.int .i64 x.t)).set (i * 3 + 2) (.slice x.A x.d.length x.c) = cells (l.set i x)
  | [], i, x, h => by simp at h
  | y :: l, 0, x, _ => by simp [cells, RV.cs]
  | y :: l, i + 1, x, h => by
    have ih := cells_set l i x (by simpa using h)
    have e : ∀ l, cells (y :: l) = .int .i64 y.k :: .int .i64 y.t :: .slice y.A y.d.length y.c :: cells l := fun l => by simp [cells, RV.cs]
    rw [List.set_cons_succ, e, e, ← ih]
    rw [show (i + 1) * 3 = i * 3 + 1 + 1 + 1 by omega]
    simp only [List.set_cons_succ]
theorem own_setCells {base n c g : Nat} {e size : Nat} : ∀ (vs : List Value) (o : Nat) (w : World) (xs : List Value), w.ownsRow base e size (.slice (some ⟨g, 0, none⟩) n c) n xs →
    ∃ ys, (w.setCells g o vs).ownsRow base e size (.slice (some ⟨g, 0, none⟩) n c) n ys ∧ ys.take o = xs.take o ∧ w.grownBy (w.setCells g o vs) (some g)
  | [], o, w, xs, h => ⟨xs, h, rfl, rfl, rfl, rfl, Nat.le_refl _, fun _ _ _ => rfl⟩
  | v :: vs, o, w, xs, h => by
    obtain ⟨h1, h2⟩ := h.stored o v
    obtain ⟨ys, i1, i2, i3⟩ := own_setCells vs (o + 1) _ _ h1
    refine ⟨ys, i1, ?_, ?_⟩
    · have := congrArg (List.take o) i2
      rw [List.take_take, List.take_take, Nat.min_eq_left (by omega)] at this
      rw [this, List.take_set_of_le (Nat.le_refl _)]
    · exact ⟨i3.os.trans h2.os, i3.tape.trans h2.tape, i3.output.trans h2.output, Nat.le_trans h2.size i3.size, fun i hi hne => (i3.block i (Nat.lt_of_lt_of_le hi h2.size) hne).trans (h2.block i hi hne)⟩
theorem zeroR (w : World) : (zeroValue 24).run Try.prog w = .ok (.agg #[.int .i64 0, .int .i64 0, .slice none 0 0]) w := by kernel_rfl
theorem run_clear_rec (w : World) (ty : TypeId) (b o n c : Nat) (hn : 0 < n)
    (hc : ∀ j, j < n * 3 → (w.cell? ⟨b, o + j, none⟩).isSome = true) (hf : ∀ j, j < n * 3 → w.frozen? ⟨b, o + j, none⟩ = false) :
    ∃ vs, (Builtin.clear_ #[33] ty #[.slice (some ⟨b, o, none⟩) n c]).run Try.prog w = .ok (.tuple #[]) (w.setCells b o vs) := by
  have hz : (Value.agg #[.int .i64 0, .int .i64 0, .slice none 0 0]).cells = #[.int .i64 0, .int .i64 0, .slice none 0 0] := rfl
  obtain ⟨vs, hvs⟩ : ∃ vs, (Builtin.zeroCells (Value.agg #[.int .i64 0, .int .i64 0, .slice none 0 0]).cells n).toList = vs := ⟨_, rfl⟩
  have hl : vs.length = n * 3 := by rw [← hvs, hz]; simp [Builtin.zeroCells]
  have h1 : ∀ v ∈ vs, v.oneCell' = true := by
    intro v hv
    rw [← hvs, hz] at hv
    simp [Builtin.zeroCells] at hv
    obtain ⟨i, _, rfl⟩ := hv
    have : i % 3 = 0 ∨ i % 3 = 1 ∨ i % 3 = 2 := by omega
    rcases this with e | e | e <;> rw [e] <;> rfl
  have hst := run_storeCells_cells (P := Try.prog) b o vs 0 w (by simpa [hl] using hc) (by simpa [hl] using hf) h1
  simp only [Nat.add_zero] at hst
  obtain ⟨m, rfl⟩ : ∃ m, n = m + 1 := ⟨n - 1, by omega⟩
  refine ⟨vs, ?_⟩
  simp [Builtin.clear_, run_underlying Try.underlying33, zeroR, hvs, hst]
theorem own_at3 {w : World} {base e g n c i : Nat} {l : List RV} {x : RV} (h : w.ownsRow base e 3 (.slice (some ⟨g, 0, none⟩) n c) n (cells l)) (hx : l[i]? = some x) :
    w.cell? ⟨g, i * 3, none⟩ = some (.int .i64 x.k) ∧ w.cell? ⟨g, i * 3 + 1, none⟩ = some (.int .i64 x.t) ∧ w.cell? ⟨g, i * 3 + 2, none⟩ = some (.slice x.A x.d.length x.c) := by
  have hi := (List.getElem?_eq_some_iff.1 hx).1
  have hn : n = l.length := len3 (Rd.of_own h)
  obtain ⟨k0, k1, k2⟩ := cells_get l i x hx
  exact ⟨by rw [h.cellAt _ (by omega), k0], by rw [h.cellAt _ (by omega), k1], by rw [h.cellAt _ (by omega), k2]⟩
def keepL (f : Int) (l : List RV) : List RV := l.filter fun x => decide (f ≤ x.t)
/-- The loop of deleting. -/
structure Dl (l l' : List RV) (f : Int) (i j : Nat) : Prop where
  len : l'.length = l.length
  kept : l'.take i = keepL f (l.take j)
  rest : ∀ k, j ≤ k → l'[k]? = l[k]?
  lt : i < j
section
variable {l l' : List RV} {f : Int} {i j : Nat} {x : RV}
theorem Dl.start (hx : l[i]? = some x) (ht : x.t < f) (h : ∀ y ∈ l.take i, f ≤ y.t) : Dl l l f i (i + 1) := by
  refine ⟨rfl, ?_, fun _ _ => rfl, by omega⟩
  unfold keepL
  rw [take_rv hx, List.filter_append, List.filter_eq_self.2 (fun y hy => decide_eq_true (h y hy)), List.filter_cons_of_neg (by simp; omega)]
  simp
theorem Dl.keep (h : Dl l l' f i j) (hx : l[j]? = some x) (ht : f ≤ x.t) : Dl l (l'.set i x) f (i + 1) (j + 1) := by
  have hj := (List.getElem?_eq_some_iff.1 hx).1
  have hi : i < l'.length := by rw [h.len]; have := h.lt; omega
  refine ⟨by rw [List.length_set]; exact h.len, ?_, fun k hk => ?_, by have := h.lt; omega⟩
  · unfold keepL
    rw [take_rv hx, List.filter_append, take_rv (k := i) (x := x) (by rw [List.getElem?_set_self hi]), List.take_set_of_le (Nat.le_refl _), h.kept, List.filter_cons_of_pos (by simpa using ht)]
    rfl
  · rw [List.getElem?_set_ne (by have := h.lt; omega)]; exact h.rest k (by omega)
theorem Dl.drop (h : Dl l l' f i j) (hx : l[j]? = some x) (ht : x.t < f) : Dl l l' f i (j + 1) := by
  refine ⟨h.len, ?_, fun k hk => h.rest k (by omega), by have := h.lt; omega⟩
  unfold keepL
  rw [take_rv hx, List.filter_append, List.filter_cons_of_neg (by simp; omega)]
  simpa [keepL] using h.kept
theorem Dl.all (h : Dl l l' f i j) (hj : l.length ≤ j) : l'.take i = keepL f l := by rw [h.kept, List.take_of_length_le hj]
end
set_option maxRecDepth 20000 in
set_option maxHeartbeats 1600000 in
theorem DeleteLate_any {A : Option Addr} {n c p base : Nat} {a : List RV} (f : Int) (w : World) (h : Hid (w.ownsRow base 24 3 (.slice A n c) n (cells a))) (hd : Hid (∀ x ∈ a, Rd w 1 x.A x.d.length x.c (bv x.d)))
    (hp : w.cell? ⟨p, 0, none⟩ = some (.int .i64 f)) (hz : p < w.heap.size) (hpA : Hid (blk A ≠ some p)) :
    Calls Try.prog 37 #[.slice A n c, .func (.func 39) #[] #[.pointer (some ⟨p, 0, none⟩)]] w fun e w' => ∃ m c', e = .returned (.slice A m c') ∧ Rd w' 3 A m c' (cells (keepL f a)) ∧ w.grownBy w' (blk A) := by
  have hr : Hid (Rr w A n c a) := Lib.hid ⟨Rd.of_own h.out, hd.out⟩
  have hln := Lib.hid hr.out.len
  have hnc := hr.out.row.nc
  have hc63 := hr.out.row.c63
  go_enter Try.func37, Try.ntmps37
  go_wp2_with fail
  go_at_call 55
  refine (IndexLate_any f _ hr hp hz).mono ?_
  rintro e w1 ⟨b1, ⟨i, x, rfl, hx, ht, hpre⟩ | ⟨rfl, hall⟩⟩
  · have hi : i < n := by have := (List.getElem?_eq_some_iff.1 hx).1; have := hln.out; omega
    obtain ⟨g, rfl, _, _⟩ := own_pos h.out (by omega)
    have hgp : g ≠ p := fun e => hpA.out (by rw [e]; rfl)
    have DL := Lib.hid (Dl.start hx ht hpre)
    have ow1 := Lib.hid (own_below h.out b1)
    have hgz : g < w.heap.size := (own_blk_le (g := g) h.out rfl).2
    have gw1 : w.grownBy w1 (some g) := ⟨b1.os, b1.tape, b1.output, b1.size, fun i hi _ => b1.block i hi⟩
    have hne1 : ((i : Int) == -1) = false := by simp
    clear hx ht hpre b1
    go_wp2_with fail
    go_loopw [5, 6] (fun iv jv wr => ∃ (i j : Nat) (l' : List RV), iv = .int .i64 i ∧ jv = .int .i64 j ∧ j ≤ n ∧ i < j ∧ Hid (Dl a l' f i j) ∧ Hid (wr.ownsRow base 24 3 (.slice (some ⟨g, 0, none⟩) n c) n (cells l')) ∧ w.grownBy wr (some g)) (fun _ j _ => (n - intOf j).toNat)
    case atStart => exact ⟨i, i + 1, a, rfl, by go_num, by omega, by omega, DL, ow1, gw1⟩
    case round =>
      clear DL ow1 gw1 hne1 hi
      obtain ⟨i, j, l', rfl, rfl, hj, hij, dl, ow, gw⟩ := hrel
      have hwz := gw.size
      have hp1 : wr.cell? ⟨p, 0, none⟩ = some (.int .i64 f) := (World.cell?_of_block (gw.block p hz (by intro e; exact hgp (Option.some.inj e).symm))).trans hp
      by_cases hlt : j < n
      · obtain ⟨x, hx⟩ : ∃ x, a[j]? = some x := ⟨_, List.getElem?_eq_getElem (by have := hln.out; omega)⟩
        have hx' : l'[j]? = some x := by rw [dl.out.rest j (Nat.le_refl _)]; exact hx
        obtain ⟨a0, a1, a2⟩ := own_at3 ow.out hx'
        obtain ⟨nx, hnx⟩ : ∃ nx, x.d.length = nx := ⟨_, rfl⟩
        rw [hnx] at a2
        have HX := Lib.hid hx
        have HN := Lib.hid hnx
        have hzg : g < wr.heap.size := by omega
        obtain ⟨Wa, hWa⟩ : ∃ Wa, wr.alloc (.cells #[.int .i64 x.k, .int .i64 x.t, .slice x.A nx x.c] 24) = Wa := ⟨_, rfl⟩
        obtain ⟨y0, y1, y2⟩ := box3 wr (.int .i64 x.k) (.int .i64 x.t) (.slice x.A nx x.c) 24
        rw [hWa] at y0 y1 y2
        have hba : Below wr.heap.size wr Wa := hWa ▸ (Below.refl _ _).alloc (Nat.le_refl _) _
        have hza : wr.heap.size < Wa.heap.size := by rw [← hWa]; simp
        have pa : Wa.cell? ⟨p, 0, none⟩ = some (.int .i64 f) := (hba.cell (p := ⟨p, 0, none⟩) (by show p < _; omega)).trans hp1
        have owa := Lib.hid (own_below ow.out hba)
        have HWa := Lib.hid hWa
        clear hWa hx hx' hnx ow hp1
        go_wp2_with fail
        rw [HWa.out]
        go_at_call 39
        refine (keeps1_any x.k x.t x.A nx x.c p f _ pa (by omega)).mono ?_
        rintro e w2 ⟨rfl, b2⟩
        have y0' := (b2.cell (p := ⟨wr.heap.size, 0, none⟩) hza).trans y0
        have y1' := (b2.cell (p := ⟨wr.heap.size, 1, none⟩) hza).trans y1
        have y2' := (b2.cell (p := ⟨wr.heap.size, 2, none⟩) hza).trans y2
        have ow2 := own_below owa.out b2
        have gw2 : w.grownBy w2 (some g) := ⟨(b2.os.trans hba.os).trans gw.os, (b2.tape.trans hba.tape).trans gw.tape, (b2.output.trans hba.output).trans gw.output, by have := b2.size; omega, fun k hk hne => ((b2.block k (by omega)).trans (hba.block k (by omega))).trans (gw.block k hk hne)⟩
        clear y0 y1 y2 b2 hba pa
        by_cases hs : x.t < f
        · have DL2 := Lib.hid (dl.out.drop HX.out hs)
          go_wp2_with fail
          go_roundw
          case rel => exact ⟨i, j + 1, l', rfl, by go_num, by omega, by omega, DL2, Lib.hid ow2, gw2⟩
          case measure => simp [intOf]; omega
        · have DL2 := Lib.hid (dl.out.keep HX.out (by omega))
          have hlen : l'.length = n := by rw [dl.out.len]; exact hln.out.symm
          obtain ⟨u0, hu0⟩ : ∃ u, w2.cell? ⟨g, i * 3, none⟩ = some u := ⟨_, (own_at3 ow2 (x := l'[i]'(by omega)) (List.getElem?_eq_getElem (by omega))).1⟩
          obtain ⟨u1, hu1⟩ : ∃ u, w2.cell? ⟨g, i * 3 + 1, none⟩ = some u := ⟨_, (own_at3 ow2 (x := l'[i]'(by omega)) (List.getElem?_eq_getElem (by omega))).2.1⟩
          obtain ⟨u2, hu2⟩ : ∃ u, w2.cell? ⟨g, i * 3 + 2, none⟩ = some u := ⟨_, (own_at3 ow2 (x := l'[i]'(by omega)) (List.getElem?_eq_getElem (by omega))).2.2⟩
          have f0 : w2.frozen? ⟨g, i * 3, none⟩ = false := ow2.frozenAt _
          have f1 : w2.frozen? ⟨g, i * 3 + 1, none⟩ = false := ow2.frozenAt _
          have f2 : w2.frozen? ⟨g, i * 3 + 2, none⟩ = false := ow2.frozenAt _
          obtain ⟨s1, g1⟩ := ow2.stored (i * 3) (.int .i64 x.k)
          obtain ⟨s2, g2⟩ := s1.stored (i * 3 + 1) (.int .i64 x.t)
          obtain ⟨s3, g3⟩ := s2.stored (i * 3 + 2) (.slice x.A nx x.c)
          have own3 : Hid ((((w2.setCell ⟨g, i * 3, none⟩ (.int .i64 x.k)).setCell ⟨g, i * 3 + 1, none⟩ (.int .i64 x.t)).setCell ⟨g, i * 3 + 2, none⟩ (.slice x.A nx x.c)).ownsRow base 24 3 (.slice (some ⟨g, 0, none⟩) n c) n (cells (l'.set i x))) := Lib.hid (by
            rw [← cells_set l' i x (by omega), HN.out]; exact s3)
          have gw3 : w.grownBy (((w2.setCell ⟨g, i * 3, none⟩ (.int .i64 x.k)).setCell ⟨g, i * 3 + 1, none⟩ (.int .i64 x.t)).setCell ⟨g, i * 3 + 2, none⟩ (.slice x.A nx x.c)) (some g) :=
            ⟨((g3.os.trans g2.os).trans g1.os).trans gw2.os, ((g3.tape.trans g2.tape).trans g1.tape).trans gw2.tape, ((g3.output.trans g2.output).trans g1.output).trans gw2.output, Nat.le_trans gw2.size (Nat.le_trans g1.size (Nat.le_trans g2.size g3.size)),
              fun k hk hne => (((g3.block k (Nat.lt_of_lt_of_le hk (Nat.le_trans gw2.size (Nat.le_trans g1.size g2.size))) hne).trans (g2.block k (Nat.lt_of_lt_of_le hk (Nat.le_trans gw2.size g1.size)) hne)).trans (g1.block k (Nat.lt_of_lt_of_le hk gw2.size) hne)).trans (gw2.block k hk hne)⟩
          have hsd : decide (x.t < f) = false := by simp; omega
          clear s1 s2 s3 g1 g2 g3 hlen ow2 gw2 hs
          go_wp2_with fail
          go_roundw
          case rel => exact ⟨i + 1, j + 1, _, by go_num, by go_num, by omega, by omega, DL2, own3, gw3⟩
          case measure => simp [intOf]; omega
      · obtain rfl : j = n := by omega
        have hT : Hid (l'.take i = keepL f a) := Lib.hid (dl.out.all (by have := hln.out; omega))
        have hci : ¬ c = i := by omega
        obtain ⟨vs, hcl⟩ : ∃ vs, ∀ ty, (Builtin.clear_ #[33] ty #[.slice (some ⟨g, i * 3, none⟩) (j - i) (c - i)]).run Try.prog wr = .ok (.tuple #[]) (wr.setCells g (i * 3) vs) := by
          obtain ⟨vs, hv⟩ := run_clear_rec wr 0 g (i * 3) (j - i) (c - i) (by omega) (fun q hq => by
            have hcl := ow.out.cellAt (i * 3 + q) (by omega)
            rw [hcl]
            have hlen : (cells l').length = j * 3 := ow.out.1
            rw [List.getElem?_eq_getElem (by omega)]; rfl) (fun q _ => ow.out.frozenAt _)
          exact ⟨vs, fun ty => hv⟩
        obtain ⟨ys, o1, o2, o3⟩ := own_setCells vs (i * 3) _ _ ow.out
        have hrd : Hid (Rd (wr.setCells g (i * 3) vs) 3 (some ⟨g, 0, none⟩) i c (cells (keepL f a))) := Lib.hid (by
          have := (Rd.of_own o1).upto (k := i) (by omega)
          rw [o2, cells_take, hT.out] at this; exact this)
        have gwF : w.grownBy (wr.setCells g (i * 3) vs) (some g) := ⟨o3.os.trans gw.os, o3.tape.trans gw.tape, o3.output.trans gw.output, Nat.le_trans gw.size o3.size, fun k hk hne => (o3.block k (Nat.lt_of_lt_of_le hk gw.size) hne).trans (gw.block k hk hne)⟩
        clear o1 o2 o3 hT ow dl
        go_wp2_with fail
        go_ret
        exact ⟨i, c, rfl, hrd.out, gwF⟩
  · have hK : Hid (keepL f a = a) := Lib.hid (List.filter_eq_self.2 fun y hy => decide_eq_true (hall y hy))
    have hrd : Hid (Rd w1 3 A n c (cells a)) := Lib.hid (hr.out.row.below b1)
    clear hall
    go_wp2_with fail
    go_ret
    exact ⟨n, c, rfl, by rw [hK.out]; exact hrd.out, ⟨b1.os, b1.tape, b1.output, b1.size, fun i hi _ => b1.block i hi⟩⟩
end Go.Proofs.Ytfkeedeiafegiaa.Wl
