/- Walks: great. -/
import Derived.Test.YtpmkohnljngbhaaGreatDoorWalB
import Derived.Test.YtpmkohnljngbhaaGreatDoorWalA
import Derived.Test.YtpmkohnljngbhaaGreatDoorProg
import Derived.ProofKit
import Derived.OpenShut
import Derived.ShutString
import Derived.ChangeOld
import Derived.ChangeSame
import Derived.Below
import Derived.Lib.SmallJoins
import Derived.Deep.Slices
import Derived.Deep.Strs
import Derived.Lib.ConvBytes
import Derived.Deep.RegionWith
set_option linter.all false
namespace Go.Proofs.YtpmkohnljngbhaaGreatDoor.Wl
set_option linter.unusedVariables false
set_option linter.unusedSimpArgs false
set_option maxRecDepth 1000000
open Go.RowKit

def bigB (l : List RV) : Bool := l.any fun x => decide (5000 < x.d.length)
def greatB (l : List RV) : Bool := decide (40 < l.length) || bigB l
theorem greatB_f {l : List RV} (h : greatB l = false) : l.length ≤ 40 ∧ ∀ x ∈ l, x.d.length ≤ 5000 := by
  unfold greatB bigB at h
  simp only [Bool.or_eq_false_iff, decide_eq_false_iff_not, List.any_eq_false, decide_eq_true_eq] at h
  exact ⟨by omega, fun x hx => by have := h.2 x hx; omega⟩
/-- The index of the first one, or -1. -/
def Ix (w : World) (b : Bool) (e : Ending) (w' : World) : Prop := ∃ i : Int, e = .returned (.int .i64 i) ∧ (b = true → 0 ≤ i) ∧ (b = false → i = -1) ∧ Below w.heap.size w w'
theorem Ix.t {w w' : World} {b : Bool} {i : Int} {e : Ending} (hb : b = true) (he : e = .returned (.int .i64 i)) (h : 0 ≤ i) (hw : Below w.heap.size w w') : Ix w b e w' := ⟨i, he, fun _ => h, (fun h => by rw [hb] at h; cases h), hw⟩
theorem Ix.f {w w' : World} {b : Bool} {e : Ending} (hb : b = false) (he : e = .returned (.int .i64 (-1))) (hw : Below w.heap.size w w') : Ix w b e w' := ⟨-1, he, (fun h => by rw [hb] at h; cases h), fun _ => rfl, hw⟩
end Go.Proofs.YtpmkohnljngbhaaGreatDoor.Wl
/- Bytes and records among the arguments, opened to their cells. -/
namespace Go.Proofs.YtpmkohnljngbhaaGreatDoor.Wl
set_option maxRecDepth 1000000
open Go.ChangeShapes Go.WideShapes Go.Deep Go.RowKit

theorem cell_lt {W : World} {p : Addr} {v : Value} (h : W.cell? p = some v) : p.block < W.heap.size ∧ p.spot = none := by
  unfold World.cell? at h
  rcases hh : W.heap[p.block]? with _ | o
  · rw [hh] at h; simp at h
  · refine ⟨(Array.getElem?_eq_some_iff.1 hh).1, ?_⟩
    rw [hh] at h
    cases o <;> first | (simp at h; done) | skip
    rcases hs : p.spot with _ | x
    · rfl
    · simp [hs] at h
theorem addr_at {W : World} {a : Addr} {v : Value} (h : W.cell? (a.add 0) = some v) : a.block < W.heap.size ∧ a = ⟨a.block, a.off, none⟩ ∧ ∀ k, a.add k = ⟨a.block, a.off + k, none⟩ := by
  have e : a.add 0 = a := by simp [Addr.add]
  rw [e] at h
  obtain ⟨h1, h2⟩ := cell_lt h
  have ha : a = ⟨a.block, a.off, none⟩ := by cases a; simp at h2 ⊢; exact h2
  refine ⟨h1, ha, fun k => ?_⟩
  rw [ha]; exact addr_add _ _ _
section
variable {H : Type} {enc : TypeId × Value → H} {W : World} {base : Nat} {spare : Nat → Bool} {held : Bool}
theorem open_bytes {fuel : Nat} {c0 : Value} {y : DataW H × List MemPlace} (h : DataW.trod enc Tryz.prog W base spare held fuel 30 [c0] = some y) :
    ∃ (A : Option Addr) (n c : Nat) (d : List UInt8), c0 = .slice A n c ∧ Rd W 1 A n c (bv d) := by
  have one1 : Tryz.prog.cellsOf 5 = 1 := by kernel_rfl
  rcases open_slice Tryz.underlying30 h with ⟨hc, _⟩ | ⟨a, len, cap, m, fu, D, Pl, hc, _, hlc, hcm, hm, _, hi⟩
  · obtain rfl : c0 = .slice none 0 0 := by simpa using hc
    exact ⟨none, 0, 0, [], rfl, Rd.nil_ _ _⟩
  · obtain rfl : c0 = .slice (some a) len cap := by simpa using hc
    have hlm : len ≤ m := by rw [hm]; split <;> omega
    have hel : ∀ i, i < len → ∃ q : UInt8, W.cell? (a.add i) = some (.int .u8 (q.toNat : Int)) := by
      intro i him
      obtain ⟨cs', hcs, ht⟩ := hi i (by omega)
      rw [one1] at hcs
      obtain ⟨_, hcl, hat⟩ := World.cells?_some hcs
      match cs', hcl with
      | [x], _ =>
        obtain ⟨u, e, _, wf⟩ := DataW.trod_int Tryz.underlying5 ht
        obtain rfl : x = .int .u8 u := by simpa using e
        have h0 := hat 0 (by omega)
        have hb := bounds_u8 wf
        refine ⟨UInt8.ofNat u.toNat, ?_⟩
        rw [show ((UInt8.ofNat u.toNat).toNat : Int) = u by simp; omega]
        rw [add_add, Nat.mul_one, Nat.add_zero] at h0
        exact h0
    obtain ⟨f, hf⟩ := choose_lt hel
    have hmx : maxLen = 9223372036854775807 := by decide
    refine ⟨some a, len, cap, (List.range len).map f, rfl, ?_, hlc, fun e => (by cases e), by omega, fun h0 => ?_⟩
    · rw [bv_len]; simp
    · obtain ⟨h1, h2, h3⟩ := addr_at (hf 0 h0)
      refine ⟨a.block, a.off, by rw [← h2], h1, fun j hj => ?_⟩
      rw [← h3, hf j (by omega), bv_get, List.getElem?_map, List.getElem?_range (by omega)]; rfl
instance : Inhabited RV := ⟨⟨0, 0, none, 0, []⟩⟩
/-- What a record of the program may hold. -/
def Fit (l : List RV) : Prop := ∀ x ∈ l, x.t ≤ 9223372036854775807
theorem open_recs {fuel : Nat} {c0 : Value} {y : DataW H × List MemPlace} (h : DataW.trod enc Tryz.prog W base spare held fuel 85 [c0] = some y) :
    ∃ (A : Option Addr) (n c : Nat) (l : List RV), c0 = .slice A n c ∧ Rr W A n c l ∧ Fit l := by
  have three : Tryz.prog.cellsOf 89 = 3 := by kernel_rfl
  have one3 : Tryz.prog.cellsOf 3 = 1 := by kernel_rfl
  have one22 : Tryz.prog.cellsOf 30 = 1 := by kernel_rfl
  rcases open_slice Tryz.underlying85 h with ⟨hc, _⟩ | ⟨a, len, cap, m, fu, D, Pl, hc, _, hlc, hcm, hm, _, hi⟩
  · obtain rfl : c0 = .slice none 0 0 := by simpa using hc
    exact ⟨none, 0, 0, [], rfl, ⟨Rd.nil_ _ _, by simp⟩, by simp [Fit]⟩
  · obtain rfl : c0 = .slice (some a) len cap := by simpa using hc
    have hlm : len ≤ m := by rw [hm]; split <;> omega
    have hel : ∀ i, i < len → ∃ q : RV, (W.cell? (a.add (i * 3)) = some (.int .i64 q.k) ∧ W.cell? (a.add (i * 3 + 1)) = some (.int .i64 q.t) ∧ W.cell? (a.add (i * 3 + 2)) = some (.slice q.A q.d.length q.c)) ∧ Rd W 1 q.A q.d.length q.c (bv q.d) ∧ q.t ≤ 9223372036854775807 := by
      intro i him
      obtain ⟨cs', hcs, ht⟩ := hi i (by omega)
      rw [three] at hcs
      obtain ⟨_, hcl, hat⟩ := World.cells?_some hcs
      match cs', hcl with
      | [x, y, z], _ =>
        obtain ⟨z0, z1, z2, n', _, _, g0, g1, g2⟩ := trod_struct3 Tryz.underlying89 ht
        have g0' : DataW.trod enc Tryz.prog W base spare held n' 3 [x] = some z0 := by simpa [one3] using g0
        have g1' : DataW.trod enc Tryz.prog W base spare held n' 3 [y] = some z1 := by simpa [one3] using g1
        have g2' : DataW.trod enc Tryz.prog W base spare held n' 30 [z] = some z2 := by simpa [one22] using g2
        obtain ⟨u0, e0, _, w0⟩ := DataW.trod_int Tryz.underlying3 g0'
        obtain ⟨u1, e1, _, w1⟩ := DataW.trod_int Tryz.underlying3 g1'
        obtain ⟨A', n1, c1, d, e2, hr⟩ := open_bytes g2'
        obtain rfl : x = .int .i64 u0 := by simpa using e0
        obtain rfl : y = .int .i64 u1 := by simpa using e1
        subst e2
        have hl : n1 = d.length := by have := hr.len; rw [bv_len] at this; omega
        subst hl
        have h0 := hat 0 (by omega)
        have h1 := hat 1 (by omega)
        have h2 := hat 2 (by omega)
        rw [add_add] at h0 h1 h2
        exact ⟨⟨u0, u1, A', c1, d⟩, ⟨h0, h1, h2⟩, hr, (bounds_i64 w1).2⟩
    obtain ⟨f, hf⟩ := choose_lt hel
    have hmx : maxLen = 9223372036854775807 := by decide
    refine ⟨some a, len, cap, (List.range len).map f, rfl, ⟨⟨?_, hlc, fun e => (by cases e), by omega, fun h0 => ?_⟩, fun x hx => ?_⟩, fun x hx => ?_⟩
    · rw [cells_len]; simp
    · have hz := (hf 0 h0).1.1
      rw [Nat.zero_mul] at hz
      obtain ⟨h1, h2, h3⟩ := addr_at hz
      refine ⟨a.block, a.off, by rw [← h2], h1, fun j hj => ?_⟩
      obtain ⟨i, r, hr, rfl⟩ : ∃ i r, r < 3 ∧ j = i * 3 + r := ⟨j / 3, j % 3, Nat.mod_lt _ (by omega), by omega⟩
      have hi' : i < len := by omega
      obtain ⟨⟨c0, c1, c2⟩, _⟩ := hf i hi'
      obtain ⟨k0, k1, k2⟩ := cells_get ((List.range len).map f) i (f i) (by rw [List.getElem?_map, List.getElem?_range hi']; rfl)
      have hr3 : r = 0 ∨ r = 1 ∨ r = 2 := by omega
      rcases hr3 with rfl | rfl | rfl
      · rw [← h3]; rw [Nat.add_zero, c0, k0]
      · rw [← h3, c1, k1]
      · rw [← h3, c2, k2]
    · obtain ⟨i, hi', rfl⟩ := List.mem_map.1 hx
      exact (hf i (List.mem_range.1 hi')).2.1
    · obtain ⟨i, hi', rfl⟩ := List.mem_map.1 hx
      exact (hf i (List.mem_range.1 hi')).2.2
theorem open_recs' {r : Reach} {b0 : Nat} {v : Value} {d : DataW H} {p : List MemPlace} (hv : Value.okWide Tryz.prog W r b0 85 v) (h : DataW.Trod enc Tryz.prog W base spare held 85 v d p) :
    ∃ (A : Option Addr) (n c : Nat) (l : List RV), v = .slice A n c ∧ Rr W A n c l ∧ Fit l := by
  obtain ⟨a, len, cap, rfl⟩ := okWide_slice Tryz.underlying85 hv
  obtain ⟨fuel, hf⟩ := h
  obtain ⟨A, n, c, l, e, h1, h2⟩ := open_recs (c0 := .slice a len cap) (by simpa [Value.cells] using hf)
  exact ⟨A, n, c, l, e, h1, h2⟩
theorem open_bytes' {r : Reach} {b0 : Nat} {v : Value} {d : DataW H} {p : List MemPlace} (hv : Value.okWide Tryz.prog W r b0 30 v) (h : DataW.Trod enc Tryz.prog W base spare held 30 v d p) :
    ∃ (A : Option Addr) (n c : Nat) (x : List UInt8), v = .slice A n c ∧ Rd W 1 A n c (bv x) := by
  obtain ⟨a, len, cap, rfl⟩ := okWide_slice Tryz.underlying30 hv
  obtain ⟨fuel, hf⟩ := h
  obtain ⟨A, n, c, l, e, h1⟩ := open_bytes (c0 := .slice a len cap) (by simpa [Value.cells] using hf)
  exact ⟨A, n, c, l, e, h1⟩
end
end Go.Proofs.YtpmkohnljngbhaaGreatDoor.Wl
/- Walk: the log of records. -/
namespace Go.Proofs.YtpmkohnljngbhaaGreatDoor.Wl
set_option maxRecDepth 1000000
open Go.RowKit

def okR (r : Rec) : Bool := okV r.k r.t r.d.length
/-- The valid ones of some records. -/
def vals (l : List RV) : List Rec := (l.map RV.r).filter okR
theorem vals_snoc (l : List RV) (x : RV) : vals (l ++ [x]) = if okR x.r = true then vals l ++ [x.r] else vals l := by
  unfold vals
  rw [List.map_append, List.filter_append]
  by_cases h : okR x.r = true
  · rw [if_pos h]; simp [h]
  · rw [if_neg h]; simp [h]
set_option maxRecDepth 1000000 in
theorem vals_len {l : List RV} (h : ∀ x ∈ l, x.d.length ≤ 5000) : (encs (vals l)).length ≤ l.length * 4117 := by
  induction l with
  | nil => simp [vals, encs]
  | cons x l ih =>
    have := ih fun y hy => h y (by simp [hy])
    have hx := h x (by simp)
    unfold vals at this ⊢
    simp only [List.map_cons, List.filter_cons, List.length_cons]
    split
    · rename_i ho
      rw [encs_cons, List.length_append, enc_len]
      have := (okV_p (k := x.k) (t := x.t) (n := x.d.length) ho).2.2.2.1
      have e : x.r.d.length = x.d.length := rfl
      rw [e, Nat.add_mul]
      omega
    · omega
theorem vals_ok {l : List RV} (h : Fit l) : ∀ r ∈ vals l, ok r := by
  intro r hr
  unfold vals at hr
  rw [List.mem_filter, List.mem_map] at hr
  obtain ⟨⟨x, hx, rfl⟩, ho⟩ := hr
  rw [ok_iff]
  exact ⟨by have := h x hx; show x.t < _; omega, ho⟩
theorem take_rv {l : List RV} {k : Nat} {x : RV} (h : l[k]? = some x) : l.take (k + 1) = l.take k ++ [x] := by rw [List.take_add_one, h]; rfl
end Go.Proofs.YtpmkohnljngbhaaGreatDoor.Wl
/- Walk: transactions. -/
namespace Go.Proofs.YtpmkohnljngbhaaGreatDoor.Wl
set_option maxRecDepth 1000000
open Go.RowKit Go.Maps
attribute [local go_sem ↓] Go.wp_at_zero Go.wp_at_succ

theorem encs_ge (l : List Rec) : l.length * 21 ≤ (encs l).length := by
  induction l with
  | nil => simp [encs]
  | cons r l ih => rw [encs_cons, List.length_append, enc_len, List.length_cons]; omega
theorem rd_len (b : List UInt8) : (rd b).length ≤ b.length := by
  have h1 := encs_ge (rd b)
  have h2 := glen_le b
  unfold glen at h2
  omega
theorem rd_mem {b : List UInt8} {l : List RV} (h : l.map RV.r = rd b) {x : RV} (hx : x ∈ l) : ok x.r := by
  have := rd_ok b x.r (by rw [← h]; exact List.mem_map_of_mem hx)
  exact this
theorem one2 (a b : Value) (h1 : a.oneCell' = true) (h2 : b.oneCell' = true) : ∀ u ∈ (#[a, b] : Array Value).toList, u.oneCell' = true := by
  intro u hu
  simp only [List.mem_cons, List.not_mem_nil, or_false] at hu
  rcases hu with rfl | rfl <;> assumption
end Go.Proofs.YtpmkohnljngbhaaGreatDoor.Wl
/- Walk: Committed. -/
namespace Go.Proofs.YtpmkohnljngbhaaGreatDoor.Wl
set_option maxRecDepth 1000000
open Go.RowKit

theorem sts_le (l : List Rec) : (∀ t, ((sts l).1 t).length ≤ l.length) ∧ (sts l).2.length ≤ l.length ∧ ∀ p ∈ (sts l).2, p.2.length ≤ l.length := by
  suffices h : ∀ n (l : List Rec), l.length = n → (∀ t, ((sts l).1 t).length ≤ l.length) ∧ (sts l).2.length ≤ l.length ∧ ∀ p ∈ (sts l).2, p.2.length ≤ l.length from h _ l rfl
  intro n
  induction n with
  | zero =>
    intro l hl
    obtain rfl := List.eq_nil_of_length_eq_zero hl
    exact ⟨fun _ => Nat.le_refl _, Nat.le_refl _, by simp [sts]⟩
  | succ n ih =>
    intro l hl
    rcases List.eq_nil_or_concat l with rfl | ⟨m, r, rfl⟩
    · simp at hl
    · rw [List.concat_eq_append] at hl ⊢
      have hm : m.length = n := by simpa using hl
      obtain ⟨h1, h2, h3⟩ := ih m hm
      rw [sts_snoc, List.length_append, List.length_singleton]
      unfold stp
      by_cases hk : r.k = 3
      · rw [if_pos hk]
        refine ⟨fun t => ?_, by simp; omega, fun p hp => ?_⟩
        · dsimp only
          by_cases e : t = r.t
          · subst e; rw [upd_same]; simp
          · rw [upd_other _ _ e]; have := h1 t; omega
        · dsimp only at hp
          rcases List.mem_append.1 hp with hp | hp
          · have := h3 p hp; omega
          · obtain rfl : p = (r.t, (sts m).1 r.t) := by simpa using hp
            have := h1 r.t; show ((sts m).1 r.t).length ≤ _; omega
      · rw [if_neg hk]
        refine ⟨fun t => ?_, by show (sts m).2.length ≤ _; omega, fun p hp => ?_⟩
        · dsimp only
          by_cases e : t = r.t
          · subst e; rw [upd_same]; have := h1 r.t; simp; omega
          · rw [upd_other _ _ e]; have := h1 t; omega
        · have := h3 p hp; omega
/-- The committed records. -/
def com (l : List Rec) : List Rec := ((trs l).map (·.2)).flatten
theorem Rd.recs {w : World} {n c : Nat} {A : Option Addr} {l : List RV} {base : Nat} (h : Rs w base A n c l) : Rd w 3 A n c (cells l) := Rd.of_own h.row
theorem ap_lo {A B : Option Addr} {z : Nat} (hA : ∀ q, blk A = some q → z ≤ q) (hB : ∀ q, blk B = some q → q < z) : ap A B := by
  unfold ap
  rcases h : blk A with _ | q
  · exact .inl rfl
  · refine .inr fun e => ?_
    have h1 := hA q h
    have h2 := hB q e.symm
    omega
end Go.Proofs.YtpmkohnljngbhaaGreatDoor.Wl
/- Plain: what waits for a commit, what is compacted, what is repaired. -/
namespace Go.Proofs.YtpmkohnljngbhaaGreatDoor.Wl
set_option maxRecDepth 1000000
open Go.Maps

theorem snoc_ind {α : Type} {P : List α → Prop} (h0 : P []) (h1 : ∀ l x, P l → P (l ++ [x])) (l : List α) : P l := by
  suffices h : ∀ n (l : List α), l.length = n → P l from h _ l rfl
  intro n
  induction n with
  | zero => intro l hl; obtain rfl := List.eq_nil_of_length_eq_zero hl; exact h0
  | succ n ih =>
    intro l hl
    rcases List.eq_nil_or_concat l with rfl | ⟨l, x, rfl⟩
    · exact h0
    · rw [List.concat_eq_append] at hl ⊢
      exact h1 l x (ih l (by simpa using hl))
/-- The records that wait for a commit. -/
def pstp (p : List Rec) (r : Rec) : List Rec := if r.k = 3 then p.filter (fun x => decide (x.t ≠ r.t)) else p ++ [r]
def pend (l : List Rec) : List Rec := l.foldl pstp []
theorem pend_snoc (l : List Rec) (r : Rec) : pend (l ++ [r]) = pstp (pend l) r := by simp [pend]
theorem sts_open (l : List Rec) : ∀ t, (sts l).1 t = (pend l).filter (fun x => decide (x.t = t)) := by
  induction l using snoc_ind with
  | h0 => intro t; rfl
  | h1 l r ih =>
    intro t
    rw [sts_snoc, pend_snoc]
    unfold stp pstp
    by_cases hk : r.k = 3
    · rw [if_pos hk, if_pos hk]
      dsimp only
      by_cases e : t = r.t
      · subst e
        rw [upd_same, List.filter_filter]
        symm
        rw [List.filter_eq_nil_iff]
        intro a _ h
        simp at h
      · rw [upd_other _ _ e, ih t, List.filter_filter]
        congr 1
        funext x
        by_cases hx : x.t = t
        · simp [hx, e]
        · simp [hx]
    · rw [if_neg hk, if_neg hk]
      dsimp only
      by_cases e : t = r.t
      · subst e
        rw [upd_same, ih, List.filter_append]
        simp
      · rw [upd_other _ _ e, ih t, List.filter_append]
        have : ¬ r.t = t := fun h => e h.symm
        simp [this]
theorem trs_snoc (l : List Rec) (r : Rec) : trs (l ++ [r]) = if r.k = 3 then trs l ++ [(r.t, (pend l).filter (fun x => decide (x.t = r.t)))] else trs l := by
  unfold trs
  rw [sts_snoc]
  unfold stp
  by_cases hk : r.k = 3
  · rw [if_pos hk, if_pos hk]; dsimp only; rw [sts_open]
  · rw [if_neg hk, if_neg hk]
theorem pend_k (l : List Rec) : ∀ x ∈ pend l, x.k ≠ 3 ∧ x ∈ l := by
  induction l using snoc_ind with
  | h0 => intro x hx; cases hx
  | h1 l r ih =>
    intro x hx
    rw [pend_snoc] at hx
    unfold pstp at hx
    by_cases hk : r.k = 3
    · rw [if_pos hk] at hx
      have := ih x ((List.mem_filter.1 hx).1)
      exact ⟨this.1, List.mem_append_left _ this.2⟩
    · rw [if_neg hk] at hx
      rcases List.mem_append.1 hx with hx | hx
      · exact ⟨(ih x hx).1, List.mem_append_left _ (ih x hx).2⟩
      · obtain rfl : x = r := by simpa using hx
        exact ⟨hk, by simp⟩
theorem trs_k (l : List Rec) : ∀ p ∈ trs l, (∀ x ∈ p.2, x.k ≠ 3 ∧ x.t = p.1 ∧ x ∈ l) ∧ ∃ r ∈ l, r.k = 3 ∧ r.t = p.1 := by
  induction l using snoc_ind with
  | h0 => intro x hx; cases hx
  | h1 l r ih =>
    intro p hp
    rw [trs_snoc] at hp
    have old : p ∈ trs l → (∀ x ∈ p.2, x.k ≠ 3 ∧ x.t = p.1 ∧ x ∈ l ++ [r]) ∧ ∃ q ∈ l ++ [r], q.k = 3 ∧ q.t = p.1 := fun h => by
      obtain ⟨h1, q, h2, h3⟩ := ih p h
      exact ⟨fun x hx => ⟨(h1 x hx).1, (h1 x hx).2.1, List.mem_append_left _ (h1 x hx).2.2⟩, q, List.mem_append_left _ h2, h3⟩
    by_cases hk : r.k = 3
    · rw [if_pos hk] at hp
      rcases List.mem_append.1 hp with hp | hp
      · exact old hp
      · obtain rfl : p = _ := by simpa using hp
        refine ⟨fun x hx => ?_, r, by simp, hk, rfl⟩
        obtain ⟨h1, h2⟩ := List.mem_filter.1 hx
        exact ⟨(pend_k l x h1).1, by simpa using h2, List.mem_append_left _ (pend_k l x h1).2⟩
    · rw [if_neg hk] at hp; exact old hp
def Rec.end_ (t : Int) : Rec := ⟨3, t, []⟩
def grp (p : Int × List Rec) : List Rec := p.2 ++ [Rec.end_ p.1]
/-- The records that are kept by compacting. -/
def cmp (l : List Rec) (f : Int) : List Rec := (((trs l).filter (fun p => decide (f ≤ p.1))).map grp).flatten
theorem encs_len_app (a b : List Rec) : (encs (a ++ b)).length = (encs a).length + (encs b).length := by rw [encs_app, List.length_append]
theorem encs_split_len (p : Rec → Bool) (l : List Rec) : (encs (l.filter p)).length + (encs (l.filter fun x => !p x)).length = (encs l).length := by
  induction l with
  | nil => rfl
  | cons r l ih =>
    rw [encs_cons, List.length_append]
    by_cases h : p r = true
    · have h' : ¬ (!p r) = true := by simp [h]
      rw [List.filter_cons_of_pos h, List.filter_cons_of_neg (p := fun x => !p x) h', encs_cons, List.length_append]; omega
    · have h' : (!p r) = true := by simpa using h
      rw [List.filter_cons_of_neg h, List.filter_cons_of_pos (p := fun x => !p x) h', encs_cons, List.length_append]; omega
theorem trs_len (l : List Rec) (h : ∀ r ∈ l, ok r) : (encs ((trs l).map grp).flatten).length + (encs (pend l)).length = (encs l).length := by
  induction l using snoc_ind with
  | h0 => rfl
  | h1 l r ih =>
    have ih := ih fun x hx => h x (List.mem_append_left _ hx)
    rw [trs_snoc, pend_snoc, encs_len_app l]
    unfold pstp
    by_cases hk : r.k = 3
    · rw [if_pos hk, if_pos hk, List.map_append, List.flatten_append, encs_len_app]
      have hd : r.d = [] := (h r (by simp)).2.2.2.2.2 hk
      have h1 := encs_split_len (fun x => decide (x.t = r.t)) (pend l)
      have h2 : (pend l).filter (fun x => decide (x.t ≠ r.t)) = (pend l).filter fun x => !decide (x.t = r.t) := by congr 1; funext x; simp
      rw [h2]
      have h3 : (encs [r]).length = 21 := by simp [encs, enc_len, hd]
      have h4 : (encs [Rec.end_ r.t]).length = 21 := by simp [encs, enc_len, Rec.end_]
      have h5 : ([(r.t, (pend l).filter (fun x => decide (x.t = r.t)))].map grp).flatten = (pend l).filter (fun x => decide (x.t = r.t)) ++ [Rec.end_ r.t] := by simp [grp]
      rw [h5, encs_len_app, h3, h4]
      omega
    · rw [if_neg hk, if_neg hk, encs_len_app]
      omega
theorem flat_filter_len (q : List (Int × List Rec)) (p : Int × List Rec → Bool) : (encs ((q.filter p).map grp).flatten).length ≤ (encs (q.map grp).flatten).length := by
  induction q with
  | nil => exact Nat.le_refl _
  | cons x q ih =>
    by_cases h : p x = true
    · rw [List.filter_cons_of_pos h]; simp only [List.map_cons, List.flatten_cons, encs_len_app]; omega
    · rw [List.filter_cons_of_neg h]; simp only [List.map_cons, List.flatten_cons, encs_len_app]; omega
theorem cmp_len (l : List Rec) (f : Int) (h : ∀ r ∈ l, ok r) : (encs (cmp l f)).length ≤ (encs l).length := by
  have h1 := trs_len l h
  have h2 := flat_filter_len (trs l) (fun p => decide (f ≤ p.1))
  unfold cmp
  omega
theorem cmp_ok (l : List Rec) (f : Int) (h : ∀ r ∈ l, ok r) : ∀ r ∈ cmp l f, ok r := by
  intro r hr
  unfold cmp at hr
  obtain ⟨g, hg, hr⟩ := List.mem_flatten.1 hr
  obtain ⟨p, hp, rfl⟩ := List.mem_map.1 hg
  obtain ⟨h1, q, h2, h3, h4⟩ := trs_k l p ((List.mem_filter.1 hp).1)
  rcases List.mem_append.1 hr with hr | hr
  · exact h r (h1 r hr).2.2
  · obtain rfl : r = Rec.end_ p.1 := by simpa using hr
    have := h q h2
    unfold ok at this ⊢
    rw [h4] at this
    exact ⟨by show (1 : Int) ≤ 3; decide, by show (3 : Int) ≤ 3; decide, this.2.2.1, this.2.2.2.1, by simp [Rec.end_], fun _ => rfl⟩
/-- A group is read as a transaction. -/
theorem sts_grp (p : Int × List Rec) (h : ∀ x ∈ p.2, x.k ≠ 3 ∧ x.t = p.1) (out : List (Int × List Rec)) : (grp p).foldl stp (fun _ => [], out) = (fun _ => [], out ++ [p]) := by
  obtain ⟨t, l⟩ := p
  have h1 : l.foldl stp (fun _ => [], out) = (upd (fun _ => []) t l, out) := by
    induction l using snoc_ind with
    | h0 =>
      have : upd (fun _ => []) t ([] : List Rec) = fun _ => [] := by funext x; unfold upd; split <;> rfl
      rw [this]; rfl
    | h1 l r ih =>
      rw [List.foldl_append, ih fun x hx => h x (List.mem_append_left _ hx)]
      obtain ⟨hk, ht⟩ := h r (by simp)
      show stp (upd (fun _ => []) t l, out) r = _
      unfold stp
      rw [if_neg hk]
      dsimp only
      have ht : r.t = t := ht
      rw [ht, upd_same]
      congr 1
      funext x
      unfold upd
      split <;> rfl
  unfold grp
  rw [List.foldl_append]
  dsimp only
  rw [h1]
  show stp (upd (fun _ => []) t l, out) (Rec.end_ t) = _
  unfold stp
  rw [if_pos (show (Rec.end_ t).k = 3 from rfl)]
  show (upd (upd (fun _ => []) t l) t [], out ++ [(t, upd (fun _ => []) t l t)]) = _
  rw [upd_same]
  congr 1
  funext x
  unfold upd
  split <;> rfl
theorem trs_grps (q : List (Int × List Rec)) (h : ∀ p ∈ q, ∀ x ∈ p.2, x.k ≠ 3 ∧ x.t = p.1) : ∀ out, (q.map grp).flatten.foldl stp (fun _ => [], out) = (fun _ => [], out ++ q) := by
  induction q with
  | nil => intro out; simp
  | cons p q ih =>
    intro out
    rw [List.map_cons, List.flatten_cons, List.foldl_append, sts_grp p (h p (by simp)), ih fun p hp => h p (by simp [hp])]
    simp
theorem trs_cmp (l : List Rec) (f : Int) : trs (cmp l f) = (trs l).filter (fun p => decide (f ≤ p.1)) := by
  unfold cmp
  rw [trs, sts, trs_grps]
  · simp
  · intro p hp x hx
    have := (trs_k l p ((List.mem_filter.1 hp).1)).1 x hx
    exact ⟨this.1, this.2.1⟩
theorem com_cmp (l : List Rec) (f : Int) : com (cmp l f) = (com l).filter (fun x => decide (f ≤ x.t)) := by
  unfold com
  rw [trs_cmp]
  have h := fun p hp => (trs_k l p hp).1
  revert h
  generalize trs l = q
  intro h
  induction q with
  | nil => rfl
  | cons p q ih =>
    have ih := ih fun p hp => h p (by simp [hp])
    have hp := h p (by simp)
    by_cases e : f ≤ p.1
    · rw [List.filter_cons_of_pos (by simpa using e)]
      simp only [List.map_cons, List.flatten_cons, List.filter_append]
      rw [ih]
      congr 1
      symm
      rw [List.filter_eq_self]
      intro x hx
      rw [(hp x hx).2.1]; simpa using e
    · rw [List.filter_cons_of_neg (by simpa using e)]
      simp only [List.map_cons, List.flatten_cons, List.filter_append]
      rw [ih]
      have : p.2.filter (fun x => decide (f ≤ x.t)) = [] := by
        rw [List.filter_eq_nil_iff]
        intro x hx
        rw [(hp x hx).2.1]; simpa using e
      rw [this, List.nil_append]
theorem com_mem (l : List Rec) : ∀ x ∈ com l, x ∈ l := by
  intro x hx
  unfold com at hx
  obtain ⟨g, hg, hx⟩ := List.mem_flatten.1 hx
  obtain ⟨p, hp, rfl⟩ := List.mem_map.1 hg
  exact ((trs_k l p hp).1 x hx).2.2
theorem com_cmp1 (l : List Rec) (h : ∀ r ∈ l, ok r) : com (cmp l 1) = com l := by
  rw [com_cmp, List.filter_eq_self]
  intro x hx
  simpa using (h x (com_mem l x hx)).2.2.1
/-- The records up to the last commit. -/
def ustp (s : List Rec × List Rec) (r : Rec) : List Rec × List Rec := (if r.k = 3 then s.2 ++ [r] else s.1, s.2 ++ [r])
def upc (l : List Rec) : List Rec := (l.foldl ustp ([], [])).1
theorem ustp_2 (l : List Rec) : (l.foldl ustp ([], [])).2 = l := by
  induction l using snoc_ind with
  | h0 => rfl
  | h1 l r ih => rw [List.foldl_append]; show (l.foldl ustp ([], [])).2 ++ [r] = _; rw [ih]
theorem upc_snoc (l : List Rec) (r : Rec) : upc (l ++ [r]) = if r.k = 3 then l ++ [r] else upc l := by
  unfold upc
  rw [List.foldl_append]
  show (if r.k = 3 then (l.foldl ustp ([], [])).2 ++ [r] else _) = _
  rw [ustp_2]
theorem upc_pre (l : List Rec) : ∃ z, l = upc l ++ z := by
  induction l using snoc_ind with
  | h0 => exact ⟨[], rfl⟩
  | h1 l r ih =>
    rw [upc_snoc]
    by_cases hk : r.k = 3
    · rw [if_pos hk]; exact ⟨[], by simp⟩
    · rw [if_neg hk]
      obtain ⟨z, hz⟩ := ih
      exact ⟨z ++ [r], by rw [← List.append_assoc, ← hz]⟩
theorem upc_upc (l : List Rec) : upc (upc l) = upc l := by
  induction l using snoc_ind with
  | h0 => rfl
  | h1 l r ih =>
    rw [upc_snoc]
    by_cases hk : r.k = 3
    · rw [if_pos hk, upc_snoc, if_pos hk]
    · rw [if_neg hk]; exact ih
theorem trs_upc (l : List Rec) : trs (upc l) = trs l := by
  induction l using snoc_ind with
  | h0 => rfl
  | h1 l r ih =>
    rw [upc_snoc]
    by_cases hk : r.k = 3
    · rw [if_pos hk]
    · rw [if_neg hk, trs_snoc, if_neg hk]; exact ih
theorem com_upc (l : List Rec) : com (upc l) = com l := by unfold com; rw [trs_upc]
theorem upc_grps (q : List (Int × List Rec)) : upc (q.map grp).flatten = (q.map grp).flatten := by
  induction q using snoc_ind with
  | h0 => rfl
  | h1 q p _ =>
    have : ((q ++ [p]).map grp).flatten = ((q.map grp).flatten ++ p.2) ++ [Rec.end_ p.1] := by simp [grp]
    rw [this, upc_snoc, if_pos (show (Rec.end_ p.1).k = 3 from rfl)]
theorem upc_cmp (l : List Rec) (f : Int) : upc (cmp l f) = cmp l f := upc_grps _
/-- The length of what is repaired. -/
def rend (b : List UInt8) : Nat := (encs (upc (rd b))).length
theorem rend_le (b : List UInt8) : rend b ≤ b.length := by
  obtain ⟨z, hz⟩ := upc_pre (rd b)
  have h := glen_le b
  unfold glen at h
  rw [hz, encs_app, List.length_append] at h
  unfold rend
  omega
theorem rend_take (b : List UInt8) : b.take (rend b) = encs (upc (rd b)) := by
  obtain ⟨z, hz⟩ := upc_pre (rd b)
  obtain ⟨_, t, h2, _⟩ := rd_reads b
  have e : b = encs (upc (rd b)) ++ (encs z ++ t) := by
    rw [← List.append_assoc, ← encs_app, ← hz]; exact h2
  have h : rend b = (encs (upc (rd b))).length := rfl
  rw [h]
  generalize encs (upc (rd b)) = y at e ⊢
  rw [e, List.take_left]
theorem upc_ok (l : List Rec) (h : ∀ r ∈ l, ok r) : ∀ r ∈ upc l, ok r := by
  obtain ⟨z, hz⟩ := upc_pre l
  intro r hr
  exact h r (by rw [hz]; exact List.mem_append_left _ hr)
end Go.Proofs.YtpmkohnljngbhaaGreatDoor.Wl
/- Walks: put, build. -/
namespace Go.Proofs.YtpmkohnljngbhaaGreatDoor.Wl
set_option maxRecDepth 1000000
open Go.RowKit

theorem conv_new (w : World) (s : ByteArray) (hs : s.size ≤ 1000000) : ∃ c W2, (convert 9 30 (.string s)).run Tryz.prog w = .ok (.slice (some ⟨w.heap.size, 0, none⟩) s.size c) W2 ∧
    Below w.heap.size w W2 ∧ Rd W2 1 (some ⟨w.heap.size, 0, none⟩) s.size c (bv s.data.toList) := by
  refine ⟨_, _, Lib.run_convert_string_bytes w 9 30 5 s Tryz.underlying9 Tryz.underlying30 Tryz.underlying5, ⟨rfl, rfl, rfl, ?_, fun i hi => ?_⟩, ?_⟩
  · rw [Lib.bytesWorld_size]; omega
  · exact Lib.bytesWorld_at_old w _ s i hi
  · have h1 := grownCap_ge w s.size 0 5
    have h2 := grownCap_le_maxLen w s.size 0 5 (by unfold maxLen; omega)
    refine ⟨by rw [bv_len]; simp, h1, fun h => (by cases h), by unfold maxLen at h2; omega, fun _ => ⟨_, _, rfl, by rw [Lib.bytesWorld_size]; omega, fun j hj => ?_⟩⟩
    rw [Nat.zero_add, Lib.bytesWorld_cell _ _ _ _ (by omega), bv_get]
    have hj' : j < s.data.toList.length := by simpa using hj
    rw [List.getD_eq_getElem?_getD, List.getElem?_eq_getElem hj']; rfl
end Go.Proofs.YtpmkohnljngbhaaGreatDoor.Wl
/- Walks: build, and the examples of the chapter. -/
namespace Go.Proofs.YtpmkohnljngbhaaGreatDoor.Wl
set_option maxRecDepth 1000000
open Go.RowKit

theorem ok_okR {r : Rec} (h : ok r) : okR r = true := ((ok_iff r).1 h).2
theorem ok_t {r : Rec} (h : ok r) : r.t ≤ 9223372036854775807 := by have := ((ok_iff r).1 h).1; omega
theorem encs_take_le (l : List Rec) (j : Nat) : (encs (l.take j)).length ≤ (encs l).length := by
  have := congrArg List.length (congrArg encs (List.take_append_drop j l))
  rw [encs_app, List.length_append] at this
  omega
end Go.Proofs.YtpmkohnljngbhaaGreatDoor.Wl
/- Walks: Repair, by the program and by the reference. -/
namespace Go.Proofs.YtpmkohnljngbhaaGreatDoor.Wl
set_option maxRecDepth 1000000
open Go.RowKit

set_option maxHeartbeats 1600000 in
theorem Repair_any {A : Option Addr} {n c : Nat} {b : List UInt8} (w : World) (hl : Hid (n = b.length)) (h : Hid (Rd w 1 A n c (bv b))) (hn : n ≤ 1073741824) :
    Calls Tryz.prog 41 #[.slice A n c] w (Mk w (rend b) (b.take (rend b))) := by
  have hnc := h.out.nc
  have hc63 := h.out.c63
  go_enter Tryz.func41, Tryz.ntmps41
  go_wp2_with fail
  go_loopw [3, 4, 5, 6, 7] (fun v i _ _ _ wr => ∃ (l : List RV) (en a : Nat), v = .int .i64 en ∧ i = .int .i64 a ∧ a ≤ n ∧ en ≤ n ∧ Hid (en = (encs (upc (l.map RV.r))).length) ∧ Hid (Got b l a) ∧ Below w.heap.size w wr) (fun _ i _ _ _ _ => (n - intOf i).toNat)
  case atStart => exact ⟨[], 0, 0, rfl, rfl, by omega, by omega, Lib.hid rfl, Lib.hid (Got.nil b), Below.refl _ _⟩
  case round =>
    obtain ⟨l, en, a, rfl, rfl, ha, hen, he, gt, bw⟩ := hrel
    have hrd := Lib.hid (h.out.below bw)
    have fin : ∀ {w1 : World}, one (b.drop a) = none → Below wr.heap.size wr w1 → Hid (Rd w1 1 A en c (bv (b.take en))) ∧ Hid (en = rend b) ∧ Below w.heap.size w w1 := fun {w1} ho b1 => by
      have R := gt.out.all ho
      exact ⟨Lib.hid ((hrd.out.below b1).upto1 hen), Lib.hid (by rw [he.out, R.1]; rfl), bw.trans (b1.mono bw.size)⟩
    by_cases han : a < n
    · obtain ⟨g, o, rfl, hg, _⟩ := h.out.at_ (by omega)
      have hca : ¬ c = a := by omega
      go_wp2_with fail
      go_at_call 79
      refine (one_any (b := b.drop a) _ (Lib.hid (by have := hl.out; simp; omega)) (Lib.hid (hrd.out.tail (lo := a) (by omega))) (by omega)).mono ?_
      rintro e w1 (⟨ho, rfl, b1⟩ | ⟨r, m, A2, c2, ho, hm, rfl, own, b1⟩)
      · obtain ⟨rd1, ee, bw1⟩ := fin ho b1
        clear ho b1 fin
        have rd2 := Lib.hid (rd1.out.alloc (.cells #[.int .i64 0, .int .i64 0, .slice none 0 0] 89))
        go_wp2_with fail
        go_at_call 80
        refine (clone_any _ rd2 (by omega)).mono ?_
        rintro e w2 ⟨A2, c2, rfl, own2, b2⟩
        go_wp2_with fail
        go_ret
        rw [← ee.out]
        exact ⟨A2, c2, rfl, own_base own2 (by have := bw1.size; simp; omega), (bel_alloc bw1 (Nat.le_refl _) _).trans (b2.mono (by have := bw1.size; simp; omega))⟩
      · have hle := congrArg List.length (one_some ho).2
        rw [List.length_append, enc_len, List.length_drop, List.length_drop, ← hm, ← hl.out] at hle
        have hok := (one_some ho).1
        have hm' : m ≤ 4096 := by rw [hm]; exact ok_len hok
        have GT := Lib.hid (gt.out.push ho ⟨r.k, r.t, A2, c2, r.d⟩ rfl)
        have HM := Lib.hid hm
        have bw1 := bel_alloc (bw.trans (b1.mono bw.size)) (Nat.le_refl _) (.cells #[.int .i64 r.k, .int .i64 r.t, .slice A2 m c2] 89)
        have hlen : a + (21 + m) ≤ n := by omega
        clear hle hok hm ho own b1 fin
        by_cases hk : r.k = 3
        · have he2 : Hid (a + (21 + m) = (encs (upc ((l ++ [(⟨r.k, r.t, A2, c2, r.d⟩ : RV)]).map RV.r))).length) := Lib.hid (by
            rw [List.map_append, List.map_cons, List.map_nil, upc_snoc, if_pos (show (RV.r (⟨r.k, r.t, A2, c2, r.d⟩ : RV)).k = 3 from hk)]
            have := GT.out.len
            rw [← HM.out] at this
            rw [this]; simp)
          rw [hk] at bw1
          go_wp2_with fail
          go_roundw
          case rel => exact ⟨_, a + (21 + m), a + (21 + m), by go_num, by go_num, hlen, hlen, he2, Lib.hid (by have := GT.out; rwa [← HM.out] at this), bw1⟩
          case measure => simp [intOf]; omega
        · have he2 : Hid (en = (encs (upc ((l ++ [(⟨r.k, r.t, A2, c2, r.d⟩ : RV)]).map RV.r))).length) := Lib.hid (by
            rw [List.map_append, List.map_cons, List.map_nil, upc_snoc, if_neg (show ¬ (RV.r (⟨r.k, r.t, A2, c2, r.d⟩ : RV)).k = 3 from hk)]; exact he.out)
          go_wp2_with fail
          go_roundw
          case rel => exact ⟨_, en, a + (21 + m), by go_num, by go_num, hlen, hen, he2, Lib.hid (by have := GT.out; rwa [← HM.out] at this), bw1⟩
          case measure => simp [intOf]; omega
    · obtain rfl : a = n := by omega
      have ho : one (b.drop a) = none := one_short (by have := hl.out; simp; omega)
      by_cases hca : c = a
      · subst hca
        have hr0 := Lib.hid (hrd.out.end_ (A' := A) (c' := 0) (fun _ => rfl) hl.out.symm (by omega))
        go_wp2_with fail
        go_at_call 79
        refine (one_any (n := 0) (c := 0) (b := b.drop c) _ (Lib.hid (by have := hl.out; simp; omega)) hr0 (by omega)).mono ?_
        rintro e w1 (⟨_, rfl, b1⟩ | ⟨r, m, A2, c2, ho', _⟩)
        · obtain ⟨rd1, ee, bw1⟩ := fin ho b1
          clear ho b1 fin
          have rd2 := Lib.hid (rd1.out.alloc (.cells #[.int .i64 0, .int .i64 0, .slice none 0 0] 89))
          go_wp2_with fail
          go_at_call 80
          refine (clone_any _ rd2 (by omega)).mono ?_
          rintro e w2 ⟨A2, c2, rfl, own2, b2⟩
          go_wp2_with fail
          go_ret
          rw [← ee.out]
          exact ⟨A2, c2, rfl, own_base own2 (by have := bw1.size; simp; omega), (bel_alloc bw1 (Nat.le_refl _) _).trans (b2.mono (by have := bw1.size; simp; omega))⟩
        · rw [ho'] at ho; cases ho
      · have hr0 := Lib.hid (hrd.out.end_ (A' := Option.map (fun x => x.add a) A) (c' := c - a) (fun e => by
          rcases A with _ | q
          · have := h.out.nil rfl; omega
          · cases e) hl.out.symm rfl)
        go_wp2_with fail
        go_at_call 79
        refine (one_any (n := 0) (c := c - a) (b := b.drop a) _ (Lib.hid (by have := hl.out; simp; omega)) hr0 (by omega)).mono ?_
        rintro e w1 (⟨_, rfl, b1⟩ | ⟨r, m, A2, c2, ho', _⟩)
        · obtain ⟨rd1, ee, bw1⟩ := fin ho b1
          clear ho b1 fin
          have rd2 := Lib.hid (rd1.out.alloc (.cells #[.int .i64 0, .int .i64 0, .slice none 0 0] 89))
          go_wp2_with fail
          go_at_call 80
          refine (clone_any _ rd2 (by omega)).mono ?_
          rintro e w2 ⟨A2, c2, rfl, own2, b2⟩
          go_wp2_with fail
          go_ret
          rw [← ee.out]
          exact ⟨A2, c2, rfl, own_base own2 (by have := bw1.size; simp; omega), (bel_alloc bw1 (Nat.le_refl _) _).trans (b2.mono (by have := bw1.size; simp; omega))⟩
        · rw [ho'] at ho; cases ho

theorem take_map {l : List RV} {k : Nat} {x : RV} (h : l[k]? = some x) : (l.take (k + 1)).map RV.r = (l.take k).map RV.r ++ [x.r] := by rw [take_rv h, List.map_append]; rfl
end Go.Proofs.YtpmkohnljngbhaaGreatDoor.Wl
/- Plain: logs that are cut, logs that are damaged. -/
namespace Go.Proofs.YtpmkohnljngbhaaGreatDoor.Wl
set_option maxRecDepth 1000000

theorem encs_pre : ∀ {xs vs : List Rec} {u : List UInt8}, (∀ r ∈ xs, ok r) → (∀ r ∈ vs, ok r) → encs xs ++ u = encs vs → ∃ ys, vs = xs ++ ys ∧ u = encs ys
  | [], vs, u, _, _, e => ⟨vs, rfl, by rw [encs_nil, List.nil_append] at e; exact e⟩
  | r :: xs, [], u, h, _, e => by
    rw [encs_nil, encs_cons] at e
    have := congrArg List.length e
    rw [List.length_append, List.length_append, enc_len] at this
    simp at this
  | r :: xs, v :: vs, u, h, k, e => by
    rw [encs_cons, encs_cons, List.append_assoc] at e
    have h1 := one_enc (h r (by simp)) (encs xs ++ u)
    rw [e, one_enc (k v (by simp))] at h1
    obtain rfl := Option.some.inj h1
    obtain ⟨ys, e1, e2⟩ := encs_pre (fun x hx => h x (by simp [hx])) (fun x hx => k x (by simp [hx])) (List.append_cancel_left e)
    exact ⟨ys, by rw [e1]; rfl, e2⟩
/-- A log that is cut. -/
theorem cut_reads {vs : List Rec} (h : ∀ r ∈ vs, ok r) (k : Nat) : ∃ ys, vs = rd ((encs vs).take k) ++ ys ∧ ∀ r zs, ys = r :: zs → ((encs vs).take k).length < glen ((encs vs).take k) + (21 + r.d.length) := by
  obtain ⟨h1, t, h2, h3⟩ := rd_reads ((encs vs).take k)
  have e : encs (rd ((encs vs).take k)) ++ (t ++ (encs vs).drop k) = encs vs := by
    rw [← List.append_assoc, ← h2, List.take_append_drop]
  obtain ⟨ys, e1, e2⟩ := encs_pre h1 h e
  refine ⟨ys, e1, fun r zs hy => ?_⟩
  have hl := congrArg List.length h2
  rw [List.length_append] at hl
  have hg : glen ((encs vs).take k) = (encs (rd ((encs vs).take k))).length := rfl
  rw [hg]
  rcases Nat.lt_or_ge t.length (21 + r.d.length) with h4 | h4
  · omega
  · exfalso
    have hr : ok r := h r (by rw [e1, hy]; simp)
    rw [hy, encs_cons] at e2
    have e3 : t = enc r ++ t.drop (21 + r.d.length) := by
      have h5 : (t ++ (encs vs).drop k).take (21 + r.d.length) = enc r := by rw [e2, ← enc_len, List.take_left]
      rw [List.take_append_of_le_length h4] at h5
      rw [← h5, List.take_append_drop]
    rw [e3, one_enc hr] at h3
    cases h3
theorem stp_more (l : List Rec) : ∀ s, ∃ zs, (l.foldl stp s).2 = s.2 ++ zs := by
  induction l with
  | nil => intro s; exact ⟨[], by simp⟩
  | cons r l ih =>
    intro s
    obtain ⟨zs, hz⟩ := ih (stp s r)
    rw [List.foldl_cons, hz]
    unfold stp
    split
    · exact ⟨_, List.append_assoc _ _ _⟩
    · exact ⟨zs, rfl⟩
theorem com_pre (a b : List Rec) : ∃ zs, com (a ++ b) = com a ++ zs := by
  obtain ⟨zs, hz⟩ := stp_more b (sts a)
  have : trs (a ++ b) = trs a ++ zs := by unfold trs sts at *; rw [List.foldl_append]; exact hz
  unfold com
  rw [this, List.map_append, List.flatten_append]
  exact ⟨_, rfl⟩
theorem rd_com_cut {vs : List Rec} (h : ∀ r ∈ vs, ok r) (k : Nat) : ∃ zs, com (rd (encs vs)) = com (rd ((encs vs).take k)) ++ zs := by
  obtain ⟨ys, e, _⟩ := cut_reads h k
  rw [rd_encs h]
  have := com_pre (rd ((encs vs).take k)) ys
  rwa [← e] at this

theorem set_app (p e s : List UInt8) (j : Nat) (x : UInt8) (h : j < e.length) : (p ++ (e ++ s)).set (p.length + j) x = p ++ (e.set j x ++ s) := by
  rw [List.set_append_right _ _ (by omega), show p.length + j - p.length = j by omega, List.set_append_left _ _ h]
/-- One byte of a record's code changed: nothing is read there. -/
theorem one_damaged {r : Rec} (h : ok r) (j : Nat) (y x : UInt8) (hj : (enc r)[j]? = some y) (hy : x ≠ y) (s : List UInt8) : one ((enc r).set j x ++ s) = none := by
  have hjl : j < 21 + r.d.length := by have := (List.getElem?_eq_some_iff.1 hj).1; rwa [enc_len] at this
  rcases ho : one ((enc r).set j x ++ s) with _ | q
  · rfl
  exfalso
  obtain ⟨hq, t, e⟩ := one_iff.1 ho
  have hrl := ok_len h
  have hql := ok_len hq
  have p4 : 256 ^ 4 = 4294967296 := rfl
  -- the byte at j is x, any other is as it was
  have at_ : ∀ i, i < 21 + r.d.length → (enc q ++ t)[i]? = if i = j then some x else (enc r)[i]? := by
    intro i hi
    rw [← e, List.getElem?_append_left (by rw [List.length_set, enc_len]; exact hi), List.getElem?_set]
    split
    · rename_i hij; subst hij; rw [if_pos rfl, if_pos (by rw [enc_len]; exact hi)]
    · rename_i hij; rw [if_neg (fun e => hij e.symm)]
  have f4 : ∀ (r : Rec) (t : List UInt8) i, i < 4 → (enc r ++ t)[i]? = (be 4 r.d.length)[i]? := by
    intro r t i hi
    unfold enc
    rw [List.append_assoc, List.getElem?_append_left (by rw [be_len]; exact hi)]
  have f8 : ∀ (r : Rec) (t : List UInt8) i, i < 4 → (enc r ++ t)[4 + i]? = (be 4 (4294967295 - r.d.length))[i]? := by
    intro r t i hi
    unfold enc
    rw [List.append_assoc, List.getElem?_append_right (by rw [be_len]; omega), be_len, List.append_assoc, List.getElem?_append_left (by rw [be_len]; omega)]
    congr 1; omega
  have g4 : ∀ i, i < 4 → (enc r)[i]? = (be 4 r.d.length)[i]? := fun i hi => by have := f4 r [] i hi; rwa [List.append_nil] at this
  have g8 : ∀ i, i < 4 → (enc r)[4 + i]? = (be 4 (4294967295 - r.d.length))[i]? := fun i hi => by have := f8 r [] i hi; rwa [List.append_nil] at this
  have ext4 : ∀ (a b : Nat), (∀ i, i < 4 → (be 4 a)[i]? = (be 4 b)[i]?) → be 4 a = be 4 b := fun a b hh => by
    apply List.ext_getElem?
    intro i
    rcases Nat.lt_or_ge i 4 with hi | hi
    · exact hh i hi
    · rw [List.getElem?_eq_none (by rw [be_len]; omega), List.getElem?_eq_none (by rw [be_len]; omega)]
  -- the length is as it was
  have hlen : q.d.length = r.d.length := by
    rcases Nat.lt_or_ge j 4 with hj4 | hj4
    · have : be 4 (4294967295 - q.d.length) = be 4 (4294967295 - r.d.length) := ext4 _ _ fun i hi => by
        rw [← f8 q t i hi, at_ _ (by omega), if_neg (by omega), g8 i hi]
      have := be_inj (by omega) (by omega) this
      omega
    · have : be 4 q.d.length = be 4 r.d.length := ext4 _ _ fun i hi => by
        rw [← f4 q t i hi, at_ _ (by omega), if_neg (by omega), g4 i hi]
      exact be_inj (by omega) (by omega) this
  -- so the change is not in it
  have hj8 : 8 ≤ j := by
    rcases Nat.lt_or_ge j 8 with hj8 | hj8
    · exfalso
      have h1 := at_ j hjl
      rw [if_pos rfl] at h1
      rcases Nat.lt_or_ge j 4 with hj4 | hj4
      · rw [f4 q t j hj4, hlen, ← g4 j hj4, hj] at h1
        exact hy (Option.some.inj h1).symm
      · have := f8 q t (j - 4) (by omega)
        rw [show 4 + (j - 4) = j by omega] at this
        have k8 := g8 (j - 4) (by omega)
        rw [show 4 + (j - 4) = j by omega] at k8
        rw [this, hlen, ← k8, hj] at h1
        exact hy (Option.some.inj h1).symm
    · exact hj8
  have fb : ∀ (r : Rec) (t : List UInt8) i, i < 9 + r.d.length → (enc r ++ t)[8 + i]? = (body r)[i]? := by
    intro r t i hi
    unfold enc
    rw [List.append_assoc, List.getElem?_append_right (by rw [be_len]; omega), be_len, List.append_assoc, List.getElem?_append_right (by rw [be_len]; omega), be_len, List.append_assoc, List.getElem?_append_left (by rw [body_len]; omega)]
    congr 1; omega
  have fc : ∀ (r : Rec) (t : List UInt8) i, i < 4 → (enc r ++ t)[17 + r.d.length + i]? = (be 4 (chk (body r)))[i]? := by
    intro r t i hi
    unfold enc
    rw [List.append_assoc, List.getElem?_append_right (by rw [be_len]; omega), be_len, List.append_assoc, List.getElem?_append_right (by rw [be_len]; omega), be_len, List.append_assoc, List.getElem?_append_right (by rw [body_len]; omega), body_len, List.getElem?_append_left (by rw [be_len]; omega)]
    congr 1; omega
  have gb : ∀ i, i < 9 + r.d.length → (enc r)[8 + i]? = (body r)[i]? := fun i hi => by have := fb r [] i hi; rwa [List.append_nil] at this
  have gc : ∀ i, i < 4 → (enc r)[17 + r.d.length + i]? = (be 4 (chk (body r)))[i]? := fun i hi => by have := fc r [] i hi; rwa [List.append_nil] at this
  have hcr := chk_lt (body r)
  have hcq := chk_lt (body q)
  rcases Nat.lt_or_ge j (17 + r.d.length) with hj17 | hj17
  · -- in the body: the check is as it was
    have hck : chk (body q) = chk (body r) := by
      have : be 4 (chk (body q)) = be 4 (chk (body r)) := ext4 _ _ fun i hi => by
        rw [← fc q t i hi, hlen, at_ _ (by omega), if_neg (by omega), gc i hi]
      exact be_inj (by omega) (by omega) this
    have hb : body q = (body r).set (j - 8) x := by
      apply List.ext_getElem?
      intro i
      rw [List.getElem?_set]
      rcases Nat.lt_or_ge i (9 + r.d.length) with hi | hi
      · rw [← fb q t i (by omega), at_ _ (by omega), ← gb i hi]
        by_cases hij : j - 8 = i
        · rw [if_pos (by omega), if_pos hij, if_pos (by rw [body_len]; omega)]
        · rw [if_neg (by omega), if_neg hij]
      · rw [List.getElem?_eq_none (by rw [body_len]; omega), if_neg (by omega), List.getElem?_eq_none (by rw [body_len]; omega)]
    have hjb : (body r)[j - 8]? = some y := by rw [← gb _ (by omega), show 8 + (j - 8) = j by omega, hj]
    obtain ⟨hjl', hjy⟩ := List.getElem?_eq_some_iff.1 hjb
    have hsplit : body r = (body r).take (j - 8) ++ y :: (body r).drop (j - 8 + 1) := by
      rw [← hjy, List.getElem_cons_drop, List.take_append_drop]
    have hset : (body r).set (j - 8) x = (body r).take (j - 8) ++ x :: (body r).drop (j - 8 + 1) := List.set_eq_take_append_cons_drop .. |>.trans (by rw [if_pos hjl'])
    refine chk_ne ((body r).take (j - 8)) ((body r).drop (j - 8 + 1)) x y hy ?_
    rw [← hset, ← hsplit, ← hb]; exact hck
  · -- in the check: the body is as it was
    have hb : body q = body r := by
      apply List.ext_getElem?
      intro i
      rcases Nat.lt_or_ge i (9 + r.d.length) with hi | hi
      · rw [← fb q t i (by omega), at_ _ (by omega), if_neg (by omega), ← gb i hi]
      · rw [List.getElem?_eq_none (by rw [body_len]; omega), List.getElem?_eq_none (by rw [body_len]; omega)]
    have h1 := at_ j hjl
    rw [if_pos rfl] at h1
    have h2 := fc q t (j - (17 + r.d.length)) (by omega)
    rw [hlen, show 17 + r.d.length + (j - (17 + r.d.length)) = j by omega, hb] at h2
    have h3 := gc (j - (17 + r.d.length)) (by omega)
    rw [show 17 + r.d.length + (j - (17 + r.d.length)) = j by omega] at h3
    rw [h2, ← h3, hj] at h1
    exact hy (Option.some.inj h1).symm
end Go.Proofs.YtpmkohnljngbhaaGreatDoor.Wl
