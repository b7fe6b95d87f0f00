/- Walks: great. -/
import Derived.Test.YtpmkohnljngbhaaGreatDoorWalB
import Derived.Test.YtpmkohnljngbhaaGreatDoorWalA
import Derived.Test.YtpmkohnljngbhaaGreatDoorProg
import Derived.ProofKit
import Derived.OpenShut
import Derived.ShutString
import Derived.ChangeOld
import Derived.ChangeSame
import Derived.Below
import Derived.Lib.SmallJoins
import Derived.Deep.Slices
import Derived.Deep.Strs
import Derived.Lib.ConvBytes
import Derived.Deep.RegionWith
set_option linter.all false
namespace Go.Proofs.YtpmkohnljngbhaaGreatDoor.Wl
set_option linter.unusedVariables false
set_option linter.unusedSimpArgs false
set_option maxRecDepth 1000000
open Go.RowKit

/-- The index of the first one, or -1. -/
def Ix (w : World) (b : Bool) (e : Ending) (w' : World) : Prop := ∃ i : Int, e = .returned (.int .i64 i) ∧ (b = true → 0 ≤ i) ∧ (b = false → i = -1) ∧ Below w.heap.size w w'
theorem Ix.t {w w' : World} {b : Bool} {i : Int} {e : Ending} (hb : b = true) (he : e = .returned (.int .i64 i)) (h : 0 ≤ i) (hw : Below w.heap.size w w') : Ix w b e w' := ⟨i, he, fun _ => h, (fun h => by rw [hb] at h; cases h), hw⟩
theorem Ix.f {w w' : World} {b : Bool} {e : Ending} (hb : b = false) (he : e = .returned (.int .i64 (-1))) (hw : Below w.heap.size w w') : Ix w b e w' := ⟨-1, he, (fun h => by rw [hb] at h; cases h), fun _ => rfl, hw⟩
end Go.Proofs.YtpmkohnljngbhaaGreatDoor.Wl
/- Bytes and records among the arguments, opened to their cells. -/
namespace Go.Proofs.YtpmkohnljngbhaaGreatDoor.Wl
set_option maxRecDepth 1000000
open Go.ChangeShapes Go.WideShapes Go.Deep Go.RowKit

theorem cell_lt {W : World} {p : Addr} {v : Value} (h : W.cell? p = some v) : p.block < W.heap.size ∧ p.spot = none := by
  unfold World.cell? at h
  rcases hh : W.heap[p.block]? with _ | o
  · rw [hh] at h; simp at h
  · refine ⟨(Array.getElem?_eq_some_iff.1 hh).1, ?_⟩
    rw [hh] at h
    cases o <;> first | (simp at h; done) | skip
    rcases hs : p.spot with _ | x
    · rfl
    · simp [hs] at h
theorem addr_at {W : World} {a : Addr} {v : Value} (h : W.cell? (a.add 0) = some v) : a.block < W.heap.size ∧ a = ⟨a.block, a.off, none⟩ ∧ ∀ k, a.add k = ⟨a.block, a.off + k, none⟩ := by
  have e : a.add 0 = a := by simp [Addr.add]
  rw [e] at h
  obtain ⟨h1, h2⟩ := cell_lt h
  have ha : a = ⟨a.block, a.off, none⟩ := by cases a; simp at h2 ⊢; exact h2
  refine ⟨h1, ha, fun k => ?_⟩
  rw [ha]; exact addr_add _ _ _
section
variable {H : Type} {enc : TypeId × Value → H} {W : World} {base : Nat} {spare : Nat → Bool} {held : Bool}
theorem open_bytes {fuel : Nat} {c0 : Value} {y : DataW H × List MemPlace} (h : DataW.trod enc Tryz.prog W base spare held fuel 30 [c0] = some y) :
    ∃ (A : Option Addr) (n c : Nat) (d : List UInt8), c0 = .slice A n c ∧ Rd W 1 A n c (bv d) := by
  have one1 : Tryz.prog.cellsOf 5 = 1 := by kernel_rfl
  rcases open_slice Tryz.underlying30 h with ⟨hc, _⟩ | ⟨a, len, cap, m, fu, D, Pl, hc, _, hlc, hcm, hm, _, hi⟩
  · obtain rfl : c0 = .slice none 0 0 := by simpa using hc
    exact ⟨none, 0, 0, [], rfl, Rd.nil_ _ _⟩
  · obtain rfl : c0 = .slice (some a) len cap := by simpa using hc
    have hlm : len ≤ m := by rw [hm]; split <;> omega
    have hel : ∀ i, i < len → ∃ q : UInt8, W.cell? (a.add i) = some (.int .u8 (q.toNat : Int)) := by
      intro i him
      obtain ⟨cs', hcs, ht⟩ := hi i (by omega)
      rw [one1] at hcs
      obtain ⟨_, hcl, hat⟩ := World.cells?_some hcs
      match cs', hcl with
      | [x], _ =>
        obtain ⟨u, e, _, wf⟩ := DataW.trod_int Tryz.underlying5 ht
        obtain rfl : x = .int .u8 u := by simpa using e
        have h0 := hat 0 (by omega)
        have hb := bounds_u8 wf
        refine ⟨UInt8.ofNat u.toNat, ?_⟩
        rw [show ((UInt8.ofNat u.toNat).toNat : Int) = u by simp; omega]
        rw [add_add, Nat.mul_one, Nat.add_zero] at h0
        exact h0
    obtain ⟨f, hf⟩ := choose_lt hel
    have hmx : maxLen = 9223372036854775807 := by decide
    refine ⟨some a, len, cap, (List.range len).map f, rfl, ?_, hlc, fun e => (by cases e), by omega, fun h0 => ?_⟩
    · rw [bv_len]; simp
    · obtain ⟨h1, h2, h3⟩ := addr_at (hf 0 h0)
      refine ⟨a.block, a.off, by rw [← h2], h1, fun j hj => ?_⟩
      rw [← h3, hf j (by omega), bv_get, List.getElem?_map, List.getElem?_range (by omega)]; rfl
instance : Inhabited RV := ⟨⟨0, 0, none, 0, []⟩⟩
theorem open_bytes' {r : Reach} {b0 : Nat} {v : Value} {d : DataW H} {p : List MemPlace} (hv : Value.okWide Tryz.prog W r b0 30 v) (h : DataW.Trod enc Tryz.prog W base spare held 30 v d p) :
    ∃ (A : Option Addr) (n c : Nat) (x : List UInt8), v = .slice A n c ∧ Rd W 1 A n c (bv x) := by
  obtain ⟨a, len, cap, rfl⟩ := okWide_slice Tryz.underlying30 hv
  obtain ⟨fuel, hf⟩ := h
  obtain ⟨A, n, c, l, e, h1⟩ := open_bytes (c0 := .slice a len cap) (by simpa [Value.cells] using hf)
  exact ⟨A, n, c, l, e, h1⟩
end
end Go.Proofs.YtpmkohnljngbhaaGreatDoor.Wl
/- Walk: the log of records. -/
namespace Go.Proofs.YtpmkohnljngbhaaGreatDoor.Wl
set_option maxRecDepth 1000000
open Go.RowKit

def okR (r : Rec) : Bool := okV r.k r.t r.d.length
end Go.Proofs.YtpmkohnljngbhaaGreatDoor.Wl
/- Walk: transactions. -/
namespace Go.Proofs.YtpmkohnljngbhaaGreatDoor.Wl
set_option maxRecDepth 1000000
open Go.RowKit Go.Maps
attribute [local go_sem ↓] Go.wp_at_zero Go.wp_at_succ

end Go.Proofs.YtpmkohnljngbhaaGreatDoor.Wl
/- Walk: Committed. -/
namespace Go.Proofs.YtpmkohnljngbhaaGreatDoor.Wl
set_option maxRecDepth 1000000
open Go.RowKit

end Go.Proofs.YtpmkohnljngbhaaGreatDoor.Wl
/- Plain: what waits for a commit, what is compacted, what is repaired. -/
namespace Go.Proofs.YtpmkohnljngbhaaGreatDoor.Wl
set_option maxRecDepth 1000000
open Go.Maps

theorem snoc_ind {α : Type} {P : List α → Prop} (h0 : P []) (h1 : ∀ l x, P l → P (l ++ [x])) (l : List α) : P l := by
  suffices h : ∀ n (l : List α), l.length = n → P l from h _ l rfl
  intro n
  induction n with
  | zero => intro l hl; obtain rfl := List.eq_nil_of_length_eq_zero hl; exact h0
  | succ n ih =>
    intro l hl
    rcases List.eq_nil_or_concat l with rfl | ⟨l, x, rfl⟩
    · exact h0
    · rw [List.concat_eq_append] at hl ⊢
      exact h1 l x (ih l (by simpa using hl))
def Rec.end_ (t : Int) : Rec := ⟨3, t, []⟩
def grp (p : Int × List Rec) : List Rec := p.2 ++ [Rec.end_ p.1]
/-- The records that are kept by compacting. -/
def cmp (l : List Rec) (f : Int) : List Rec := (((trs l).filter (fun p => decide (f ≤ p.1))).map grp).flatten
/-- The records up to the last commit. -/
def ustp (s : List Rec × List Rec) (r : Rec) : List Rec × List Rec := (if r.k = 3 then s.2 ++ [r] else s.1, s.2 ++ [r])
def upc (l : List Rec) : List Rec := (l.foldl ustp ([], [])).1
theorem ustp_2 (l : List Rec) : (l.foldl ustp ([], [])).2 = l := by
  induction l using snoc_ind with
  | h0 => rfl
  | h1 l r ih => rw [List.foldl_append]; show (l.foldl ustp ([], [])).2 ++ [r] = _; rw [ih]
theorem upc_snoc (l : List Rec) (r : Rec) : upc (l ++ [r]) = if r.k = 3 then l ++ [r] else upc l := by
  unfold upc
  rw [List.foldl_append]
  show (if r.k = 3 then (l.foldl ustp ([], [])).2 ++ [r] else _) = _
  rw [ustp_2]
theorem upc_pre (l : List Rec) : ∃ z, l = upc l ++ z := by
  induction l using snoc_ind with
  | h0 => exact ⟨[], rfl⟩
  | h1 l r ih =>
    rw [upc_snoc]
    by_cases hk : r.k = 3
    · rw [if_pos hk]; exact ⟨[], by simp⟩
    · rw [if_neg hk]
      obtain ⟨z, hz⟩ := ih
      exact ⟨z ++ [r], by rw [← List.append_assoc, ← hz]⟩
/-- The length of what is repaired. -/
def rend (b : List UInt8) : Nat := (encs (upc (rd b))).length
theorem rend_take (b : List UInt8) : b.take (rend b) = encs (upc (rd b)) := by
  obtain ⟨z, hz⟩ := upc_pre (rd b)
  obtain ⟨_, t, h2, _⟩ := rd_reads b
  have e : b = encs (upc (rd b)) ++ (encs z ++ t) := by
    rw [← List.append_assoc, ← encs_app, ← hz]; exact h2
  have h : rend b = (encs (upc (rd b))).length := rfl
  rw [h]
  generalize encs (upc (rd b)) = y at e ⊢
  rw [e, List.take_left]
end Go.Proofs.YtpmkohnljngbhaaGreatDoor.Wl
/- Walks: put, build. -/
namespace Go.Proofs.YtpmkohnljngbhaaGreatDoor.Wl
set_option maxRecDepth 1000000
open Go.RowKit

theorem conv_new (w : World) (s : ByteArray) (hs : s.size ≤ 1000000) : ∃ c W2, (convert 9 30 (.string s)).run Tryz.prog w = .ok (.slice (some ⟨w.heap.size, 0, none⟩) s.size c) W2 ∧
    Below w.heap.size w W2 ∧ Rd W2 1 (some ⟨w.heap.size, 0, none⟩) s.size c (bv s.data.toList) := by
  refine ⟨_, _, Lib.run_convert_string_bytes w 9 30 5 s Tryz.underlying9 Tryz.underlying30 Tryz.underlying5, ⟨rfl, rfl, rfl, ?_, fun i hi => ?_⟩, ?_⟩
  · rw [Lib.bytesWorld_size]; omega
  · exact Lib.bytesWorld_at_old w _ s i hi
  · have h1 := grownCap_ge w s.size 0 5
    have h2 := grownCap_le_maxLen w s.size 0 5 (by unfold maxLen; omega)
    refine ⟨by rw [bv_len]; simp, h1, fun h => (by cases h), by unfold maxLen at h2; omega, fun _ => ⟨_, _, rfl, by rw [Lib.bytesWorld_size]; omega, fun j hj => ?_⟩⟩
    rw [Nat.zero_add, Lib.bytesWorld_cell _ _ _ _ (by omega), bv_get]
    have hj' : j < s.data.toList.length := by simpa using hj
    rw [List.getD_eq_getElem?_getD, List.getElem?_eq_getElem hj']; rfl
end Go.Proofs.YtpmkohnljngbhaaGreatDoor.Wl
/- Walks: build, and the examples of the chapter. -/
namespace Go.Proofs.YtpmkohnljngbhaaGreatDoor.Wl
set_option maxRecDepth 1000000
open Go.RowKit

end Go.Proofs.YtpmkohnljngbhaaGreatDoor.Wl
/- Walks: Repair, by the program and by the reference. -/
namespace Go.Proofs.YtpmkohnljngbhaaGreatDoor.Wl
set_option maxRecDepth 1000000
open Go.RowKit

set_option maxHeartbeats 1600000 in
theorem Repair_any {A : Option Addr} {n c : Nat} {b : List UInt8} (w : World) (hl : Hid (n = b.length)) (h : Hid (Rd w 1 A n c (bv b))) (hn : n ≤ 1073741824) :
    Calls Tryz.prog 41 #[.slice A n c] w (Mk w (rend b) (b.take (rend b))) := by
  have hnc := h.out.nc
  have hc63 := h.out.c63
  go_enter Tryz.func41, Tryz.ntmps41
  go_wp2_with fail
  go_loopw [3, 4, 5, 6, 7] (fun v i _ _ _ wr => ∃ (l : List RV) (en a : Nat), v = .int .i64 en ∧ i = .int .i64 a ∧ a ≤ n ∧ en ≤ n ∧ Hid (en = (encs (upc (l.map RV.r))).length) ∧ Hid (Got b l a) ∧ Below w.heap.size w wr) (fun _ i _ _ _ _ => (n - intOf i).toNat)
  case atStart => exact ⟨[], 0, 0, rfl, rfl, by omega, by omega, Lib.hid rfl, Lib.hid (Got.nil b), Below.refl _ _⟩
  case round =>
    obtain ⟨l, en, a, rfl, rfl, ha, hen, he, gt, bw⟩ := hrel
    have hrd := Lib.hid (h.out.below bw)
    have fin : ∀ {w1 : World}, one (b.drop a) = none → Below wr.heap.size wr w1 → Hid (Rd w1 1 A en c (bv (b.take en))) ∧ Hid (en = rend b) ∧ Below w.heap.size w w1 := fun {w1} ho b1 => by
      have R := gt.out.all ho
      exact ⟨Lib.hid ((hrd.out.below b1).upto1 hen), Lib.hid (by rw [he.out, R.1]; rfl), bw.trans (b1.mono bw.size)⟩
    by_cases han : a < n
    · obtain ⟨g, o, rfl, hg, _⟩ := h.out.at_ (by omega)
      have hca : ¬ c = a := by omega
      go_wp2_with fail
      go_at_call 79
      refine (one_any (b := b.drop a) _ (Lib.hid (by have := hl.out; simp; omega)) (Lib.hid (hrd.out.tail (lo := a) (by omega))) (by omega)).mono ?_
      rintro e w1 (⟨ho, rfl, b1⟩ | ⟨r, m, A2, c2, ho, hm, rfl, own, b1⟩)
      · obtain ⟨rd1, ee, bw1⟩ := fin ho b1
        clear ho b1 fin
        have rd2 := Lib.hid (rd1.out.alloc (.cells #[.int .i64 0, .int .i64 0, .slice none 0 0] 89))
        go_wp2_with fail
        go_at_call 80
        refine (clone_any _ rd2 (by omega)).mono ?_
        rintro e w2 ⟨A2, c2, rfl, own2, b2⟩
        go_wp2_with fail
        go_ret
        rw [← ee.out]
        exact ⟨A2, c2, rfl, own_base own2 (by have := bw1.size; simp; omega), (bel_alloc bw1 (Nat.le_refl _) _).trans (b2.mono (by have := bw1.size; simp; omega))⟩
      · have hle := congrArg List.length (one_some ho).2
        rw [List.length_append, enc_len, List.length_drop, List.length_drop, ← hm, ← hl.out] at hle
        have hok := (one_some ho).1
        have hm' : m ≤ 4096 := by rw [hm]; exact ok_len hok
        have GT := Lib.hid (gt.out.push ho ⟨r.k, r.t, A2, c2, r.d⟩ rfl)
        have HM := Lib.hid hm
        have bw1 := bel_alloc (bw.trans (b1.mono bw.size)) (Nat.le_refl _) (.cells #[.int .i64 r.k, .int .i64 r.t, .slice A2 m c2] 89)
        have hlen : a + (21 + m) ≤ n := by omega
        clear hle hok hm ho own b1 fin
        by_cases hk : r.k = 3
        · have he2 : Hid (a + (21 + m) = (encs (upc ((l ++ [(⟨r.k, r.t, A2, c2, r.d⟩ : RV)]).map RV.r))).length) := Lib.hid (by
            rw [List.map_append, List.map_cons, List.map_nil, upc_snoc, if_pos (show (RV.r (⟨r.k, r.t, A2, c2, r.d⟩ : RV)).k = 3 from hk)]
            have := GT.out.len
            rw [← HM.out] at this
            rw [this]; simp)
          rw [hk] at bw1
          go_wp2_with fail
          go_roundw
          case rel => exact ⟨_, a + (21 + m), a + (21 + m), by go_num, by go_num, hlen, hlen, he2, Lib.hid (by have := GT.out; rwa [← HM.out] at this), bw1⟩
          case measure => simp [intOf]; omega
        · have he2 : Hid (en = (encs (upc ((l ++ [(⟨r.k, r.t, A2, c2, r.d⟩ : RV)]).map RV.r))).length) := Lib.hid (by
            rw [List.map_append, List.map_cons, List.map_nil, upc_snoc, if_neg (show ¬ (RV.r (⟨r.k, r.t, A2, c2, r.d⟩ : RV)).k = 3 from hk)]; exact he.out)
          go_wp2_with fail
          go_roundw
          case rel => exact ⟨_, en, a + (21 + m), by go_num, by go_num, hlen, hen, he2, Lib.hid (by have := GT.out; rwa [← HM.out] at this), bw1⟩
          case measure => simp [intOf]; omega
    · obtain rfl : a = n := by omega
      have ho : one (b.drop a) = none := one_short (by have := hl.out; simp; omega)
      by_cases hca : c = a
      · subst hca
        have hr0 := Lib.hid (hrd.out.end_ (A' := A) (c' := 0) (fun _ => rfl) hl.out.symm (by omega))
        go_wp2_with fail
        go_at_call 79
        refine (one_any (n := 0) (c := 0) (b := b.drop c) _ (Lib.hid (by have := hl.out; simp; omega)) hr0 (by omega)).mono ?_
        rintro e w1 (⟨_, rfl, b1⟩ | ⟨r, m, A2, c2, ho', _⟩)
        · obtain ⟨rd1, ee, bw1⟩ := fin ho b1
          clear ho b1 fin
          have rd2 := Lib.hid (rd1.out.alloc (.cells #[.int .i64 0, .int .i64 0, .slice none 0 0] 89))
          go_wp2_with fail
          go_at_call 80
          refine (clone_any _ rd2 (by omega)).mono ?_
          rintro e w2 ⟨A2, c2, rfl, own2, b2⟩
          go_wp2_with fail
          go_ret
          rw [← ee.out]
          exact ⟨A2, c2, rfl, own_base own2 (by have := bw1.size; simp; omega), (bel_alloc bw1 (Nat.le_refl _) _).trans (b2.mono (by have := bw1.size; simp; omega))⟩
        · rw [ho'] at ho; cases ho
      · have hr0 := Lib.hid (hrd.out.end_ (A' := Option.map (fun x => x.add a) A) (c' := c - a) (fun e => by
          rcases A with _ | q
          · have := h.out.nil rfl; omega
          · cases e) hl.out.symm rfl)
        go_wp2_with fail
        go_at_call 79
        refine (one_any (n := 0) (c := c - a) (b := b.drop a) _ (Lib.hid (by have := hl.out; simp; omega)) hr0 (by omega)).mono ?_
        rintro e w1 (⟨_, rfl, b1⟩ | ⟨r, m, A2, c2, ho', _⟩)
        · obtain ⟨rd1, ee, bw1⟩ := fin ho b1
          clear ho b1 fin
          have rd2 := Lib.hid (rd1.out.alloc (.cells #[.int .i64 0, .int .i64 0, .slice none 0 0] 89))
          go_wp2_with fail
          go_at_call 80
          refine (clone_any _ rd2 (by omega)).mono ?_
          rintro e w2 ⟨A2, c2, rfl, own2, b2⟩
          go_wp2_with fail
          go_ret
          rw [← ee.out]
          exact ⟨A2, c2, rfl, own_base own2 (by have := bw1.size; simp; omega), (bel_alloc bw1 (Nat.le_refl _) _).trans (b2.mono (by have := bw1.size; simp; omega))⟩
        · rw [ho'] at ho; cases ho

end Go.Proofs.YtpmkohnljngbhaaGreatDoor.Wl
/- Plain: logs that are cut, logs that are damaged. -/
namespace Go.Proofs.YtpmkohnljngbhaaGreatDoor.Wl
set_option maxRecDepth 1000000

theorem encs_pre : ∀ {xs vs : List Rec} {u : List UInt8}, (∀ r ∈ xs, ok r) → (∀ r ∈ vs, ok r) → encs xs ++ u = encs vs → ∃ ys, vs = xs ++ ys ∧ u = encs ys
  | [], vs, u, _, _, e => ⟨vs, rfl, by rw [encs_nil, List.nil_append] at e; exact e⟩
  | r :: xs, [], u, h, _, e => by
    rw [encs_nil, encs_cons] at e
    have := congrArg List.length e
    rw [List.length_append, List.length_append, enc_len] at this
    simp at this
  | r :: xs, v :: vs, u, h, k, e => by
    rw [encs_cons, encs_cons, List.append_assoc] at e
    have h1 := one_enc (h r (by simp)) (encs xs ++ u)
    rw [e, one_enc (k v (by simp))] at h1
    obtain rfl := Option.some.inj h1
    obtain ⟨ys, e1, e2⟩ := encs_pre (fun x hx => h x (by simp [hx])) (fun x hx => k x (by simp [hx])) (List.append_cancel_left e)
    exact ⟨ys, by rw [e1]; rfl, e2⟩
/-- A log that is cut. -/
theorem cut_reads {vs : List Rec} (h : ∀ r ∈ vs, ok r) (k : Nat) : ∃ ys, vs = rd ((encs vs).take k) ++ ys ∧ ∀ r zs, ys = r :: zs → ((encs vs).take k).length < glen ((encs vs).take k) + (21 + r.d.length) := by
  obtain ⟨h1, t, h2, h3⟩ := rd_reads ((encs vs).take k)
  have e : encs (rd ((encs vs).take k)) ++ (t ++ (encs vs).drop k) = encs vs := by
    rw [← List.append_assoc, ← h2, List.take_append_drop]
  obtain ⟨ys, e1, e2⟩ := encs_pre h1 h e
  refine ⟨ys, e1, fun r zs hy => ?_⟩
  have hl := congrArg List.length h2
  rw [List.length_append] at hl
  have hg : glen ((encs vs).take k) = (encs (rd ((encs vs).take k))).length := rfl
  rw [hg]
  rcases Nat.lt_or_ge t.length (21 + r.d.length) with h4 | h4
  · omega
  · exfalso
    have hr : ok r := h r (by rw [e1, hy]; simp)
    rw [hy, encs_cons] at e2
    have e3 : t = enc r ++ t.drop (21 + r.d.length) := by
      have h5 : (t ++ (encs vs).drop k).take (21 + r.d.length) = enc r := by rw [e2, ← enc_len, List.take_left]
      rw [List.take_append_of_le_length h4] at h5
      rw [← h5, List.take_append_drop]
    rw [e3, one_enc hr] at h3
    cases h3
end Go.Proofs.YtpmkohnljngbhaaGreatDoor.Wl
