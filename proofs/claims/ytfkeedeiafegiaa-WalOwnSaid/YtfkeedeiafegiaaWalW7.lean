/- Walks: Read, by the program and by the reference. -/
import Derived.Test.YtfkeedeiafegiaaWalW6
import Derived.Test.YtfkeedeiafegiaaWalMem2
namespace Go.Proofs.Ytfkeedeiafegiaa.Wl
set_option linter.unusedVariables false
set_option linter.unusedSimpArgs false
open Go.RowKit

/-- What Read returns. -/
def Rdd (w : World) (b : List UInt8) (e : Ending) (w' : World) : Prop :=
  ∃ A n c l, e = .returned (.tuple #[.slice A n c, .int .i64 (glen b : Nat)]) ∧ l.map RV.r = rd b ∧ Rs w' w.heap.size A n c l ∧ Below w.heap.size w w'
/-- What has been read. -/
structure Got (b : List UInt8) (l : List RV) (at_ : Nat) : Prop where
  ok : ∀ r ∈ l.map RV.r, ok r
  len : at_ = (encs (l.map RV.r)).length
  eq : b = encs (l.map RV.r) ++ b.drop at_
theorem Got.nil (b : List UInt8) : Got b [] 0 := ⟨by simp, by simp [encs], by simp [encs]⟩
theorem Got.push {b : List UInt8} {l : List RV} {a : Nat} (h : Got b l a) {r : Rec} (ho : one (b.drop a) = some r) (x : RV) (hx : x.r = r) : Got b (l ++ [x]) (a + (21 + r.d.length)) := by
  obtain ⟨h1, h2⟩ := one_some ho
  refine ⟨?_, ?_, ?_⟩
  · intro y hy
    rw [List.map_append, List.mem_append] at hy
    rcases hy with hy | hy
    · exact h.ok y hy
    · obtain rfl : y = r := by simpa [hx] using hy
      exact h1
  · rw [List.map_append, List.map_cons, List.map_nil, encs_snoc, List.length_append, hx, enc_len, ← h.len]
  · rw [List.map_append, List.map_cons, List.map_nil, encs_snoc, hx, List.append_assoc]
    rw [List.drop_drop] at h2
    rw [h2]; exact h.eq
theorem Got.le {b : List UInt8} {l : List RV} {a : Nat} (h : Got b l a) : a ≤ b.length := by
  have := congrArg List.length h.eq
  rw [List.length_append, ← h.len] at this
  omega
theorem Got.all {b : List UInt8} {l : List RV} {a : Nat} (h : Got b l a) (ho : one (b.drop a) = none) : l.map RV.r = rd b ∧ a = glen b := by
  have := rd_eq (b := b) (l := l.map RV.r) ⟨h.ok, b.drop a, h.eq, ho⟩
  exact ⟨this.symm, by unfold glen; rw [this]; exact h.len⟩
/-- The rest of a slice, as the model spells it. -/
theorem Rd.end_ {w : World} {n c : Nat} {A A' : Option Addr} {l : List UInt8} (h : Rd w 1 A n c (bv l)) (hA : A' = none → c = n) (hn : l.length = n) {c' : Nat} (hc : c' = c - n) : Rd w 1 A' 0 c' (bv (l.drop n)) := by
  subst hc
  have h1 := h.nc
  have h2 := h.c63
  exact ⟨by rw [bv_len, List.length_drop]; omega, by omega, fun e => by have := hA e; omega, by omega, fun h => by omega⟩

set_option maxHeartbeats 1600000 in
theorem Read_any {A : Option Addr} {n c : Nat} {b : List UInt8} (w : World) (hl : Hid (n = b.length)) (h : Hid (Rd w 1 A n c (bv b))) (hn : n ≤ 1073741824) :
    Calls Try.prog 19 #[.slice A n c] w (Rdd w b) := by
  have hnc := h.out.nc
  have hc63 := h.out.c63
  obtain ⟨i0, hi, hz0, hz1, hz2⟩ := info_parts info_rec
  go_enter Try.func19, Try.ntmps19
  go_wp2_with fail
  go_loopw [4, 5, 6, 7, 8] (fun v i _ _ _ wr => ∃ l A1 n1 c1 a, v = .slice A1 n1 c1 ∧ i = .int .i64 (a : Nat) ∧ a ≤ n ∧ n1 ≤ a ∧ Hid (Rs wr w.heap.size A1 n1 c1 l) ∧ Hid (Got b l a) ∧ Below w.heap.size w wr) (fun _ i _ _ _ _ => (n - intOf i).toNat)
  case atStart => exact ⟨[], none, 0, 0, 0, rfl, rfl, by omega, by omega, Lib.hid (Rs.nil_ _ _), Lib.hid (Got.nil b), Below.refl _ _⟩
  case round =>
    obtain ⟨l, A1, n1, c1, a, rfl, rfl, ha, hn1, rs, gt, bw⟩ := hrel
    have hrd := Lib.hid (h.out.below bw)
    by_cases han : a < n
    · obtain ⟨g, o, rfl, hg, _⟩ := h.out.at_ (by omega)
      have hca : ¬ c = a := by omega
      go_wp2_with fail
      go_at_call 49
      refine (one_any (b := b.drop a) _ (Lib.hid (by have := hl.out; simp; omega)) (Lib.hid (hrd.out.tail (lo := a) (by omega))) (by omega)).mono ?_
      rintro e w1 (⟨ho, rfl, b1⟩ | ⟨r, m, A2, c2, ho, hm, rfl, own, b1⟩)
      · have R := Lib.hid (gt.out.all ho)
        have hag := R.out.2
        have HL := Lib.hid R.out.1
        have rs1 := Lib.hid (rs.out.below b1)
        have bw1 := bw.trans (b1.mono bw.size)
        have HG := Lib.hid hag
        clear R hag ho b1
        go_wp2_with fail
        go_ret2
        exact ⟨A1, n1, c1, l, by rw [← HG.out]; rfl, HL.out, rs1.out.alloc _, bel_alloc bw1 (Nat.le_refl _) _⟩
      · have hle := congrArg List.length (one_some ho).2
        rw [List.length_append, enc_len, List.length_drop, List.length_drop, ← hm, ← hl.out] at hle
        have hok := (one_some ho).1
        have hm' : m ≤ 4096 := by rw [hm]; exact ok_len hok
        have GT := Lib.hid (gt.out.push ho ⟨r.k, r.t, A2, c2, r.d⟩ rfl)
        have HM := Lib.hid hm
        have rs1 := Lib.hid (rs.out.below b1)
        have bw1 := bw.trans (b1.mono bw.size)
        have own1 : w1.ownsRow w.heap.size 5 1 (.slice A2 m c2) m (bv r.d) := own_base own bw.size
        have OW := Lib.hid own1
        have z1 := bw1.size
        have hlen : a + (21 + m) ≤ n := by omega
        clear hle hok hm ho own own1 b1 gt rs
        go_wp2_with (at_builtin; refine wpList_app _ rfl (.tmp 19) (.tmp 21) 33 rfl w.heap.size 24 i0 (.agg #[.int .i64 0, .int .i64 0, .slice none 0 0]) 3 40 Try.underlying33 hi hz0 hz1 hz2 rfl (by omega) (by rfl) ((rs1.out.alloc _).alloc _).row (by rfl) (Rd.lit' _ _ 3 #[.int .i64 r.k, .int .i64 r.t, .slice A2 m c2] 1 (by simp) (by omega) rfl) (one3 _ _ _ rfl rfl rfl) (by omega) (by omega) (by simp; omega) ?_; intro A3 c3 w3 own3 g3)
        go_roundw
        case rel =>
          have hw3 := g3.low (bel_alloc (bel_alloc bw1 (Nat.le_refl _) (.cells #[.int .i64 r.k, .int .i64 r.t, .slice A2 m c2] 24)) (Nat.le_refl _) (.cells #[.int .i64 r.k, .int .i64 r.t, .slice A2 m c2] 24)) (by simp; omega) (fun g e => (own_blk_le rs1.out.row e).1)
          refine ⟨_, A3, n1 + 1, c3, a + (21 + r.d.length), rfl, by rw [← HM.out]; go_num, by rw [← HM.out]; exact hlen, by omega, ?_, GT, hw3⟩
          refine Lib.hid (((rs1.out.alloc _).alloc _).push ⟨r.k, r.t, A2, c2, r.d⟩ ?_ ?_ g3)
          · rw [← HM.out]; exact own_alloc (own_alloc OW.out _) _
          · show w3.ownsRow _ _ _ _ _ (_ ++ [.int .i64 r.k, .int .i64 r.t, .slice A2 r.d.length c2])
            rw [← HM.out]; exact own3
        case measure => simp [intOf]; omega
    · obtain rfl : a = n := by omega
      have ho : one (b.drop a) = none := one_short (by have := hl.out; simp; omega)
      have R := Lib.hid (gt.out.all ho)
      have hag := R.out.2
      have HL := Lib.hid R.out.1
      have HG := Lib.hid hag
      clear R hag
      by_cases hca : c = a
      · subst hca
        have hr0 := Lib.hid (hrd.out.end_ (A' := A) (c' := 0) (fun _ => rfl) hl.out.symm (by omega))
        go_wp2_with fail
        go_at_call 49
        refine (one_any (n := 0) (c := 0) (b := b.drop c) _ (Lib.hid (by have := hl.out; simp; omega)) hr0 (by omega)).mono ?_
        rintro e w1 (⟨_, rfl, b1⟩ | ⟨r, m, A2, c2, ho', _⟩)
        · have rs1 := Lib.hid (rs.out.below b1)
          have bw1 := bw.trans (b1.mono bw.size)
          clear b1
          go_wp2_with fail
          go_ret2
          exact ⟨A1, n1, c1, l, by rw [← HG.out]; rfl, HL.out, rs1.out.alloc _, bel_alloc bw1 (Nat.le_refl _) _⟩
        · rw [ho'] at ho; cases ho
      · have hr0 := Lib.hid (hrd.out.end_ (A' := Option.map (fun x => x.add a) A) (c' := c - a) (fun e => by
          rcases A with _ | q
          · have := h.out.nil rfl; omega
          · cases e) hl.out.symm rfl)
        go_wp2_with fail
        go_at_call 49
        refine (one_any (n := 0) (c := c - a) (b := b.drop a) _ (Lib.hid (by have := hl.out; simp; omega)) hr0 (by omega)).mono ?_
        rintro e w1 (⟨_, rfl, b1⟩ | ⟨r, m, A2, c2, ho', _⟩)
        · have rs1 := Lib.hid (rs.out.below b1)
          have bw1 := bw.trans (b1.mono bw.size)
          clear b1
          go_wp2_with fail
          go_ret2
          exact ⟨A1, n1, c1, l, by rw [← HG.out]; rfl, HL.out, rs1.out.alloc _, bel_alloc bw1 (Nat.le_refl _) _⟩
        · rw [ho'] at ho; cases ho

set_option maxHeartbeats 1600000 in
theorem rRead_any {A : Option Addr} {n c : Nat} {b : List UInt8} (w : World) (hl : Hid (n = b.length)) (h : Hid (Rd w 1 A n c (bv b))) (hn : n ≤ 1073741824) :
    Calls Try.prog 20 #[.slice A n c] w (Rdd w b) := by
  have hnc := h.out.nc
  have hc63 := h.out.c63
  obtain ⟨i0, hi, hz0, hz1, hz2⟩ := info_parts info_rec
  go_enter Try.func20, Try.ntmps20
  go_wp2_with fail
  go_loopw [4, 5, 6, 7, 8] (fun v i _ _ _ wr => ∃ l A1 n1 c1 a, v = .slice A1 n1 c1 ∧ i = .int .i64 (a : Nat) ∧ a ≤ n ∧ n1 ≤ a ∧ Hid (Rs wr w.heap.size A1 n1 c1 l) ∧ Hid (Got b l a) ∧ Below w.heap.size w wr) (fun _ i _ _ _ _ => (n - intOf i).toNat)
  case atStart => exact ⟨[], none, 0, 0, 0, rfl, rfl, by omega, by omega, Lib.hid (Rs.nil_ _ _), Lib.hid (Got.nil b), Below.refl _ _⟩
  case round =>
    obtain ⟨l, A1, n1, c1, a, rfl, rfl, ha, hn1, rs, gt, bw⟩ := hrel
    have hrd := Lib.hid (h.out.below bw)
    by_cases han : a < n
    · obtain ⟨g, o, rfl, hg, _⟩ := h.out.at_ (by omega)
      have hca : ¬ c = a := by omega
      go_wp2_with fail
      go_at_call 50
      refine (rone_any (b := b.drop a) _ (Lib.hid (by have := hl.out; simp; omega)) (Lib.hid (hrd.out.tail (lo := a) (by omega))) (by omega)).mono ?_
      rintro e w1 (⟨ho, rfl, b1⟩ | ⟨r, m, A2, c2, ho, hm, rfl, own, b1⟩)
      · have R := Lib.hid (gt.out.all ho)
        have hag := R.out.2
        have HL := Lib.hid R.out.1
        have rs1 := Lib.hid (rs.out.below b1)
        have bw1 := bw.trans (b1.mono bw.size)
        have HG := Lib.hid hag
        clear R hag ho b1
        go_wp2_with fail
        go_ret2
        exact ⟨A1, n1, c1, l, by rw [← HG.out]; rfl, HL.out, rs1.out.alloc _, bel_alloc bw1 (Nat.le_refl _) _⟩
      · have hle := congrArg List.length (one_some ho).2
        rw [List.length_append, enc_len, List.length_drop, List.length_drop, ← hm, ← hl.out] at hle
        have hok := (one_some ho).1
        have hm' : m ≤ 4096 := by rw [hm]; exact ok_len hok
        have GT := Lib.hid (gt.out.push ho ⟨r.k, r.t, A2, c2, r.d⟩ rfl)
        have HM := Lib.hid hm
        have rs1 := Lib.hid (rs.out.below b1)
        have bw1 := bw.trans (b1.mono bw.size)
        have own1 : w1.ownsRow w.heap.size 5 1 (.slice A2 m c2) m (bv r.d) := own_base own bw.size
        have OW := Lib.hid own1
        have z1 := bw1.size
        have hlen : a + (21 + m) ≤ n := by omega
        clear hle hok hm ho own own1 b1 gt rs
        go_wp2_with (at_builtin; refine wpList_app _ rfl (.tmp 19) (.tmp 21) 33 rfl w.heap.size 24 i0 (.agg #[.int .i64 0, .int .i64 0, .slice none 0 0]) 3 40 Try.underlying33 hi hz0 hz1 hz2 rfl (by omega) (by rfl) ((rs1.out.alloc _).alloc _).row (by rfl) (Rd.lit' _ _ 3 #[.int .i64 r.k, .int .i64 r.t, .slice A2 m c2] 1 (by simp) (by omega) rfl) (one3 _ _ _ rfl rfl rfl) (by omega) (by omega) (by simp; omega) ?_; intro A3 c3 w3 own3 g3)
        go_roundw
        case rel =>
          have hw3 := g3.low (bel_alloc (bel_alloc bw1 (Nat.le_refl _) (.cells #[.int .i64 r.k, .int .i64 r.t, .slice A2 m c2] 24)) (Nat.le_refl _) (.cells #[.int .i64 r.k, .int .i64 r.t, .slice A2 m c2] 24)) (by simp; omega) (fun g e => (own_blk_le rs1.out.row e).1)
          refine ⟨_, A3, n1 + 1, c3, a + (21 + r.d.length), rfl, by rw [← HM.out]; go_num, by rw [← HM.out]; exact hlen, by omega, ?_, GT, hw3⟩
          refine Lib.hid (((rs1.out.alloc _).alloc _).push ⟨r.k, r.t, A2, c2, r.d⟩ ?_ ?_ g3)
          · rw [← HM.out]; exact own_alloc (own_alloc OW.out _) _
          · show w3.ownsRow _ _ _ _ _ (_ ++ [.int .i64 r.k, .int .i64 r.t, .slice A2 r.d.length c2])
            rw [← HM.out]; exact own3
        case measure => simp [intOf]; omega
    · obtain rfl : a = n := by omega
      have ho : one (b.drop a) = none := one_short (by have := hl.out; simp; omega)
      have R := Lib.hid (gt.out.all ho)
      have hag := R.out.2
      have HL := Lib.hid R.out.1
      have HG := Lib.hid hag
      clear R hag
      by_cases hca : c = a
      · subst hca
        have hr0 := Lib.hid (hrd.out.end_ (A' := A) (c' := 0) (fun _ => rfl) hl.out.symm (by omega))
        go_wp2_with fail
        go_at_call 50
        refine (rone_any (n := 0) (c := 0) (b := b.drop c) _ (Lib.hid (by have := hl.out; simp; omega)) hr0 (by omega)).mono ?_
        rintro e w1 (⟨_, rfl, b1⟩ | ⟨r, m, A2, c2, ho', _⟩)
        · have rs1 := Lib.hid (rs.out.below b1)
          have bw1 := bw.trans (b1.mono bw.size)
          clear b1
          go_wp2_with fail
          go_ret2
          exact ⟨A1, n1, c1, l, by rw [← HG.out]; rfl, HL.out, rs1.out.alloc _, bel_alloc bw1 (Nat.le_refl _) _⟩
        · rw [ho'] at ho; cases ho
      · have hr0 := Lib.hid (hrd.out.end_ (A' := Option.map (fun x => x.add a) A) (c' := c - a) (fun e => by
          rcases A with _ | q
          · have := h.out.nil rfl; omega
          · cases e) hl.out.symm rfl)
        go_wp2_with fail
        go_at_call 50
        refine (rone_any (n := 0) (c := c - a) (b := b.drop a) _ (Lib.hid (by have := hl.out; simp; omega)) hr0 (by omega)).mono ?_
        rintro e w1 (⟨_, rfl, b1⟩ | ⟨r, m, A2, c2, ho', _⟩)
        · have rs1 := Lib.hid (rs.out.below b1)
          have bw1 := bw.trans (b1.mono bw.size)
          clear b1
          go_wp2_with fail
          go_ret2
          exact ⟨A1, n1, c1, l, by rw [← HG.out]; rfl, HL.out, rs1.out.alloc _, bel_alloc bw1 (Nat.le_refl _) _⟩
        · rw [ho'] at ho; cases ho
end Go.Proofs.Ytfkeedeiafegiaa.Wl
