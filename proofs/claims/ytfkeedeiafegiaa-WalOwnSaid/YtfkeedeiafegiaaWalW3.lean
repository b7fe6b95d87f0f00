/- Walks: Encode, clones, the code of a record by the reference. -/
import Derived.Test.YtfkeedeiafegiaaWalW2
import Derived.Lib.SliceRun
namespace Go.Proofs.Ytfkeedeiafegiaa.Wl
set_option linter.unusedVariables false
set_option linter.unusedSimpArgs false
open Go.RowKit

theorem Grew.bel {w w' : World} {A : Option Addr} (h : Grew w none w' A) : Below w.heap.size w w' :=
  ⟨h.by_.os, h.by_.tape, h.by_.output, h.by_.size, fun i hi => h.by_.block i hi (by simp [blk])⟩
/-- The code of a valid record, in a row of the call's own. -/
def En (w : World) (m : Nat) (r : List UInt8) (e : Ending) (w' : World) : Prop :=
  ∃ A c, e = .returned (.tuple #[.slice A m c, .int .i64 0]) ∧ w'.ownsRow w.heap.size 5 1 (.slice A m c) m (bv r) ∧ Below w.heap.size w w'
def Er (w : World) (x : Int) (e : Ending) (w' : World) : Prop := e = .returned (.tuple #[.slice none 0 0, .int .i64 x]) ∧ Below w.heap.size w w'

theorem okV_p {k t : Int} {n : Nat} (h : okV k t n = true) : 1 ≤ k ∧ k ≤ 3 ∧ 1 ≤ t ∧ n ≤ 4096 ∧ (k = 3 → n = 0) := of_decide_eq_true h
theorem Encode_ok {B : Option Addr} {m d : Nat} {data : List UInt8} (k t : Int) (w : World) (hd : Hid (Rd w 1 B m d (bv data))) (hv : okV k t m = true) (t2 : t ≤ 9223372036854775807) :
    Calls Try.prog 14 #[.agg #[.int .i64 k, .int .i64 t, .slice B m d]] w (En w (21 + m) (enc ⟨k, t, data⟩)) := by
  obtain ⟨k1, k2, t1, hm, _⟩ := okV_p hv
  have hd0 := Lib.hid (hd.out.alloc (.cells #[.int .i64 k, .int .i64 t, .slice B m d] 24))
  have HV := Lib.hid hv; clear hv
  go_enter Try.func14, Try.ntmps14
  go_wp2_with fail
  go_at_call 42
  refine (valid_any k t B m d _).mono ?_
  rintro e w1 ⟨rfl, hb⟩
  rw [HV.out]
  obtain ⟨bc, bf⟩ := bcell hb
  have hz := hb.size
  have hd1 := Lib.hid (hd0.out.below hb)
  have hbw : Below w.heap.size w w1 := ((Below.refl _ _).alloc (Nat.le_refl _) _).trans (hb.mono (by simp))
  clear hb
  go_wp2_with fail
  go_at_call 43
  refine (code_any (base := w.heap.size) (n := 0) (l := []) k t _ (Lib.hid (World.ownsRow_nil _ _ _ _)) hd1 (Lib.hid fun _ => .inl rfl) k1 k2 t1 t2 hm (by omega) hbw.size).mono ?_
  rintro e w2 ⟨A2, c2, rfl, own2, g2⟩
  go_wp2_with fail
  go_ret2
  rw [Nat.zero_add] at own2
  exact ⟨A2, c2, rfl, own2, hbw.trans (g2.bel.mono hbw.size)⟩
theorem Encode_bad {B : Option Addr} {m d : Nat} (k t : Int) (w : World) (hv : okV k t m = false) :
    Calls Try.prog 14 #[.agg #[.int .i64 k, .int .i64 t, .slice B m d]] w (Er w 1) := by
  have HV := Lib.hid hv; clear hv
  go_enter Try.func14, Try.ntmps14
  go_wp2_with fail
  go_at_call 42
  refine (valid_any k t B m d _).mono ?_
  rintro e w1 ⟨rfl, hb⟩
  rw [HV.out]
  have hbw : Below w.heap.size w w1 := ((Below.refl _ _).alloc (Nat.le_refl _) _).trans (hb.mono (by simp))
  clear hb
  go_wp2_with fail
  go_ret2
  exact ⟨rfl, hbw⟩

theorem clone_any {B : Option Addr} {m d : Nat} {data : List UInt8} (w : World) (hd : Hid (Rd w 1 B m d (bv data))) (hm : m ≤ 1073741824) :
    Calls Try.prog 28 #[.slice B m d] w (Mk w m data) := by
  obtain ⟨i0, hi, hz0, hz1, hz2⟩ := info_parts info_u8
  rcases B with _ | a
  · obtain rfl : d = 0 := hd.out.nil rfl
    obtain rfl : m = 0 := by have := hd.out.nc; omega
    have q22 := fun w : World => Lib.run_eql_slice_nil (P := Try.prog) w 22 5 none 0 0 0 0 Try.underlying22
    have hl : Hid (data = []) := Lib.hid (List.eq_nil_of_length_eq_zero (by have := hd.out.len; rw [bv_len] at this; omega))
    go_enter Try.func28, Try.ntmps28
    go_wp2
    go_ret
    exact ⟨none, 0, rfl, by rw [hl.out]; exact World.ownsRow_nil _ _ _ _, Below.refl _ _⟩
  · have q22 := fun w : World => Lib.run_eql_slice_nil (P := Try.prog) w 22 5 (some a) m d 0 0 Try.underlying22
    go_enter Try.func28, Try.ntmps28
    go_wp2_with (at_builtin; refine wpList_app _ rfl (.tmp 5) (.tmp 6) 22 rfl w.heap.size 5 i0 (.int .u8 0) 1 1 Try.underlying22 hi hz0 hz1 hz2 rfl (by omega) (by rfl) (own_lit w _ 1 #[] 0 (Nat.le_refl _) (by unfold maxLen; omega) rfl) (by rfl) (hd.out.alloc _) (bv_one _) (by omega) (by omega) (by simp) ?_; intro A1 c1 w1 own1 g1)
    go_ret
    rw [Nat.zero_add] at own1
    exact ⟨A1, c1, rfl, own1, g1.low ((Below.refl _ _).alloc (Nat.le_refl _) _) (by simp) (fun g e => by simp [blk] at e; omega)⟩
theorem bclone_any {B : Option Addr} {m d : Nat} {data : List UInt8} (w : World) (hd : Hid (Rd w 1 B m d (bv data))) (hm : m ≤ 1073741824) :
    Calls Try.prog 29 #[.slice B m d] w (Mk w m data) := by
  obtain ⟨i0, hi, hz0, hz1, hz2⟩ := info_parts info_u8
  rcases B with _ | a
  · obtain rfl : d = 0 := hd.out.nil rfl
    obtain rfl : m = 0 := by have := hd.out.nc; omega
    have q22 := fun w : World => Lib.run_eql_slice_nil (P := Try.prog) w 22 5 none 0 0 0 0 Try.underlying22
    have hl : Hid (data = []) := Lib.hid (List.eq_nil_of_length_eq_zero (by have := hd.out.len; rw [bv_len] at this; omega))
    go_enter Try.func29, Try.ntmps29
    go_wp2
    go_ret
    exact ⟨none, 0, rfl, by rw [hl.out]; exact World.ownsRow_nil _ _ _ _, Below.refl _ _⟩
  · have q22 := fun w : World => Lib.run_eql_slice_nil (P := Try.prog) w 22 5 (some a) m d 0 0 Try.underlying22
    go_enter Try.func29, Try.ntmps29
    go_wp2_with (at_builtin; refine wpList_app _ rfl (.tmp 5) (.tmp 6) 22 rfl w.heap.size 5 i0 (.int .u8 0) 1 1 Try.underlying22 hi hz0 hz1 hz2 rfl (by omega) (by rfl) (own_lit w _ 1 #[] 0 (Nat.le_refl _) (by unfold maxLen; omega) rfl) (by rfl) (hd.out.alloc _) (bv_one _) (by omega) (by omega) (by simp) ?_; intro A1 c1 w1 own1 g1)
    go_ret
    rw [Nat.zero_add] at own1
    exact ⟨A1, c1, rfl, own1, g1.low ((Below.refl _ _).alloc (Nat.le_refl _) _) (by simp) (fun g e => by simp [blk] at e; omega)⟩
/-- Cells in a row of the call's own. -/
def Mv (w : World) (E size : Nat) (m : Nat) (xs : List Value) (e : Ending) (w' : World) : Prop :=
  ∃ A c, e = .returned (.slice A m c) ∧ w'.ownsRow w.heap.size E size (.slice A m c) m xs ∧ Below w.heap.size w w'
theorem info_rec : (Try.prog.info? 24).map (fun i => (i.zero, i.size, i.bytes)) = some (some (.agg #[.int .i64 0, .int .i64 0, .slice none 0 0]), 3, 40) := by kernel_rfl
theorem rclone_any {B : Option Addr} {m d : Nat} {xs : List Value} (w : World) (hd : Hid (Rd w 3 B m d xs)) (h1 : ∀ u ∈ xs, u.oneCell' = true) (hm : m ≤ 1073741824) :
    Calls Try.prog 38 #[.slice B m d] w (Mv w 24 3 m xs) := by
  obtain ⟨i0, hi, hz0, hz1, hz2⟩ := info_parts info_rec
  rcases B with _ | a
  · obtain rfl : d = 0 := hd.out.nil rfl
    obtain rfl : m = 0 := by have := hd.out.nc; omega
    have q22 := fun w : World => Lib.run_eql_slice_nil (P := Try.prog) w 33 24 none 0 0 0 0 Try.underlying33
    have hl : Hid (xs = []) := Lib.hid (List.eq_nil_of_length_eq_zero (by have := hd.out.len; omega))
    go_enter Try.func38, Try.ntmps38
    go_wp2
    go_ret
    exact ⟨none, 0, rfl, by rw [hl.out]; exact World.ownsRow_nil _ _ _ _, Below.refl _ _⟩
  · have q22 := fun w : World => Lib.run_eql_slice_nil (P := Try.prog) w 33 24 (some a) m d 0 0 Try.underlying33
    go_enter Try.func38, Try.ntmps38
    go_wp2_with (at_builtin; refine wpList_app _ rfl (.tmp 5) (.tmp 6) 33 rfl w.heap.size 24 i0 (.agg #[.int .i64 0, .int .i64 0, .slice none 0 0]) 3 40 Try.underlying33 hi hz0 hz1 hz2 rfl (by omega) (by rfl) (own_lit w _ 3 #[] 0 (Nat.le_refl _) (by unfold maxLen; omega) rfl) (by rfl) (hd.out.alloc _) h1 (by omega) (by omega) (by simp) ?_; intro A1 c1 w1 own1 g1)
    go_ret
    rw [Nat.zero_add] at own1
    exact ⟨A1, c1, rfl, own1, g1.low ((Below.refl _ _).alloc (Nat.le_refl _) _) (by simp) (fun g e => by simp [blk] at e; omega)⟩
end Go.Proofs.Ytfkeedeiafegiaa.Wl
