/- Walks of the library's small functions on bytes: Equal, Compare, Clone. -/
import Derived.Test.YtphiblmkgbkdmaaDoorProg
import Derived.Test.YtphiblmkgbkdmaaDoorPgMem
import Derived.Test.YtphiblmkgbkdmaaDoorPgC
import Derived.LoopTactic
import Derived.Outline
import Derived.Deep.QuietTactic
import Derived.BigQuiet
import Derived.Laws.BytesArg
import Derived.WalkLawsBesides
import Derived.Lib.SliceRun
import Derived.Lib.Bytealg
import Derived.Lib.BytesEntry
namespace Go.Proofs.YtphiblmkgbkdmaaDoor.Pg
set_option linter.unusedVariables false
set_option linter.unusedSimpArgs false
open Go.RowKit Wl

set_option maxRecDepth 20000 in
theorem conv_any {w : World} {A : Option Addr} {n c : Nat} {l : List UInt8} (h : Rd w 1 A n c (bv l)) :
    (convert 22 9 (.slice A n c)).run Tryd.prog w = .ok (.string ⟨l.toArray⟩) w := by
  have hl := h.len
  rw [bv_len, Nat.mul_one] at hl
  rcases Nat.eq_zero_or_pos n with h0 | h0
  · subst h0
    obtain rfl : l = [] := List.eq_nil_of_length_eq_zero hl
    rw [run_convert_bytes_string w 22 9 5 _ 0 c Tryd.underlying22 Tryd.underlying5 Tryd.underlying9]
    cases A <;> simp [Conv.bytesToString, loadCells]
    all_goals rfl
  · obtain ⟨g, o, rfl, _, hc⟩ := h.at_ h0
    have := run_convert_bytes_arg (P := Tryd.prog) w 22 5 Tryd.underlying22 Tryd.underlying5 g o n c (l.map fun u => (u.toNat : Int)) (by simpa using hl) (fun i hi => by
      have hi' : i < l.length := by omega
      rw [hc i (by omega), bv_get, List.getElem?_eq_getElem hi', List.getD_eq_getElem?_getD, List.getElem?_map, List.getElem?_eq_getElem hi']; rfl) 9 Tryd.underlying9
    rw [this]
    congr 2
    unfold strOfNums
    congr 2
    rw [List.map_map]
    have : ((fun n : Int => UInt8.ofNat n.toNat) ∘ fun u : UInt8 => (u.toNat : Int)) = id := by
      funext u; simp
    rw [this, List.map_id]
def eqB (a b : List UInt8) : Bool := decide (a = b)
theorem eqB_self (a : List UInt8) : eqB a a = true := decide_eq_true rfl
theorem eqB_iff {a b : List UInt8} : eqB a b = true ↔ a = b := decide_eq_true_iff
theorem eqB_f {a b : List UInt8} (h : a ≠ b) : eqB a b = false := decide_eq_false h
theorem beq_eqB (a b : List UInt8) : (a == b) = eqB a b := by
  unfold eqB
  rw [Bool.eq_iff_iff, beq_iff_eq, decide_eq_true_iff]
theorem Equal_any {A B : Option Addr} {n c m d : Nat} {a b : List UInt8} (w : World) (h : Hid (Rd w 1 A n c (bv a))) (k : Hid (Rd w 1 B m d (bv b))) :
    Calls Tryd.prog 70 #[.slice A n c, .slice B m d] w fun e w' => e = .returned (.bool (eqB a b)) ∧ w = w' := by
  have r1 := conv_any h.out
  have r2 := conv_any k.out
  have E := Lib.hid (beq_eqB a b)
  go_enter Tryd.func70, Tryd.ntmps70
  go_wp2
  go_ret
  exact ⟨ret_bool E.out, rfl⟩
theorem load_any {w : World} {A : Option Addr} {n c : Nat} {l : List UInt8} (h : Rd w 1 A n c (bv l)) :
    (Extern.Bytes.bytesOf (.slice A n c)).run Tryd.prog w = .ok ⟨l.toArray⟩ w := by
  have hl := h.len
  rw [bv_len, Nat.mul_one] at hl
  have key : ∀ ad : Addr, A = some ad → (Extern.Bytes.loadBytes ad n .empty).run Tryd.prog w = .ok ⟨l.toArray⟩ w := by
    intro ad hA
    have := Lib.run_loadBytesX (P := Tryd.prog) w (l.map fun u => (u.toNat : Int)) ad .empty (fun j x hj => by
      rw [List.getElem?_map] at hj
      rcases hu : l[j]? with _ | u
      · rw [hu] at hj; cases hj
      · rw [hu] at hj
        injection hj with hj
        have hlt := (List.getElem?_eq_some_iff.1 hu).1
        obtain ⟨g, o, e, _, hc⟩ := h.at_ (by omega)
        rw [hA] at e; injection e with e; subst e
        rw [addr_add, hc j (by omega), bv_get, hu, ← hj]; rfl)
    rw [List.length_map, hl] at this
    rw [this]
    congr 2
    unfold Lib.bytesOf
    rw [List.map_map]
    have e : ((fun n : Int => n.toNat.toUInt8) ∘ fun u : UInt8 => (u.toNat : Int)) = id := by
      funext u; simp
    rw [e, List.map_id]
    simp
  rcases A with _ | ad
  · have := h.nil rfl
    have := h.nc
    obtain rfl : l = [] := List.eq_nil_of_length_eq_zero (by omega)
    rfl
  · exact key ad rfl
theorem Compare_any {A B : Option Addr} {n c m d : Nat} {a b : List UInt8} (w : World) (h : Hid (Rd w 1 A n c (bv a))) (k : Hid (Rd w 1 B m d (bv b))) :
    Calls Tryd.prog 54 #[.slice A n c, .slice B m d] w fun e w' => e = .returned (.int .i64 (cmpB a b)) ∧ w = w' := by
  have r1 := Lib.hid (load_any h.out)
  have r2 := Lib.hid (load_any k.out)
  go_enter Tryd.func54, Tryd.ntmps54
  go_wp2
  rw [run_callFunc_extern Tryd.func77 (by kernel_rfl) (by kernel_rfl) (by kernel_rfl) (e := Extern.BytealgCompare.compare) (by kernel_rfl)]
  have hc : (Extern.BytealgCompare.compare #[.slice A n c, .slice B m d]).run Tryd.prog w = .ok (.int .i64 (cmpB a b)) w := by
    show Sem.run Tryd.prog (do pure (goInt (Extern.BytealgCompare.cmp (← Extern.Bytes.bytesOf (.slice A n c)) (← Extern.Bytes.bytesOf (.slice B m d))))) w = _
    simp only [Sem.run_bind, Sem.run_pure, r1.out, r2.out, Result.andThen]
    rw [Lib.cmp_eq]
    rfl
  rw [hc]
  simp only [Result.andThen]
  rw [Oper.upon_value]
  go_wp2
  go_ret
  exact ⟨rfl, rfl⟩
/-- Cells in a row of the call's own. -/
def Mv (w : World) (E size : Nat) (m : Nat) (xs : List Value) (e : Ending) (w' : World) : Prop :=
  ∃ A c, e = .returned (.slice A m c) ∧ Hid (w'.ownsRow w.heap.size E size (.slice A m c) m xs) ∧ Below w.heap.size w w'
theorem info_byte : (Tryd.prog.info? 5).map (fun i => (i.zero, i.size, i.bytes)) = some (some (.int .u8 0), 1, 1) := by kernel_rfl
theorem info_page : (Tryd.prog.info? 22).map (fun i => (i.zero, i.size, i.bytes)) = some (some (.slice none 0 0), 1, 24) := by kernel_rfl
theorem info_int : (Tryd.prog.info? 3).map (fun i => (i.zero, i.size, i.bytes)) = some (some (.int .i64 0), 1, 8) := by kernel_rfl
theorem bclone_any {B : Option Addr} {m d : Nat} {xs : List Value} (w : World) (hd : Hid (Rd w 1 B m d xs)) (h1 : ∀ u ∈ xs, u.oneCell' = true) (hm : m ≤ 1073741824) :
    Calls Tryd.prog 50 #[.slice B m d] w (Mv w 5 1 m xs) := by
  obtain ⟨i0, hi, hz0, hz1, hz2⟩ := info_parts info_byte
  rcases B with _ | a
  · obtain rfl : d = 0 := hd.out.nil rfl
    obtain rfl : m = 0 := by have := hd.out.nc; omega
    have q22 := fun w : World => Lib.run_eql_slice_nil (P := Tryd.prog) w 22 5 none 0 0 0 0 Tryd.underlying22
    have hl : Hid (xs = []) := Lib.hid (List.eq_nil_of_length_eq_zero (by have := hd.out.len; omega))
    go_enter Tryd.func50, Tryd.ntmps50
    go_wp2
    go_ret
    exact ⟨none, 0, rfl, Lib.hid (by rw [hl.out]; exact World.ownsRow_nil _ _ _ _), Below.refl _ _⟩
  · have q22 := fun w : World => Lib.run_eql_slice_nil (P := Tryd.prog) w 22 5 (some a) m d 0 0 Tryd.underlying22
    go_enter Tryd.func50, Tryd.ntmps50
    go_wp2_with (at_builtin; refine wpList_app _ rfl (.tmp 5) (.tmp 6) 22 rfl w.heap.size 5 i0 (.int .u8 0) 1 1 Tryd.underlying22 hi hz0 hz1 hz2 rfl (by omega) (by rfl) (own_lit w _ 1 #[] 0 (Nat.le_refl _) (by unfold maxLen; omega) rfl) (by rfl) (hd.out.alloc _) h1 (by omega) (by omega) (by simp) ?_; intro A1 c1 w1 own1 g1)
    go_ret
    rw [Nat.zero_add] at own1
    exact ⟨A1, c1, rfl, Lib.hid own1, g1.low ((Below.refl _ _).alloc (Nat.le_refl _) _) (by simp) (fun g e => by simp [blk] at e; omega)⟩
theorem sclone_any {B : Option Addr} {m d : Nat} {xs : List Value} (w : World) (hd : Hid (Rd w 1 B m d xs)) (h1 : ∀ u ∈ xs, u.oneCell' = true) (hm : m ≤ 1073741824) :
    Calls Tryd.prog 38 #[.slice B m d] w (Mv w 5 1 m xs) := by
  obtain ⟨i0, hi, hz0, hz1, hz2⟩ := info_parts info_byte
  rcases B with _ | a
  · obtain rfl : d = 0 := hd.out.nil rfl
    obtain rfl : m = 0 := by have := hd.out.nc; omega
    have q22 := fun w : World => Lib.run_eql_slice_nil (P := Tryd.prog) w 22 5 none 0 0 0 0 Tryd.underlying22
    have hl : Hid (xs = []) := Lib.hid (List.eq_nil_of_length_eq_zero (by have := hd.out.len; omega))
    go_enter Tryd.func38, Tryd.ntmps38
    go_wp2
    go_ret
    exact ⟨none, 0, rfl, Lib.hid (by rw [hl.out]; exact World.ownsRow_nil _ _ _ _), Below.refl _ _⟩
  · have q22 := fun w : World => Lib.run_eql_slice_nil (P := Tryd.prog) w 22 5 (some a) m d 0 0 Tryd.underlying22
    go_enter Tryd.func38, Tryd.ntmps38
    go_wp2_with (at_builtin; refine wpList_app _ rfl (.tmp 5) (.tmp 6) 22 rfl w.heap.size 5 i0 (.int .u8 0) 1 1 Tryd.underlying22 hi hz0 hz1 hz2 rfl (by omega) (by rfl) (own_lit w _ 1 #[] 0 (Nat.le_refl _) (by unfold maxLen; omega) rfl) (by rfl) (hd.out.alloc _) h1 (by omega) (by omega) (by simp) ?_; intro A1 c1 w1 own1 g1)
    go_ret
    rw [Nat.zero_add] at own1
    exact ⟨A1, c1, rfl, Lib.hid own1, g1.low ((Below.refl _ _).alloc (Nat.le_refl _) _) (by simp) (fun g e => by simp [blk] at e; omega)⟩
theorem pclone_any {B : Option Addr} {m d : Nat} {xs : List Value} (w : World) (hd : Hid (Rd w 1 B m d xs)) (h1 : ∀ u ∈ xs, u.oneCell' = true) (hm : m ≤ 1073741824) :
    Calls Tryd.prog 37 #[.slice B m d] w (Mv w 22 1 m xs) := by
  obtain ⟨i0, hi, hz0, hz1, hz2⟩ := info_parts info_page
  rcases B with _ | a
  · obtain rfl : d = 0 := hd.out.nil rfl
    obtain rfl : m = 0 := by have := hd.out.nc; omega
    have q22 := fun w : World => Lib.run_eql_slice_nil (P := Tryd.prog) w 27 22 none 0 0 0 0 Tryd.underlying27
    have hl : Hid (xs = []) := Lib.hid (List.eq_nil_of_length_eq_zero (by have := hd.out.len; omega))
    go_enter Tryd.func37, Tryd.ntmps37
    go_wp2
    go_ret
    exact ⟨none, 0, rfl, Lib.hid (by rw [hl.out]; exact World.ownsRow_nil _ _ _ _), Below.refl _ _⟩
  · have q22 := fun w : World => Lib.run_eql_slice_nil (P := Tryd.prog) w 27 22 (some a) m d 0 0 Tryd.underlying27
    go_enter Tryd.func37, Tryd.ntmps37
    go_wp2_with (at_builtin; refine wpList_app _ rfl (.tmp 5) (.tmp 6) 27 rfl w.heap.size 22 i0 (.slice none 0 0) 1 24 Tryd.underlying27 hi hz0 hz1 hz2 rfl (by omega) (by rfl) (own_lit w _ 1 #[] 0 (Nat.le_refl _) (by unfold maxLen; omega) rfl) (by rfl) (hd.out.alloc _) h1 (by omega) (by omega) (by simp) ?_; intro A1 c1 w1 own1 g1)
    go_ret
    rw [Nat.zero_add] at own1
    exact ⟨A1, c1, rfl, Lib.hid own1, g1.low ((Below.refl _ _).alloc (Nat.le_refl _) _) (by simp) (fun g e => by simp [blk] at e; omega)⟩
theorem iclone_any {B : Option Addr} {m d : Nat} {xs : List Value} (w : World) (hd : Hid (Rd w 1 B m d xs)) (h1 : ∀ u ∈ xs, u.oneCell' = true) (hm : m ≤ 1073741824) :
    Calls Tryd.prog 72 #[.slice B m d] w (Mv w 3 1 m xs) := by
  obtain ⟨i0, hi, hz0, hz1, hz2⟩ := info_parts info_int
  rcases B with _ | a
  · obtain rfl : d = 0 := hd.out.nil rfl
    obtain rfl : m = 0 := by have := hd.out.nc; omega
    have q22 := fun w : World => Lib.run_eql_slice_nil (P := Tryd.prog) w 28 3 none 0 0 0 0 Tryd.underlying28
    have hl : Hid (xs = []) := Lib.hid (List.eq_nil_of_length_eq_zero (by have := hd.out.len; omega))
    go_enter Tryd.func72, Tryd.ntmps72
    go_wp2
    go_ret
    exact ⟨none, 0, rfl, Lib.hid (by rw [hl.out]; exact World.ownsRow_nil _ _ _ _), Below.refl _ _⟩
  · have q22 := fun w : World => Lib.run_eql_slice_nil (P := Tryd.prog) w 28 3 (some a) m d 0 0 Tryd.underlying28
    go_enter Tryd.func72, Tryd.ntmps72
    go_wp2_with (at_builtin; refine wpList_app _ rfl (.tmp 5) (.tmp 6) 28 rfl w.heap.size 3 i0 (.int .i64 0) 1 8 Tryd.underlying28 hi hz0 hz1 hz2 rfl (by omega) (by rfl) (own_lit w _ 1 #[] 0 (Nat.le_refl _) (by unfold maxLen; omega) rfl) (by rfl) (hd.out.alloc _) h1 (by omega) (by omega) (by simp) ?_; intro A1 c1 w1 own1 g1)
    go_ret
    rw [Nat.zero_add] at own1
    exact ⟨A1, c1, rfl, Lib.hid own1, g1.low ((Below.refl _ _).alloc (Nat.le_refl _) _) (by simp) (fun g e => by simp [blk] at e; omega)⟩
end Go.Proofs.YtphiblmkgbkdmaaDoor.Pg
