/- Walks: put, build. -/
import Derived.Test.YtfkeedeiafegiaaWalW15
import Derived.Lib.ConvBytes
namespace Go.Proofs.Ytfkeedeiafegiaa.Wl
set_option linter.unusedVariables false
set_option linter.unusedSimpArgs false
open Go.RowKit

theorem conv_new (w : World) (s : ByteArray) (hs : s.size ≤ 1000000) : ∃ c W2, (convert 9 22 (.string s)).run Try.prog w = .ok (.slice (some ⟨w.heap.size, 0, none⟩) s.size c) W2 ∧
    Below w.heap.size w W2 ∧ Rd W2 1 (some ⟨w.heap.size, 0, none⟩) s.size c (bv s.data.toList) := by
  refine ⟨_, _, Lib.run_convert_string_bytes w 9 22 5 s Try.underlying9 Try.underlying22 Try.underlying5, ⟨rfl, rfl, rfl, ?_, fun i hi => ?_⟩, ?_⟩
  · rw [Lib.bytesWorld_size]; omega
  · exact Lib.bytesWorld_at_old w _ s i hi
  · have h1 := grownCap_ge w s.size 0 5
    have h2 := grownCap_le_maxLen w s.size 0 5 (by unfold maxLen; omega)
    refine ⟨by rw [bv_len]; simp, h1, fun h => (by cases h), by unfold maxLen at h2; omega, fun _ => ⟨_, _, rfl, by rw [Lib.bytesWorld_size]; omega, fun j hj => ?_⟩⟩
    rw [Nat.zero_add, Lib.bytesWorld_cell _ _ _ _ (by omega), bv_get]
    have hj' : j < s.data.toList.length := by simpa using hj
    rw [List.getD_eq_getElem?_getD, List.getElem?_eq_getElem hj']; rfl
theorem put_any (t : Int) (s : ByteArray) (w : World) (hs : s.size ≤ 1000000) : Calls Try.prog 41 #[.int .i64 t, .string s] w fun e w' =>
    ∃ A c, e = .returned (.agg #[.int .i64 1, .int .i64 t, .slice A s.size c]) ∧ Rd w' 1 A s.size c (bv s.data.toList) ∧ Below w.heap.size w w' := by
  obtain ⟨c, W2, hrun, hb, hr⟩ := conv_new (w.alloc (.cells #[.int .i64 0, .int .i64 0, .slice none 0 0] 24)) s hs
  have RS := (Res3.new w).more hb
  obtain ⟨bel, lt, r0, r1, r2, f0, f1, f2⟩ := RS
  have HR := Lib.hid hr
  have hz : (w.alloc (.cells #[.int .i64 0, .int .i64 0, .slice none 0 0] 24)).heap.size = w.heap.size + 1 := by simp
  rw [hz] at hrun HR
  have hne : blk (some (⟨w.heap.size + 1, 0, none⟩ : Addr)) ≠ some w.heap.size := by simp [blk]
  have HNE := Lib.hid hne
  clear hr hb hne hz
  go_enter Try.func41, Try.ntmps41
  go_wp2
  exact bodyPost_ret (v := .agg #[.int .i64 1, .int .i64 t, .slice (some ⟨w.heap.size + 1, 0, none⟩) s.size c]) (by simp [results, Try.results41, go_sem, r0, r1, r2]) rfl
    ⟨_, c, rfl, ((HR.out.set _ _ fun _ => HNE.out).set _ _ fun _ => HNE.out).set _ _ fun _ => HNE.out, ((bel.setCell (by simp) _).setCell (by simp) _).setCell (by simp) _⟩
end Go.Proofs.Ytfkeedeiafegiaa.Wl
