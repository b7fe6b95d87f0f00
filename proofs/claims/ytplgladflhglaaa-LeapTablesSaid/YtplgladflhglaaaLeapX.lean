/- Walk of the law LeapParses. -/
import Derived.Test.YtplgladflhglaaaLeapE
namespace Go.Proofs.Ytplgladflhglaaa
set_option linter.unusedVariables false
set_option linter.unusedSimpArgs false
open Go.RowKit

set_option maxHeartbeats 2000000 in
theorem LeapParses_walk (s : ByteArray) (w : World) (hs : s.size ≤ 9223372036854775807) :
    Calls Try.prog 5 #[.string s] w fun e w' => e = .returned (.bool true) ∧ Below w.heap.size w w' := by
  rcases Nat.lt_or_ge 3000 s.size with hl | hl
  · have hl' : (3000 : Int) < s.size := by omega
    go_enter Try.func5, Try.ntmps5
    go_wp2_with fail
    refine (Lp.awake_any _).mono ?_; rintro e w1 ⟨rfl, hb1⟩
    go_wp2_with fail
    refine (Lp.awake_any _).mono ?_; rintro e w2 ⟨rfl, hb2⟩
    go_wp2_with fail
    go_ret
    exact ⟨rfl, hb1.trans (hb2.mono hb1.size)⟩
  · have hl' : (s.size : Int) ≤ 3000 := by omega
    have H1 := Lib.hid fun w => Lp.lParse_any s w hs
    have H2 := Lib.hid fun w => Lp.rParse_any s w hs
    go_enter Try.func5, Try.ntmps5
    go_wp2_with fail
    refine (Lp.awake_any _).mono ?_; rintro e w1 ⟨rfl, hb1⟩
    go_wp2_with fail
    refine (H1.out _).mono ?_; rintro e w2 ⟨sl, cap, g, rfl, hb2, t2⟩
    have T2 := Lib.hid t2
    clear t2
    go_wp2_with fail
    refine (H2.out _).mono ?_; rintro e w3 ⟨sl', cap', g', rfl, hb3, t3⟩
    have T3 := Lib.hid t3
    clear t3
    have z3 : w2.heap.size < w3.heap.size := by have := hb3.size; simp at this; omega
    have zn : ¬ w2.heap.size = w3.heap.size := by omega
    have q3 : w3.cell? ⟨w2.heap.size, 0, none⟩ = some (.slice sl (Lp.lpz s).1.length cap) := ((bcell hb3).1 _ 0 (by simp)).trans (by simp [go_sem])
    have T2' := Lib.hid (((T2.out.alloc (.cells #[.slice sl (Lp.lpz s).1.length cap] 24)).below hb3).alloc (.cells #[.slice sl' (Lp.lpz s).1.length cap'] 24))
    have T3' := Lib.hid (T3.out.alloc (.cells #[.slice sl' (Lp.lpz s).1.length cap'] 24))
    go_wp2_with fail
    refine (Lp.Equal_same _ T2' T3' (Lib.hid fun i hi => ⟨rfl, rfl⟩)).mono ?_
    rintro e w4 ⟨rfl, q, rfl⟩
    have b3 : Below w.heap.size w w3 := (hb1.trans (hb2.mono hb1.size)).trans ((((Below.refl w2.heap.size w2).alloc (Nat.le_refl _) _).mono (Nat.le_trans hb1.size hb2.size)).trans (hb3.mono (by have := hb1.size; have := hb2.size; simp; omega)))
    go_wp2_with fail
    go_ret
    exact ⟨rfl, bdrewN (b3.alloc b3.size _)⟩

end Go.Proofs.Ytplgladflhglaaa
