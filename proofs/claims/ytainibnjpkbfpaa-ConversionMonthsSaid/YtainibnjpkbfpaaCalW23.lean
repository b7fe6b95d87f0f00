/- Walks: awake of the laws of conversion; long. -/
import Derived.Test.YtainibnjpkbfpaaCalW22
import Derived.Test.YtainibnjpkbfpaaCalW16
namespace Go.Proofs.Ytainibnjpkbfpaa.Cv
set_option linter.unusedVariables false
set_option linter.unusedSimpArgs false
open Go.RowKit Wl

theorem Down_aw {g1 g2 : Nat} (w : World) (h : Hid (Sr w (some ⟨g2, 0, none⟩) 4800 4800 (sp mst 4800))) (k : Hid (Sr w (some ⟨g1, 0, none⟩) 400 400 (sp yst 400))) :
    Calls Try.prog 23 #[.agg #[.int .i64 0, .int .i64 146097, .slice (some ⟨g2, 0, none⟩) 4800 4800], .agg #[.int .i64 0, .int .i64 146097, .slice (some ⟨g1, 0, none⟩) 400 400], .int .i64 0] w fun e w' => e = .returned (.tuple #[.int .i64 0, .int .i64 12, .int .i64 0]) ∧ Below w.heap.size w w' := by
  have := Down_any (o := 0) (p := 146097) (r := 0) (s := 146097) 0 w h k (Lib.hid m_vld) (Lib.hid y_vld) (by omega) (by omega) (Lib.hid aw1.1)
  have e : ins ⟨0, 146097, sp mst 4800⟩ (pl ⟨0, 146097, sp yst 400⟩ 0) = (0, 12) := aw1.2
  rw [e] at this
  exact this
theorem Add_aw {g2 : Nat} (w : World) (h : Hid (Sr w (some ⟨g2, 0, none⟩) 4800 4800 (sp mst 4800))) :
    Calls Try.prog 12 #[.agg #[.int .i64 0, .int .i64 146097, .slice (some ⟨g2, 0, none⟩) 4800 4800], .int .i64 30, .int .i64 1] w fun e w' => e = .returned (.tuple #[.int .i64 58, .int .i64 0]) ∧ Below w.heap.size w w' := by
  have := Add_any (o := 0) (p := 146097) 30 1 w h (Lib.hid m_vld)
  have e : adp ⟨0, 146097, sp mst 4800⟩ 30 1 = (58, 0) := aw2
  rw [e] at this
  exact this
set_option maxRecDepth 20000 in
set_option maxHeartbeats 3200000 in
theorem awake_any (w : World) : Calls Try.prog 10 #[] w fun e w' => e = .returned (.bool true) ∧ Below w.heap.size w w' := by
  go_enter Try.func10, Try.ntmps10
  go_wp2_with fail
  go_at_call 31
  refine (Years_any _).mono ?_
  rintro e w1 ⟨g1, rfl, hg1, S1, b1⟩
  obtain ⟨W1, hW1⟩ : ∃ W1, w1.alloc (.cells #[.int .i64 0, .int .i64 146097, .slice (some ⟨g1, 0, none⟩) 400 400] 24) = W1 := ⟨_, rfl⟩
  have c1 : Below w1.heap.size w1 W1 := hW1 ▸ bal _ _
  have B1 := Lib.hid (b1.trans (c1.mono b1.size))
  have C1 : Hid (Cb W1 w1.heap.size (.int .i64 0) (.int .i64 146097) (.slice (some ⟨g1, 0, none⟩) 400 400)) := Lib.hid (hW1 ▸ Cb.new _ _ _ _ _)
  have T1 := Lib.hid (S1.out.below c1)
  have HW1 := Lib.hid hW1
  clear hW1
  go_wp2_with fail
  rw [HW1.out]
  have bd : Below W1.heap.size W1 W1.drew := (Below.refl _ _).drew
  have KK : Hid (∀ U, Below W1.heap.size W1 U → U.cell? ⟨w1.heap.size, 0, none⟩ = some (.int .i64 0) ∧ U.cell? ⟨w1.heap.size, 1, none⟩ = some (.int .i64 146097) ∧ U.cell? ⟨w1.heap.size, 2, none⟩ = some (.slice (some ⟨g1, 0, none⟩) 400 400)) :=
    Lib.hid fun U hU => by obtain ⟨_, a, b, c, _⟩ := C1.out.step hU; exact ⟨a, b, c⟩
  go_region_held3 (fun w' => w'.cell? ⟨w1.heap.size, 0, none⟩ = some (.int .i64 0) ∧ w'.cell? ⟨w1.heap.size, 1, none⟩ = some (.int .i64 146097) ∧ w'.cell? ⟨w1.heap.size, 2, none⟩ = some (.slice (some ⟨g1, 0, none⟩) 400 400))
    (first | exact kk1 | exact kk2 | exact KK.out _ bd)
    (first
      | (go_at_call 33; refine (Months_any _).mono ?_; rintro e w2 ⟨g2, rfl, hg2, S2, b2⟩; have v2 := bd.trans (b2.mono bd.size); have kk1 := KK.out _ v2)
      | (go_at_call 23; refine (Down_aw _ S2 (Lib.hid (T1.out.below v2))).mono ?_; rintro e w3 ⟨rfl, b3⟩; have v3 := v2.trans (b3.mono v2.size); have kk2 := KK.out _ v3))
  all_goals
    have B3 := Lib.hid (B1.out.trans (v3.mono B1.out.size))
    clear kk1 kk2 KK v2 v3 S2 b2 b3 bd
    go_wp2_with fail
    go_at_call 33
    refine (Months_any _).mono ?_
    rintro e w4 ⟨g4, rfl, hg4, S4, b4⟩
    have B4 := Lib.hid (B3.out.trans (b4.mono B3.out.size))
    go_wp2_with fail
    go_at_call 12
    refine (Add_aw _ S4).mono ?_
    rintro e w5 ⟨rfl, b5⟩
    have B5 := Lib.hid (B4.out.trans (b5.mono B4.out.size))
    go_wp2_with fail
    go_ret
    exact ⟨rfl, B5.out⟩
/-- A calendar is too long for the laws. -/
def lng (n : Nat) : Bool := decide (100 < n) && !(n == 4800)
theorem long_any (o p : Int) (A : Option Addr) (n cp : Nat) (w : World) : Calls Try.prog 11 #[.agg #[.int .i64 o, .int .i64 p, .slice A n cp]] w fun e w' => e = .returned (.bool (lng n)) ∧ Below w.heap.size w w' := by
  by_cases h1 : 100 < n
  · by_cases h2 : n = 4800
    · have R : Hid (lng n = false) := Lib.hid (by unfold lng; rw [h2]; rfl)
      have d1 : decide ((n : Int) > 100) = true := by simp; omega
      have d2 : ((n : Int) != 4800) = false := by simp; omega
      clear h1 h2
      go_enter Try.func11, Try.ntmps11
      go_wp2_with fail
      go_ret
      exact ⟨ret_bool (by rw [R.out]), bal _ _⟩
    · have R : Hid (lng n = true) := Lib.hid (by unfold lng; simp [h1, h2])
      have d1 : decide ((n : Int) > 100) = true := by simp; omega
      have d2 : ((n : Int) != 4800) = true := by simp; omega
      clear h1 h2
      go_enter Try.func11, Try.ntmps11
      go_wp2_with fail
      go_ret
      exact ⟨ret_bool (by rw [R.out]), bal _ _⟩
  · have R : Hid (lng n = false) := Lib.hid (by unfold lng; simp [h1])
    have d1 : decide ((n : Int) > 100) = false := by simp; omega
    clear h1
    go_enter Try.func11, Try.ntmps11
    go_wp2_with fail
    go_ret
    exact ⟨ret_bool (by rw [R.out]), bal _ _⟩
end Go.Proofs.Ytainibnjpkbfpaa.Cv
