/- The library's tables, from what the rows list. -/
import Derived.Test.YtpmkohnljngbhaaGreatDoorRows
import Derived.Test.YtpmkohnljngbhaaGreatDoorPgB3
import Derived.Lib.LaidU8
import Derived.ProofKit
import Derived.MakeChecks
namespace Go.Proofs.YtpmkohnljngbhaaGreatDoor.Pg
set_option linter.unusedVariables false
set_option linter.unusedSimpArgs false
set_option maxRecDepth 1000000
open Go.RowKit Go.Lib Go.ChangeShapes Go.WideShapes

theorem pin_first : Rows.laid_unicode_utf8_first = tabData .u8 (Go.Pinned.utf8FirstZ.map fun (n : Nat) => (n : Int)) := by kernel_rfl
theorem acc_lits : (Rows.laid_unicode_utf8_acceptRanges : DataW Unit) = .agg ((List.range 16).map fun i => .agg ([((acc.getD (2 * i) 0 : Nat) : Int), ((acc.getD (2 * i + 1) 0 : Nat) : Int)].map fun z => .lit (.int .u8 z))) := by kernel_rfl
theorem gFirst : Tryz.prog.globalNamed "unicode/utf8.first" = some 1 := by kernel_rfl
theorem gAcc : Tryz.prog.globalNamed "unicode/utf8.acceptRanges" = some 2 := by kernel_rfl
theorem tFirst : (Tryz.prog.globals[1]?).map (·.type) = some 170 := by kernel_rfl
theorem tAcc : (Tryz.prog.globals[2]?).map (·.type) = some 173 := by kernel_rfl
theorem uFirst : Tryz.prog.underlying 170 = some (.array 256 5) := by kernel_rfl
theorem uAcc : Tryz.prog.underlying 173 = some (.array 16 172) := by kernel_rfl
theorem uRng : Tryz.prog.underlying 172 = some (TypeDesc.struct #[{ name := "lo", type := 5, offset := 0, embedded := false, tag := "", pkgPath := "unicode/utf8", byteOffset := 0 }, { name := "hi", type := 5, offset := 1, embedded := false, tag := "", pkgPath := "unicode/utf8", byteOffset := 1 }]) := by kernel_rfl
theorem c1 : Tryz.prog.cellsOf 5 = 1 := by kernel_rfl
theorem c2 : Tryz.prog.cellsOf 172 = 2 := by kernel_rfl
theorem c256 : Tryz.prog.cellsOf 170 = 256 := by kernel_rfl
theorem gl_of {W : World} (h3 : VarReads Tryz.prog W "unicode/utf8.first" Rows.laid_unicode_utf8_first) (h4 : VarReads Tryz.prog W "unicode/utf8.acceptRanges" Rows.laid_unicode_utf8_acceptRanges) : Gl W := by
  rw [pin_first] at h3
  rw [acc_lits] at h4
  have hf : ∀ i, i < 256 → W.cell? ⟨1, i, none⟩ = some (.int .u8 (fst8 i : Nat)) := by
    obtain ⟨g, t, cs, fuel, p, hg, hty, hvar, hd⟩ := h3
    obtain rfl := Option.some.inj (gFirst.symm.trans hg)
    obtain rfl := Option.some.inj (tFirst.symm.trans hty)
    have hcs := cells_of_tab uFirst Tryz.underlying5 c1 c256 hd
    intro i hi
    have := World.var?_cell hg hvar i
    rw [this, ← Array.getElem?_toList, hcs]
    have hl : Go.Pinned.utf8FirstZ.length = 256 := by kernel_rfl
    have hx : Go.Pinned.utf8FirstZ[i]? = some (Go.Pinned.utf8FirstZ[i]'(by omega)) := List.getElem?_eq_getElem _
    rw [List.getElem?_map, List.getElem?_map, hx]
    unfold fst8
    rw [List.getD_eq_getElem?_getD, hx]; rfl
  have ha : ∀ i, i < 10 → W.cell? ⟨2, i, none⟩ = some (.int .u8 (acc.getD i 0 : Nat)) := by
    obtain ⟨g, t, cs, fuel, p, hg, hty, hvar, hd⟩ := h4
    obtain rfl := Option.some.inj (gAcc.symm.trans hg)
    obtain rfl := Option.some.inj (tAcc.symm.trans hty)
    have key : ∀ i, i < 16 → W.cell? ⟨2, 2 * i, none⟩ = some (.int .u8 (acc.getD (2 * i) 0 : Nat)) ∧ W.cell? ⟨2, 2 * i + 1, none⟩ = some (.int .u8 (acc.getD (2 * i + 1) 0 : Nat)) := by
      intro i hi
      obtain ⟨fuel', d, q, hdi, he⟩ := array_elem uAcc hd i hi
      simp only [List.getElem?_map, List.getElem?_range hi, Option.map_some, Option.some.injEq] at hdi
      subst hdi
      rw [c2] at he
      have hcs := ints_of_struct uRng (fun j f hj => by
        match j, hj with
        | 0, hj => simp at hj; subst hj; exact ⟨Tryz.underlying5, rfl, c1⟩
        | 1, hj => simp at hj; subst hj; exact ⟨Tryz.underlying5, rfl, c1⟩
        | j + 2, hj => simp at hj) (by rw [c2]; rfl) he
      have e0 := congrArg (·[0]?) hcs
      have e1 := congrArg (·[1]?) hcs
      simp only [List.getElem?_take, List.getElem?_drop] at e0 e1
      constructor
      · rw [World.var?_cell hg hvar (2 * i), ← Array.getElem?_toList]
        simpa [Nat.mul_comm] using e0
      · rw [World.var?_cell hg hvar (2 * i + 1), ← Array.getElem?_toList]
        simpa [Nat.mul_comm] using e1
    intro i hi
    obtain ⟨j, hj⟩ : ∃ j, i = 2 * j ∨ i = 2 * j + 1 := ⟨i / 2, by omega⟩
    rcases hj with rfl | rfl
    · exact (key j (by omega)).1
    · exact (key j (by omega)).2
  refine ⟨?_, hf, ha⟩
  have := World.block_lt_of_cell? _ _ (ha 0 (by omega))
  exact this
theorem gl_of_laid {W : World} (hL : laidMetH Tryz.prog Rows.storeCrashesRow.laid W) : Gl W := by
  have hL := (MakeChecks.laidMetH_plain Tryz.prog Rows.storeCrashesRow.laid W (by kernel_rfl)) ▸ hL
  exact gl_of (Lib.laidMet.reads hL (.tail _ (.head _))) (Lib.laidMet.reads hL (.head _))
end Go.Proofs.YtpmkohnljngbhaaGreatDoor.Pg
