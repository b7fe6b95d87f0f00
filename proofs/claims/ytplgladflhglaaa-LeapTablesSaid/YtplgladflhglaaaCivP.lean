/- Walks through the reference's parsing of dates. -/
import Derived.Test.YtplgladflhglaaaCivW
import Derived.Test.YtplgladflhglaaaParseM
import Derived.Deep.RegionWith
import Derived.Deep.RegionHeld3
import Derived.Deep.DrawnRows
namespace Go.Proofs.Ytplgladflhglaaa
set_option linter.unusedVariables false
set_option linter.unusedSimpArgs false
open Go.RowKit
attribute [local go_sem ↓] Go.wp_at_zero Go.wp_at_succ

theorem ret_prs {s : ByteArray} {a b c e : Int} (h : M.prs s = ((a, b, c), e)) : Ending.returned (.tuple #[.agg #[.int .i64 a, .int .i64 b, .int .i64 c], .int .i64 e]) =
    .returned (.tuple #[.agg #[.int .i64 (M.prs s).1.1, .int .i64 (M.prs s).1.2.1, .int .i64 (M.prs s).1.2.2], .int .i64 (M.prs s).2]) := by rw [h]

theorem ch_extract (s : ByteArray) (a b i : Nat) (hb : b ≤ s.size) (hi : i < b - a) : M.ch (s.extract a b) i = M.ch s (a + i) := by
  have hsz : (s.extract a b).size = b - a := by simp [ByteArray.size_extract]; omega
  rw [← M.ch_eq _ _ (by omega), ← M.ch_eq _ _ (by omega)]
  simp [ByteArray.getElem_extract]

end Go.Proofs.Ytplgladflhglaaa
