/-
  No cell of these rows narrows 'for every input' (looked for: loops, veiled, ifaces, maps, wideKeys, modest, calm, conditions, laid).
  DERIVED. THE GIVEN ROWS OF THIS SEAT. 8 by the template 'for every input the law returns true; each argument reads behind the call as it read before'; 0 by the template 'total and deterministic' (their statements: YtplgladflhglaaaTotals.lean).
  GIVEN WITH THE SEED: the statements are not yours to turn. If you find one false, say at which input.
  Laid BY PROGRAM, IN A SANDBOX (cutbox-rows.mjs): the forced cells as the released guide's own fill.sh prints them over the translation 830ae2d67235f04e… (all of the seat's roots in one cut). By AI agents, Wed Nov 11 2026. No macro, syntax, notation, axiom, sorry.
-/
import Derived.Test.YtplgladflhglaaaChecked
import GoSem.Claim
import GoSem.ClaimJoined
import GoSem.ClaimMapViews
import Derived.JoinedTies
import Derived.KernelRfl
namespace Go.Proofs.Ytplgladflhglaaa
/- THE CELL 'sum', in the pinned program and in every row, IS THE sha256 OF THE DUMP (.gsa) THAT YtplgladflhglaaaProg.lean LOADS. Nothing in Lean hashes anything: it is a label: what it is worth is what the hold of that sum in a sandbox is worth. -/
noncomputable def Try.pinned : Pinned := { name := "ytplgladflhglaaa", sum := "830ae2d67235f04effb65493541e2ed67666292c9a2c1878424be03df365005a", checked := Try.checked }
namespace Rows
def none {H : Type} : Left H := { results := [], args := [] }

/-- 'civiltimelaw09.LeapConverts': WHATEVER THE INPUT: true; the input reads as it did. -/
def leapConvertsSpec : ChangeSpec := { name := "leapConverts", fn := fun _ => fun
  | [d1, d2, d3] => { results := [.lit (.bool true)], args := [d1, d2, d3] }
  | _ => none }
def leapConvertsRow : OpenClaim := { program := "ytplgladflhglaaa", sum := "830ae2d67235f04effb65493541e2ed67666292c9a2c1878424be03df365005a", func := "civiltime/civiltimelaw09.LeapConverts", spec := "leapConverts", inPlace := ["internal/bytealg.IndexByteString"], unfollowed := true, recurses := true, apart := false }
def LeapConvertsSaid : Prop := leapConvertsRow.holds Try.pinned (OpenSpec.ofChange leapConvertsSpec)

/-- ITS FALSE NEIGHBOUR: 'it returns false'. Refute it at one input. -/
def leapConvertsWrong : ChangeSpec := { name := "leapConverts", fn := fun _ => fun
  | [d1, d2, d3] => { results := [.lit (.bool false)], args := [d1, d2, d3] }
  | _ => none }
def LeapConvertsWrongFalsely : Prop := leapConvertsRow.holds Try.pinned (OpenSpec.ofChange leapConvertsWrong)

/-- 'civiltimelaw09.LeapBack': WHATEVER THE INPUT: true; the input reads as it did. -/
def leapBackSpec : ChangeSpec := { name := "leapBack", fn := fun _ => fun
  | [d1, d2, d3] => { results := [.lit (.bool true)], args := [d1, d2, d3] }
  | _ => none }
def leapBackRow : OpenClaim := { program := "ytplgladflhglaaa", sum := "830ae2d67235f04effb65493541e2ed67666292c9a2c1878424be03df365005a", func := "civiltime/civiltimelaw09.LeapBack", spec := "leapBack", inPlace := ["internal/bytealg.IndexByteString"], unfollowed := true, recurses := true, apart := false }
def LeapBackSaid : Prop := leapBackRow.holds Try.pinned (OpenSpec.ofChange leapBackSpec)

/-- ITS FALSE NEIGHBOUR: 'it returns false'. Refute it at one input. -/
def leapBackWrong : ChangeSpec := { name := "leapBack", fn := fun _ => fun
  | [d1, d2, d3] => { results := [.lit (.bool false)], args := [d1, d2, d3] }
  | _ => none }
def LeapBackWrongFalsely : Prop := leapBackRow.holds Try.pinned (OpenSpec.ofChange leapBackWrong)

/-- 'civiltimelaw09.LeapParses': WHATEVER THE INPUT: true; the input reads as it did. -/
def leapParsesSpec : ChangeSpec := { name := "leapParses", fn := fun _ => fun
  | [d] => { results := [.lit (.bool true)], args := [d] }
  | _ => none }
def leapParsesRow : OpenClaim := { program := "ytplgladflhglaaa", sum := "830ae2d67235f04effb65493541e2ed67666292c9a2c1878424be03df365005a", func := "civiltime/civiltimelaw09.LeapParses", spec := "leapParses", inPlace := ["internal/bytealg.IndexByteString"], unfollowed := true, recurses := true, apart := false }
def LeapParsesSaid : Prop := leapParsesRow.holds Try.pinned (OpenSpec.ofChange leapParsesSpec)

/-- ITS FALSE NEIGHBOUR: 'it returns false'. Refute it at one input. -/
def leapParsesWrong : ChangeSpec := { name := "leapParses", fn := fun _ => fun
  | [d] => { results := [.lit (.bool false)], args := [d] }
  | _ => none }
def LeapParsesWrongFalsely : Prop := leapParsesRow.holds Try.pinned (OpenSpec.ofChange leapParsesWrong)

/-- 'civiltimelaw09.LeapDistances': WHATEVER THE INPUT: true; the input reads as it did. -/
def leapDistancesSpec : ChangeSpec := { name := "leapDistances", fn := fun _ => fun
  | [d1, d2, d3, d4] => { results := [.lit (.bool true)], args := [d1, d2, d3, d4] }
  | _ => none }
def leapDistancesRow : OpenClaim := { program := "ytplgladflhglaaa", sum := "830ae2d67235f04effb65493541e2ed67666292c9a2c1878424be03df365005a", func := "civiltime/civiltimelaw09.LeapDistances", spec := "leapDistances", inPlace := ["internal/bytealg.IndexByteString"], unfollowed := true, recurses := true, apart := false }
def LeapDistancesSaid : Prop := leapDistancesRow.holds Try.pinned (OpenSpec.ofChange leapDistancesSpec)

/-- ITS FALSE NEIGHBOUR: 'it returns false'. Refute it at one input. -/
def leapDistancesWrong : ChangeSpec := { name := "leapDistances", fn := fun _ => fun
  | [d1, d2, d3, d4] => { results := [.lit (.bool false)], args := [d1, d2, d3, d4] }
  | _ => none }
def LeapDistancesWrongFalsely : Prop := leapDistancesRow.holds Try.pinned (OpenSpec.ofChange leapDistancesWrong)

/-- 'civiltimelaw09.LeapDays': WHATEVER THE INPUT: true; the input reads as it did. -/
def leapDaysSpec : ChangeSpec := { name := "leapDays", fn := fun _ => fun
  | [d1, d2] => { results := [.lit (.bool true)], args := [d1, d2] }
  | _ => none }
def leapDaysRow : OpenClaim := { program := "ytplgladflhglaaa", sum := "830ae2d67235f04effb65493541e2ed67666292c9a2c1878424be03df365005a", func := "civiltime/civiltimelaw09.LeapDays", spec := "leapDays", inPlace := ["internal/bytealg.IndexByteString"], unfollowed := true, recurses := true, apart := false }
def LeapDaysSaid : Prop := leapDaysRow.holds Try.pinned (OpenSpec.ofChange leapDaysSpec)

/-- ITS FALSE NEIGHBOUR: 'it returns false'. Refute it at one input. -/
def leapDaysWrong : ChangeSpec := { name := "leapDays", fn := fun _ => fun
  | [d1, d2] => { results := [.lit (.bool false)], args := [d1, d2] }
  | _ => none }
def LeapDaysWrongFalsely : Prop := leapDaysRow.holds Try.pinned (OpenSpec.ofChange leapDaysWrong)

/-- 'civiltimelaw09.LeapMinutes': WHATEVER THE INPUT: true; the input reads as it did. -/
def leapMinutesSpec : ChangeSpec := { name := "leapMinutes", fn := fun _ => fun
  | [d1, d2] => { results := [.lit (.bool true)], args := [d1, d2] }
  | _ => none }
def leapMinutesRow : OpenClaim := { program := "ytplgladflhglaaa", sum := "830ae2d67235f04effb65493541e2ed67666292c9a2c1878424be03df365005a", func := "civiltime/civiltimelaw09.LeapMinutes", spec := "leapMinutes", inPlace := ["internal/bytealg.IndexByteString"], unfollowed := true, recurses := true, apart := false }
def LeapMinutesSaid : Prop := leapMinutesRow.holds Try.pinned (OpenSpec.ofChange leapMinutesSpec)

/-- ITS FALSE NEIGHBOUR: 'it returns false'. Refute it at one input. -/
def leapMinutesWrong : ChangeSpec := { name := "leapMinutes", fn := fun _ => fun
  | [d1, d2] => { results := [.lit (.bool false)], args := [d1, d2] }
  | _ => none }
def LeapMinutesWrongFalsely : Prop := leapMinutesRow.holds Try.pinned (OpenSpec.ofChange leapMinutesWrong)

/-- 'civiltimelaw09.LeapAdds': WHATEVER THE INPUT: true; the input reads as it did. -/
def leapAddsSpec : ChangeSpec := { name := "leapAdds", fn := fun _ => fun
  | [d1, d2, d3] => { results := [.lit (.bool true)], args := [d1, d2, d3] }
  | _ => none }
def leapAddsRow : OpenClaim := { program := "ytplgladflhglaaa", sum := "830ae2d67235f04effb65493541e2ed67666292c9a2c1878424be03df365005a", func := "civiltime/civiltimelaw09.LeapAdds", spec := "leapAdds", inPlace := ["internal/bytealg.IndexByteString"], unfollowed := true, recurses := true, apart := false }
def LeapAddsSaid : Prop := leapAddsRow.holds Try.pinned (OpenSpec.ofChange leapAddsSpec)

/-- ITS FALSE NEIGHBOUR: 'it returns false'. Refute it at one input. -/
def leapAddsWrong : ChangeSpec := { name := "leapAdds", fn := fun _ => fun
  | [d1, d2, d3] => { results := [.lit (.bool false)], args := [d1, d2, d3] }
  | _ => none }
def LeapAddsWrongFalsely : Prop := leapAddsRow.holds Try.pinned (OpenSpec.ofChange leapAddsWrong)

/-- 'civiltimelaw09.LeapTables': WHATEVER THE INPUT: true; the input reads as it did. -/
def leapTablesSpec : ChangeSpec := { name := "leapTables", fn := fun _ => fun
  | [d] => { results := [.lit (.bool true)], args := [d] }
  | _ => none }
def leapTablesRow : OpenClaim := { program := "ytplgladflhglaaa", sum := "830ae2d67235f04effb65493541e2ed67666292c9a2c1878424be03df365005a", func := "civiltime/civiltimelaw09.LeapTables", spec := "leapTables", inPlace := ["internal/bytealg.IndexByteString", "internal/abi.NoEscape"], unfollowed := true, recurses := true, apart := false }
def LeapTablesSaid : Prop := leapTablesRow.holds Try.pinned (OpenSpec.ofChange leapTablesSpec)

/-- ITS FALSE NEIGHBOUR: 'it returns false'. Refute it at one input. -/
def leapTablesWrong : ChangeSpec := { name := "leapTables", fn := fun _ => fun
  | [d] => { results := [.lit (.bool false)], args := [d] }
  | _ => none }
def LeapTablesWrongFalsely : Prop := leapTablesRow.holds Try.pinned (OpenSpec.ofChange leapTablesWrong)

/- THE SECOND FORM. 'bulk': how many values and letters a reading holds, each counted each time it is reached (what is shared counts as often as it is met; a slice's spare places count too). A statement '..UptoSaid' is the law's where the arguments, and the package variables that the reading takes, are together of bulk at most 1048576: NARROWER than '..Said'. Prove '..Said' where nothing that the law and all that it calls make is longer than what came in: it says more and counts as full. Else prove '..UptoSaid'. A law counts once. -/
mutual
def uptoBulk {H : Type} : DataW H → Nat
  | .lit (.string bytes) => bytes.length + 1
  | .lit _ => 1
  | .nil => 1
  | .ptr d => uptoBulk d + 1
  | .slice elems spare => uptoBulkAll elems + uptoBulkAll spare + 1
  | .agg parts => uptoBulkAll parts + 1
  | .iface _ d => uptoBulk d + 1
  | .map entries => uptoBulkEntries entries + 1
  | .held _ => 1
def uptoBulkAll {H : Type} : List (DataW H) → Nat
  | [] => 0
  | d :: r => uptoBulk d + uptoBulkAll r
def uptoBulkEntries {H : Type} : List (Lit × DataW H) → Nat
  | [] => 0
  | x :: r => uptoBulkEntry x + uptoBulkEntries r
def uptoBulkEntry {H : Type} : Lit × DataW H → Nat
  | (.string bytes, d) => bytes.length + uptoBulk d + 1
  | (_, d) => uptoBulk d + 1
 end
def uptoSmall : (H : Type) → List (DataW H) → Bool := fun _ ds => decide (uptoBulkAll ds ≤ 1048576)
def OpenSpec.upto (s : _root_.Go.ChangeSpec) : _root_.Go.OpenSpec := { _root_.Go.OpenSpec.ofChange s with cond := some uptoSmall }

/-- 'civiltimelaw09.LeapConverts', WHERE WHAT IT READS IS OF BULK AT MOST 1048576: true; the input reads as it did. -/
def leapConvertsUptoRow : OpenClaim := { program := "ytplgladflhglaaa", sum := "830ae2d67235f04effb65493541e2ed67666292c9a2c1878424be03df365005a", func := "civiltime/civiltimelaw09.LeapConverts", spec := "leapConverts", inPlace := ["internal/bytealg.IndexByteString"], unfollowed := true, recurses := true, apart := false, narrowed := true }
def LeapConvertsUptoSaid : Prop := leapConvertsUptoRow.holds Try.pinned (OpenSpec.upto leapConvertsSpec)

/-- 'civiltimelaw09.LeapBack', WHERE WHAT IT READS IS OF BULK AT MOST 1048576: true; the input reads as it did. -/
def leapBackUptoRow : OpenClaim := { program := "ytplgladflhglaaa", sum := "830ae2d67235f04effb65493541e2ed67666292c9a2c1878424be03df365005a", func := "civiltime/civiltimelaw09.LeapBack", spec := "leapBack", inPlace := ["internal/bytealg.IndexByteString"], unfollowed := true, recurses := true, apart := false, narrowed := true }
def LeapBackUptoSaid : Prop := leapBackUptoRow.holds Try.pinned (OpenSpec.upto leapBackSpec)

/-- 'civiltimelaw09.LeapParses', WHERE WHAT IT READS IS OF BULK AT MOST 1048576: true; the input reads as it did. -/
def leapParsesUptoRow : OpenClaim := { program := "ytplgladflhglaaa", sum := "830ae2d67235f04effb65493541e2ed67666292c9a2c1878424be03df365005a", func := "civiltime/civiltimelaw09.LeapParses", spec := "leapParses", inPlace := ["internal/bytealg.IndexByteString"], unfollowed := true, recurses := true, apart := false, narrowed := true }
def LeapParsesUptoSaid : Prop := leapParsesUptoRow.holds Try.pinned (OpenSpec.upto leapParsesSpec)

/-- 'civiltimelaw09.LeapDistances', WHERE WHAT IT READS IS OF BULK AT MOST 1048576: true; the input reads as it did. -/
def leapDistancesUptoRow : OpenClaim := { program := "ytplgladflhglaaa", sum := "830ae2d67235f04effb65493541e2ed67666292c9a2c1878424be03df365005a", func := "civiltime/civiltimelaw09.LeapDistances", spec := "leapDistances", inPlace := ["internal/bytealg.IndexByteString"], unfollowed := true, recurses := true, apart := false, narrowed := true }
def LeapDistancesUptoSaid : Prop := leapDistancesUptoRow.holds Try.pinned (OpenSpec.upto leapDistancesSpec)

/-- 'civiltimelaw09.LeapDays', WHERE WHAT IT READS IS OF BULK AT MOST 1048576: true; the input reads as it did. -/
def leapDaysUptoRow : OpenClaim := { program := "ytplgladflhglaaa", sum := "830ae2d67235f04effb65493541e2ed67666292c9a2c1878424be03df365005a", func := "civiltime/civiltimelaw09.LeapDays", spec := "leapDays", inPlace := ["internal/bytealg.IndexByteString"], unfollowed := true, recurses := true, apart := false, narrowed := true }
def LeapDaysUptoSaid : Prop := leapDaysUptoRow.holds Try.pinned (OpenSpec.upto leapDaysSpec)

/-- 'civiltimelaw09.LeapMinutes', WHERE WHAT IT READS IS OF BULK AT MOST 1048576: true; the input reads as it did. -/
def leapMinutesUptoRow : OpenClaim := { program := "ytplgladflhglaaa", sum := "830ae2d67235f04effb65493541e2ed67666292c9a2c1878424be03df365005a", func := "civiltime/civiltimelaw09.LeapMinutes", spec := "leapMinutes", inPlace := ["internal/bytealg.IndexByteString"], unfollowed := true, recurses := true, apart := false, narrowed := true }
def LeapMinutesUptoSaid : Prop := leapMinutesUptoRow.holds Try.pinned (OpenSpec.upto leapMinutesSpec)

/-- 'civiltimelaw09.LeapAdds', WHERE WHAT IT READS IS OF BULK AT MOST 1048576: true; the input reads as it did. -/
def leapAddsUptoRow : OpenClaim := { program := "ytplgladflhglaaa", sum := "830ae2d67235f04effb65493541e2ed67666292c9a2c1878424be03df365005a", func := "civiltime/civiltimelaw09.LeapAdds", spec := "leapAdds", inPlace := ["internal/bytealg.IndexByteString"], unfollowed := true, recurses := true, apart := false, narrowed := true }
def LeapAddsUptoSaid : Prop := leapAddsUptoRow.holds Try.pinned (OpenSpec.upto leapAddsSpec)

/-- 'civiltimelaw09.LeapTables', WHERE WHAT IT READS IS OF BULK AT MOST 1048576: true; the input reads as it did. -/
def leapTablesUptoRow : OpenClaim := { program := "ytplgladflhglaaa", sum := "830ae2d67235f04effb65493541e2ed67666292c9a2c1878424be03df365005a", func := "civiltime/civiltimelaw09.LeapTables", spec := "leapTables", inPlace := ["internal/bytealg.IndexByteString", "internal/abi.NoEscape"], unfollowed := true, recurses := true, apart := false, narrowed := true }
def LeapTablesUptoSaid : Prop := leapTablesUptoRow.holds Try.pinned (OpenSpec.upto leapTablesSpec)

end Rows
end Go.Proofs.Ytplgladflhglaaa
