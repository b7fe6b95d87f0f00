/-
  No cell of these rows narrows 'for every input' (looked for: loops, veiled, ifaces, maps, wideKeys, modest, calm, conditions, laid).
  DERIVED. THE GIVEN ROWS OF THIS SEAT. 7 by the template 'for every input the law returns true; each argument reads behind the call as it read before'; 0 by the template 'total and deterministic' (their statements: YtainibnjpkbfpaaTotals.lean).
  GIVEN WITH THE SEED: the statements are not yours to turn. If you find one false, say at which input.
  Laid BY PROGRAM, IN A SANDBOX (cutbox-rows.mjs): the forced cells as the released guide's own fill.sh prints them over the translation 5eb7c46667422b0f… (all of the seat's roots in one cut). By AI agents, Wed Nov 11 2026. No macro, syntax, notation, axiom, sorry.
-/
import Derived.Test.YtainibnjpkbfpaaChecked
import GoSem.Claim
import GoSem.ClaimJoined
import GoSem.ClaimMapViews
import Derived.JoinedTies
import Derived.KernelRfl
namespace Go.Proofs.Ytainibnjpkbfpaa
/- THE CELL 'sum', in the pinned program and in every row, IS THE sha256 OF THE DUMP (.gsa) THAT YtainibnjpkbfpaaProg.lean LOADS. Nothing in Lean hashes anything: it is a label: what it is worth is what the hold of that sum in a sandbox is worth. -/
noncomputable def Try.pinned : Pinned := { name := "ytainibnjpkbfpaa", sum := "5eb7c46667422b0fab03873da2650a61e0c4afa45c783a2280cdd2ff2adac7cf", checked := Try.checked }
namespace Rows
def none {H : Type} : Left H := { results := [], args := [] }

/-- 'civiltimelaw17.ConversionAdds': WHATEVER THE INPUT: true; the input reads as it did. -/
def conversionAddsSpec : ChangeSpec := { name := "conversionAdds", fn := fun _ => fun
  | [d1, d2, d3] => { results := [.lit (.bool true)], args := [d1, d2, d3] }
  | _ => none }
def conversionAddsRow : OpenClaim := { program := "ytainibnjpkbfpaa", sum := "5eb7c46667422b0fab03873da2650a61e0c4afa45c783a2280cdd2ff2adac7cf", func := "civiltime/civiltimelaw17.ConversionAdds", spec := "conversionAdds", unfollowed := true, recurses := true, apart := false }
def ConversionAddsSaid : Prop := conversionAddsRow.holds Try.pinned (OpenSpec.ofChange conversionAddsSpec)

/-- ITS FALSE NEIGHBOUR: 'it returns false'. Refute it at one input. -/
def conversionAddsWrong : ChangeSpec := { name := "conversionAdds", fn := fun _ => fun
  | [d1, d2, d3] => { results := [.lit (.bool false)], args := [d1, d2, d3] }
  | _ => none }
def ConversionAddsWrongFalsely : Prop := conversionAddsRow.holds Try.pinned (OpenSpec.ofChange conversionAddsWrong)

/-- 'civiltimelaw17.ConversionCounts': WHATEVER THE INPUT: true; the input reads as it did. -/
def conversionCountsSpec : ChangeSpec := { name := "conversionCounts", fn := fun _ => fun
  | [d1, d2, d3, d4] => { results := [.lit (.bool true)], args := [d1, d2, d3, d4] }
  | _ => none }
def conversionCountsRow : OpenClaim := { program := "ytainibnjpkbfpaa", sum := "5eb7c46667422b0fab03873da2650a61e0c4afa45c783a2280cdd2ff2adac7cf", func := "civiltime/civiltimelaw17.ConversionCounts", spec := "conversionCounts", unfollowed := true, recurses := true, apart := false }
def ConversionCountsSaid : Prop := conversionCountsRow.holds Try.pinned (OpenSpec.ofChange conversionCountsSpec)

/-- ITS FALSE NEIGHBOUR: 'it returns false'. Refute it at one input. -/
def conversionCountsWrong : ChangeSpec := { name := "conversionCounts", fn := fun _ => fun
  | [d1, d2, d3, d4] => { results := [.lit (.bool false)], args := [d1, d2, d3, d4] }
  | _ => none }
def ConversionCountsWrongFalsely : Prop := conversionCountsRow.holds Try.pinned (OpenSpec.ofChange conversionCountsWrong)

/-- 'civiltimelaw17.ConversionFinds': WHATEVER THE INPUT: true; the input reads as it did. -/
def conversionFindsSpec : ChangeSpec := { name := "conversionFinds", fn := fun _ => fun
  | [d1, d2, d3] => { results := [.lit (.bool true)], args := [d1, d2, d3] }
  | _ => none }
def conversionFindsRow : OpenClaim := { program := "ytainibnjpkbfpaa", sum := "5eb7c46667422b0fab03873da2650a61e0c4afa45c783a2280cdd2ff2adac7cf", func := "civiltime/civiltimelaw17.ConversionFinds", spec := "conversionFinds", unfollowed := true, recurses := true, apart := false }
def ConversionFindsSaid : Prop := conversionFindsRow.holds Try.pinned (OpenSpec.ofChange conversionFindsSpec)

/-- ITS FALSE NEIGHBOUR: 'it returns false'. Refute it at one input. -/
def conversionFindsWrong : ChangeSpec := { name := "conversionFinds", fn := fun _ => fun
  | [d1, d2, d3] => { results := [.lit (.bool false)], args := [d1, d2, d3] }
  | _ => none }
def ConversionFindsWrongFalsely : Prop := conversionFindsRow.holds Try.pinned (OpenSpec.ofChange conversionFindsWrong)

/-- 'civiltimelaw17.ConversionMonths': WHATEVER THE INPUT: true; the input reads as it did. -/
def conversionMonthsSpec : ChangeSpec := { name := "conversionMonths", fn := fun _ => fun
  | [d1, d2] => { results := [.lit (.bool true)], args := [d1, d2] }
  | _ => none }
def conversionMonthsRow : OpenClaim := { program := "ytainibnjpkbfpaa", sum := "5eb7c46667422b0fab03873da2650a61e0c4afa45c783a2280cdd2ff2adac7cf", func := "civiltime/civiltimelaw17.ConversionMonths", spec := "conversionMonths", unfollowed := true, recurses := true, apart := false }
def ConversionMonthsSaid : Prop := conversionMonthsRow.holds Try.pinned (OpenSpec.ofChange conversionMonthsSpec)

/-- ITS FALSE NEIGHBOUR: 'it returns false'. Refute it at one input. -/
def conversionMonthsWrong : ChangeSpec := { name := "conversionMonths", fn := fun _ => fun
  | [d1, d2] => { results := [.lit (.bool false)], args := [d1, d2] }
  | _ => none }
def ConversionMonthsWrongFalsely : Prop := conversionMonthsRow.holds Try.pinned (OpenSpec.ofChange conversionMonthsWrong)

/-- 'civiltimelaw17.ConversionDivides': WHATEVER THE INPUT: true; the input reads as it did. -/
def conversionDividesSpec : ChangeSpec := { name := "conversionDivides", fn := fun _ => fun
  | [d1, d2, d3] => { results := [.lit (.bool true)], args := [d1, d2, d3] }
  | _ => none }
def conversionDividesRow : OpenClaim := { program := "ytainibnjpkbfpaa", sum := "5eb7c46667422b0fab03873da2650a61e0c4afa45c783a2280cdd2ff2adac7cf", func := "civiltime/civiltimelaw17.ConversionDivides", spec := "conversionDivides", unfollowed := true, recurses := true, apart := false }
def ConversionDividesSaid : Prop := conversionDividesRow.holds Try.pinned (OpenSpec.ofChange conversionDividesSpec)

/-- ITS FALSE NEIGHBOUR: 'it returns false'. Refute it at one input. -/
def conversionDividesWrong : ChangeSpec := { name := "conversionDivides", fn := fun _ => fun
  | [d1, d2, d3] => { results := [.lit (.bool false)], args := [d1, d2, d3] }
  | _ => none }
def ConversionDividesWrongFalsely : Prop := conversionDividesRow.holds Try.pinned (OpenSpec.ofChange conversionDividesWrong)

/-- 'civiltimelaw17.ConversionPairs': WHATEVER THE INPUT: true; the input reads as it did. -/
def conversionPairsSpec : ChangeSpec := { name := "conversionPairs", fn := fun _ => fun
  | [d1, d2] => { results := [.lit (.bool true)], args := [d1, d2] }
  | _ => none }
def conversionPairsRow : OpenClaim := { program := "ytainibnjpkbfpaa", sum := "5eb7c46667422b0fab03873da2650a61e0c4afa45c783a2280cdd2ff2adac7cf", func := "civiltime/civiltimelaw17.ConversionPairs", spec := "conversionPairs", unfollowed := true, recurses := true, apart := false }
def ConversionPairsSaid : Prop := conversionPairsRow.holds Try.pinned (OpenSpec.ofChange conversionPairsSpec)

/-- ITS FALSE NEIGHBOUR: 'it returns false'. Refute it at one input. -/
def conversionPairsWrong : ChangeSpec := { name := "conversionPairs", fn := fun _ => fun
  | [d1, d2] => { results := [.lit (.bool false)], args := [d1, d2] }
  | _ => none }
def ConversionPairsWrongFalsely : Prop := conversionPairsRow.holds Try.pinned (OpenSpec.ofChange conversionPairsWrong)

/-- 'civiltimelaw17.ConversionFiner': WHATEVER THE INPUT: true; the input reads as it did. -/
def conversionFinerSpec : ChangeSpec := { name := "conversionFiner", fn := fun _ => fun
  | [d1, d2, d3] => { results := [.lit (.bool true)], args := [d1, d2, d3] }
  | _ => none }
def conversionFinerRow : OpenClaim := { program := "ytainibnjpkbfpaa", sum := "5eb7c46667422b0fab03873da2650a61e0c4afa45c783a2280cdd2ff2adac7cf", func := "civiltime/civiltimelaw17.ConversionFiner", spec := "conversionFiner", unfollowed := true, recurses := true, apart := false }
def ConversionFinerSaid : Prop := conversionFinerRow.holds Try.pinned (OpenSpec.ofChange conversionFinerSpec)

/-- ITS FALSE NEIGHBOUR: 'it returns false'. Refute it at one input. -/
def conversionFinerWrong : ChangeSpec := { name := "conversionFiner", fn := fun _ => fun
  | [d1, d2, d3] => { results := [.lit (.bool false)], args := [d1, d2, d3] }
  | _ => none }
def ConversionFinerWrongFalsely : Prop := conversionFinerRow.holds Try.pinned (OpenSpec.ofChange conversionFinerWrong)

/- THE SECOND FORM. 'bulk': how many values and letters a reading holds, each counted each time it is reached (what is shared counts as often as it is met; a slice's spare places count too). A statement '..UptoSaid' is the law's where the arguments, and the package variables that the reading takes, are together of bulk at most 1048576: NARROWER than '..Said'. Prove '..Said' where nothing that the law and all that it calls make is longer than what came in: it says more and counts as full. Else prove '..UptoSaid'. A law counts once. -/
mutual
def uptoBulk {H : Type} : DataW H → Nat
  | .lit (.string bytes) => bytes.length + 1
  | .lit _ => 1
  | .nil => 1
  | .ptr d => uptoBulk d + 1
  | .slice elems spare => uptoBulkAll elems + uptoBulkAll spare + 1
  | .agg parts => uptoBulkAll parts + 1
  | .iface _ d => uptoBulk d + 1
  | .map entries => uptoBulkEntries entries + 1
  | .held _ => 1
def uptoBulkAll {H : Type} : List (DataW H) → Nat
  | [] => 0
  | d :: r => uptoBulk d + uptoBulkAll r
def uptoBulkEntries {H : Type} : List (Lit × DataW H) → Nat
  | [] => 0
  | x :: r => uptoBulkEntry x + uptoBulkEntries r
def uptoBulkEntry {H : Type} : Lit × DataW H → Nat
  | (.string bytes, d) => bytes.length + uptoBulk d + 1
  | (_, d) => uptoBulk d + 1
 end
def uptoSmall : (H : Type) → List (DataW H) → Bool := fun _ ds => decide (uptoBulkAll ds ≤ 1048576)
def OpenSpec.upto (s : _root_.Go.ChangeSpec) : _root_.Go.OpenSpec := { _root_.Go.OpenSpec.ofChange s with cond := some uptoSmall }

/-- 'civiltimelaw17.ConversionAdds', WHERE WHAT IT READS IS OF BULK AT MOST 1048576: true; the input reads as it did. -/
def conversionAddsUptoRow : OpenClaim := { program := "ytainibnjpkbfpaa", sum := "5eb7c46667422b0fab03873da2650a61e0c4afa45c783a2280cdd2ff2adac7cf", func := "civiltime/civiltimelaw17.ConversionAdds", spec := "conversionAdds", unfollowed := true, recurses := true, apart := false, narrowed := true }
def ConversionAddsUptoSaid : Prop := conversionAddsUptoRow.holds Try.pinned (OpenSpec.upto conversionAddsSpec)

/-- 'civiltimelaw17.ConversionCounts', WHERE WHAT IT READS IS OF BULK AT MOST 1048576: true; the input reads as it did. -/
def conversionCountsUptoRow : OpenClaim := { program := "ytainibnjpkbfpaa", sum := "5eb7c46667422b0fab03873da2650a61e0c4afa45c783a2280cdd2ff2adac7cf", func := "civiltime/civiltimelaw17.ConversionCounts", spec := "conversionCounts", unfollowed := true, recurses := true, apart := false, narrowed := true }
def ConversionCountsUptoSaid : Prop := conversionCountsUptoRow.holds Try.pinned (OpenSpec.upto conversionCountsSpec)

/-- 'civiltimelaw17.ConversionFinds', WHERE WHAT IT READS IS OF BULK AT MOST 1048576: true; the input reads as it did. -/
def conversionFindsUptoRow : OpenClaim := { program := "ytainibnjpkbfpaa", sum := "5eb7c46667422b0fab03873da2650a61e0c4afa45c783a2280cdd2ff2adac7cf", func := "civiltime/civiltimelaw17.ConversionFinds", spec := "conversionFinds", unfollowed := true, recurses := true, apart := false, narrowed := true }
def ConversionFindsUptoSaid : Prop := conversionFindsUptoRow.holds Try.pinned (OpenSpec.upto conversionFindsSpec)

/-- 'civiltimelaw17.ConversionMonths', WHERE WHAT IT READS IS OF BULK AT MOST 1048576: true; the input reads as it did. -/
def conversionMonthsUptoRow : OpenClaim := { program := "ytainibnjpkbfpaa", sum := "5eb7c46667422b0fab03873da2650a61e0c4afa45c783a2280cdd2ff2adac7cf", func := "civiltime/civiltimelaw17.ConversionMonths", spec := "conversionMonths", unfollowed := true, recurses := true, apart := false, narrowed := true }
def ConversionMonthsUptoSaid : Prop := conversionMonthsUptoRow.holds Try.pinned (OpenSpec.upto conversionMonthsSpec)

/-- 'civiltimelaw17.ConversionDivides', WHERE WHAT IT READS IS OF BULK AT MOST 1048576: true; the input reads as it did. -/
def conversionDividesUptoRow : OpenClaim := { program := "ytainibnjpkbfpaa", sum := "5eb7c46667422b0fab03873da2650a61e0c4afa45c783a2280cdd2ff2adac7cf", func := "civiltime/civiltimelaw17.ConversionDivides", spec := "conversionDivides", unfollowed := true, recurses := true, apart := false, narrowed := true }
def ConversionDividesUptoSaid : Prop := conversionDividesUptoRow.holds Try.pinned (OpenSpec.upto conversionDividesSpec)

/-- 'civiltimelaw17.ConversionPairs', WHERE WHAT IT READS IS OF BULK AT MOST 1048576: true; the input reads as it did. -/
def conversionPairsUptoRow : OpenClaim := { program := "ytainibnjpkbfpaa", sum := "5eb7c46667422b0fab03873da2650a61e0c4afa45c783a2280cdd2ff2adac7cf", func := "civiltime/civiltimelaw17.ConversionPairs", spec := "conversionPairs", unfollowed := true, recurses := true, apart := false, narrowed := true }
def ConversionPairsUptoSaid : Prop := conversionPairsUptoRow.holds Try.pinned (OpenSpec.upto conversionPairsSpec)

/-- 'civiltimelaw17.ConversionFiner', WHERE WHAT IT READS IS OF BULK AT MOST 1048576: true; the input reads as it did. -/
def conversionFinerUptoRow : OpenClaim := { program := "ytainibnjpkbfpaa", sum := "5eb7c46667422b0fab03873da2650a61e0c4afa45c783a2280cdd2ff2adac7cf", func := "civiltime/civiltimelaw17.ConversionFiner", spec := "conversionFiner", unfollowed := true, recurses := true, apart := false, narrowed := true }
def ConversionFinerUptoSaid : Prop := conversionFinerUptoRow.holds Try.pinned (OpenSpec.upto conversionFinerSpec)

end Rows
end Go.Proofs.Ytainibnjpkbfpaa
