/-
  No cell of these rows narrows 'for every input' (looked for: loops, veiled, ifaces, maps, wideKeys, modest, calm, conditions, laid).
  DERIVED. THE GIVEN ROWS OF THIS SEAT. 11 by the template 'for every input the law returns true; each argument reads behind the call as it read before'; 0 by the template 'total and deterministic' (their statements: YtgjbcdbhbbimcaaTotals.lean).
  GIVEN WITH THE SEED: the statements are not yours to turn. If you find one false, say at which input.
  Laid BY PROGRAM, IN A SANDBOX (cutbox-rows.mjs): the forced cells as the released guide's own fill.sh prints them over the translation f7a8663307633d51… (all of the seat's roots in one cut). By AI agents, Wed Nov 11 2026. No macro, syntax, notation, axiom, sorry.
-/
import Derived.Test.YtgjbcdbhbbimcaaChecked
import GoSem.Claim
import GoSem.ClaimJoined
import GoSem.ClaimMapViews
import Derived.JoinedTies
import Derived.KernelRfl
namespace Go.Proofs.Ytgjbcdbhbbimcaa
/- THE CELL 'sum', in the pinned program and in every row, IS THE sha256 OF THE DUMP (.gsa) THAT YtgjbcdbhbbimcaaProg.lean LOADS. Nothing in Lean hashes anything: it is a label: what it is worth is what the hold of that sum in a sandbox is worth. -/
noncomputable def Try.pinned : Pinned := { name := "ytgjbcdbhbbimcaa", sum := "f7a8663307633d51a12876dc40555c65eabec0d20a9ec29a30db73b1e22033b9", checked := Try.checked }
namespace Rows
def none {H : Type} : Left H := { results := [], args := [] }

/-- 'civiltimelaw02.CivilLengths': WHATEVER THE INPUT: true; the input reads as it did. -/
def civilLengthsSpec : ChangeSpec := { name := "civilLengths", fn := fun _ => fun
  | [d1, d2] => { results := [.lit (.bool true)], args := [d1, d2] }
  | _ => none }
def civilLengthsRow : OpenClaim := { program := "ytgjbcdbhbbimcaa", sum := "f7a8663307633d51a12876dc40555c65eabec0d20a9ec29a30db73b1e22033b9", func := "civiltime/civiltimelaw02.CivilLengths", spec := "civilLengths", apart := false }
def CivilLengthsSaid : Prop := civilLengthsRow.holds Try.pinned (OpenSpec.ofChange civilLengthsSpec)

/-- ITS FALSE NEIGHBOUR: 'it returns false'. Refute it at one input. -/
def civilLengthsWrong : ChangeSpec := { name := "civilLengths", fn := fun _ => fun
  | [d1, d2] => { results := [.lit (.bool false)], args := [d1, d2] }
  | _ => none }
def CivilLengthsWrongFalsely : Prop := civilLengthsRow.holds Try.pinned (OpenSpec.ofChange civilLengthsWrong)

/-- 'civiltimelaw02.CivilMonths': WHATEVER THE INPUT: true; the input reads as it did. -/
def civilMonthsSpec : ChangeSpec := { name := "civilMonths", fn := fun _ => fun
  | [d1, d2] => { results := [.lit (.bool true)], args := [d1, d2] }
  | _ => none }
def civilMonthsRow : OpenClaim := { program := "ytgjbcdbhbbimcaa", sum := "f7a8663307633d51a12876dc40555c65eabec0d20a9ec29a30db73b1e22033b9", func := "civiltime/civiltimelaw02.CivilMonths", spec := "civilMonths", apart := false }
def CivilMonthsSaid : Prop := civilMonthsRow.holds Try.pinned (OpenSpec.ofChange civilMonthsSpec)

/-- ITS FALSE NEIGHBOUR: 'it returns false'. Refute it at one input. -/
def civilMonthsWrong : ChangeSpec := { name := "civilMonths", fn := fun _ => fun
  | [d1, d2] => { results := [.lit (.bool false)], args := [d1, d2] }
  | _ => none }
def CivilMonthsWrongFalsely : Prop := civilMonthsRow.holds Try.pinned (OpenSpec.ofChange civilMonthsWrong)

/-- 'civiltimelaw02.CivilNth': WHATEVER THE INPUT: true; the input reads as it did. -/
def civilNthSpec : ChangeSpec := { name := "civilNth", fn := fun _ => fun
  | [d1, d2, d3, d4] => { results := [.lit (.bool true)], args := [d1, d2, d3, d4] }
  | _ => none }
def civilNthRow : OpenClaim := { program := "ytgjbcdbhbbimcaa", sum := "f7a8663307633d51a12876dc40555c65eabec0d20a9ec29a30db73b1e22033b9", func := "civiltime/civiltimelaw02.CivilNth", spec := "civilNth", apart := false }
def CivilNthSaid : Prop := civilNthRow.holds Try.pinned (OpenSpec.ofChange civilNthSpec)

/-- ITS FALSE NEIGHBOUR: 'it returns false'. Refute it at one input. -/
def civilNthWrong : ChangeSpec := { name := "civilNth", fn := fun _ => fun
  | [d1, d2, d3, d4] => { results := [.lit (.bool false)], args := [d1, d2, d3, d4] }
  | _ => none }
def CivilNthWrongFalsely : Prop := civilNthRow.holds Try.pinned (OpenSpec.ofChange civilNthWrong)

/-- 'civiltimelaw02.CivilUndone': WHATEVER THE INPUT: true; the input reads as it did. -/
def civilUndoneSpec : ChangeSpec := { name := "civilUndone", fn := fun _ => fun
  | [d1, d2, d3] => { results := [.lit (.bool true)], args := [d1, d2, d3] }
  | _ => none }
def civilUndoneRow : OpenClaim := { program := "ytgjbcdbhbbimcaa", sum := "f7a8663307633d51a12876dc40555c65eabec0d20a9ec29a30db73b1e22033b9", func := "civiltime/civiltimelaw02.CivilUndone", spec := "civilUndone", apart := false }
def CivilUndoneSaid : Prop := civilUndoneRow.holds Try.pinned (OpenSpec.ofChange civilUndoneSpec)

/-- ITS FALSE NEIGHBOUR: 'it returns false'. Refute it at one input. -/
def civilUndoneWrong : ChangeSpec := { name := "civilUndone", fn := fun _ => fun
  | [d1, d2, d3] => { results := [.lit (.bool false)], args := [d1, d2, d3] }
  | _ => none }
def CivilUndoneWrongFalsely : Prop := civilUndoneRow.holds Try.pinned (OpenSpec.ofChange civilUndoneWrong)

/-- 'civiltimelaw02.CivilDays': WHATEVER THE INPUT: true; the input reads as it did. -/
def civilDaysSpec : ChangeSpec := { name := "civilDays", fn := fun _ => fun
  | [d1, d2] => { results := [.lit (.bool true)], args := [d1, d2] }
  | _ => none }
def civilDaysRow : OpenClaim := { program := "ytgjbcdbhbbimcaa", sum := "f7a8663307633d51a12876dc40555c65eabec0d20a9ec29a30db73b1e22033b9", func := "civiltime/civiltimelaw02.CivilDays", spec := "civilDays", apart := false }
def CivilDaysSaid : Prop := civilDaysRow.holds Try.pinned (OpenSpec.ofChange civilDaysSpec)

/-- ITS FALSE NEIGHBOUR: 'it returns false'. Refute it at one input. -/
def civilDaysWrong : ChangeSpec := { name := "civilDays", fn := fun _ => fun
  | [d1, d2] => { results := [.lit (.bool false)], args := [d1, d2] }
  | _ => none }
def CivilDaysWrongFalsely : Prop := civilDaysRow.holds Try.pinned (OpenSpec.ofChange civilDaysWrong)

/-- 'civiltimelaw02.CivilNext': WHATEVER THE INPUT: true; the input reads as it did. -/
def civilNextSpec : ChangeSpec := { name := "civilNext", fn := fun _ => fun
  | [d] => { results := [.lit (.bool true)], args := [d] }
  | _ => none }
def civilNextRow : OpenClaim := { program := "ytgjbcdbhbbimcaa", sum := "f7a8663307633d51a12876dc40555c65eabec0d20a9ec29a30db73b1e22033b9", func := "civiltime/civiltimelaw02.CivilNext", spec := "civilNext", apart := false }
def CivilNextSaid : Prop := civilNextRow.holds Try.pinned (OpenSpec.ofChange civilNextSpec)

/-- ITS FALSE NEIGHBOUR: 'it returns false'. Refute it at one input. -/
def civilNextWrong : ChangeSpec := { name := "civilNext", fn := fun _ => fun
  | [d] => { results := [.lit (.bool false)], args := [d] }
  | _ => none }
def CivilNextWrongFalsely : Prop := civilNextRow.holds Try.pinned (OpenSpec.ofChange civilNextWrong)

/-- 'civiltimelaw02.CivilCycle': WHATEVER THE INPUT: true; the input reads as it did. -/
def civilCycleSpec : ChangeSpec := { name := "civilCycle", fn := fun _ => fun
  | [d] => { results := [.lit (.bool true)], args := [d] }
  | _ => none }
def civilCycleRow : OpenClaim := { program := "ytgjbcdbhbbimcaa", sum := "f7a8663307633d51a12876dc40555c65eabec0d20a9ec29a30db73b1e22033b9", func := "civiltime/civiltimelaw02.CivilCycle", spec := "civilCycle", apart := false }
def CivilCycleSaid : Prop := civilCycleRow.holds Try.pinned (OpenSpec.ofChange civilCycleSpec)

/-- ITS FALSE NEIGHBOUR: 'it returns false'. Refute it at one input. -/
def civilCycleWrong : ChangeSpec := { name := "civilCycle", fn := fun _ => fun
  | [d] => { results := [.lit (.bool false)], args := [d] }
  | _ => none }
def CivilCycleWrongFalsely : Prop := civilCycleRow.holds Try.pinned (OpenSpec.ofChange civilCycleWrong)

/-- 'civiltimelaw02.CivilWeeks': WHATEVER THE INPUT: true; the input reads as it did. -/
def civilWeeksSpec : ChangeSpec := { name := "civilWeeks", fn := fun _ => fun
  | [d1, d2, d3, d4] => { results := [.lit (.bool true)], args := [d1, d2, d3, d4] }
  | _ => none }
def civilWeeksRow : OpenClaim := { program := "ytgjbcdbhbbimcaa", sum := "f7a8663307633d51a12876dc40555c65eabec0d20a9ec29a30db73b1e22033b9", func := "civiltime/civiltimelaw02.CivilWeeks", spec := "civilWeeks", apart := false }
def CivilWeeksSaid : Prop := civilWeeksRow.holds Try.pinned (OpenSpec.ofChange civilWeeksSpec)

/-- ITS FALSE NEIGHBOUR: 'it returns false'. Refute it at one input. -/
def civilWeeksWrong : ChangeSpec := { name := "civilWeeks", fn := fun _ => fun
  | [d1, d2, d3, d4] => { results := [.lit (.bool false)], args := [d1, d2, d3, d4] }
  | _ => none }
def CivilWeeksWrongFalsely : Prop := civilWeeksRow.holds Try.pinned (OpenSpec.ofChange civilWeeksWrong)

/-- 'civiltimelaw02.CivilOrder': WHATEVER THE INPUT: true; the input reads as it did. -/
def civilOrderSpec : ChangeSpec := { name := "civilOrder", fn := fun _ => fun
  | [d1, d2] => { results := [.lit (.bool true)], args := [d1, d2] }
  | _ => none }
def civilOrderRow : OpenClaim := { program := "ytgjbcdbhbbimcaa", sum := "f7a8663307633d51a12876dc40555c65eabec0d20a9ec29a30db73b1e22033b9", func := "civiltime/civiltimelaw02.CivilOrder", spec := "civilOrder", apart := false }
def CivilOrderSaid : Prop := civilOrderRow.holds Try.pinned (OpenSpec.ofChange civilOrderSpec)

/-- ITS FALSE NEIGHBOUR: 'it returns false'. Refute it at one input. -/
def civilOrderWrong : ChangeSpec := { name := "civilOrder", fn := fun _ => fun
  | [d1, d2] => { results := [.lit (.bool false)], args := [d1, d2] }
  | _ => none }
def CivilOrderWrongFalsely : Prop := civilOrderRow.holds Try.pinned (OpenSpec.ofChange civilOrderWrong)

/-- 'civiltimelaw02.CivilTexts': WHATEVER THE INPUT: true; the input reads as it did. -/
def civilTextsSpec : ChangeSpec := { name := "civilTexts", fn := fun _ => fun
  | [d1, d2] => { results := [.lit (.bool true)], args := [d1, d2] }
  | _ => none }
def civilTextsRow : OpenClaim := { program := "ytgjbcdbhbbimcaa", sum := "f7a8663307633d51a12876dc40555c65eabec0d20a9ec29a30db73b1e22033b9", func := "civiltime/civiltimelaw02.CivilTexts", spec := "civilTexts", apart := false }
def CivilTextsSaid : Prop := civilTextsRow.holds Try.pinned (OpenSpec.ofChange civilTextsSpec)

/-- ITS FALSE NEIGHBOUR: 'it returns false'. Refute it at one input. -/
def civilTextsWrong : ChangeSpec := { name := "civilTexts", fn := fun _ => fun
  | [d1, d2] => { results := [.lit (.bool false)], args := [d1, d2] }
  | _ => none }
def CivilTextsWrongFalsely : Prop := civilTextsRow.holds Try.pinned (OpenSpec.ofChange civilTextsWrong)

/-- 'civiltimelaw02.CivilBack': WHATEVER THE INPUT: true; the input reads as it did. -/
def civilBackSpec : ChangeSpec := { name := "civilBack", fn := fun _ => fun
  | [d1, d2] => { results := [.lit (.bool true)], args := [d1, d2] }
  | _ => none }
def civilBackRow : OpenClaim := { program := "ytgjbcdbhbbimcaa", sum := "f7a8663307633d51a12876dc40555c65eabec0d20a9ec29a30db73b1e22033b9", func := "civiltime/civiltimelaw02.CivilBack", spec := "civilBack", apart := false }
def CivilBackSaid : Prop := civilBackRow.holds Try.pinned (OpenSpec.ofChange civilBackSpec)

/-- ITS FALSE NEIGHBOUR: 'it returns false'. Refute it at one input. -/
def civilBackWrong : ChangeSpec := { name := "civilBack", fn := fun _ => fun
  | [d1, d2] => { results := [.lit (.bool false)], args := [d1, d2] }
  | _ => none }
def CivilBackWrongFalsely : Prop := civilBackRow.holds Try.pinned (OpenSpec.ofChange civilBackWrong)

/- THE SECOND FORM. 'bulk': how many values and letters a reading holds, each counted each time it is reached (what is shared counts as often as it is met; a slice's spare places count too). A statement '..UptoSaid' is the law's where the arguments, and the package variables that the reading takes, are together of bulk at most 1048576: NARROWER than '..Said'. Prove '..Said' where nothing that the law and all that it calls make is longer than what came in: it says more and counts as full. Else prove '..UptoSaid'. A law counts once. -/
mutual
def uptoBulk {H : Type} : DataW H → Nat
  | .lit (.string bytes) => bytes.length + 1
  | .lit _ => 1
  | .nil => 1
  | .ptr d => uptoBulk d + 1
  | .slice elems spare => uptoBulkAll elems + uptoBulkAll spare + 1
  | .agg parts => uptoBulkAll parts + 1
  | .iface _ d => uptoBulk d + 1
  | .map entries => uptoBulkEntries entries + 1
  | .held _ => 1
def uptoBulkAll {H : Type} : List (DataW H) → Nat
  | [] => 0
  | d :: r => uptoBulk d + uptoBulkAll r
def uptoBulkEntries {H : Type} : List (Lit × DataW H) → Nat
  | [] => 0
  | x :: r => uptoBulkEntry x + uptoBulkEntries r
def uptoBulkEntry {H : Type} : Lit × DataW H → Nat
  | (.string bytes, d) => bytes.length + uptoBulk d + 1
  | (_, d) => uptoBulk d + 1
 end
def uptoSmall : (H : Type) → List (DataW H) → Bool := fun _ ds => decide (uptoBulkAll ds ≤ 1048576)
def OpenSpec.upto (s : _root_.Go.ChangeSpec) : _root_.Go.OpenSpec := { _root_.Go.OpenSpec.ofChange s with cond := some uptoSmall }

/-- 'civiltimelaw02.CivilLengths', WHERE WHAT IT READS IS OF BULK AT MOST 1048576: true; the input reads as it did. -/
def civilLengthsUptoRow : OpenClaim := { program := "ytgjbcdbhbbimcaa", sum := "f7a8663307633d51a12876dc40555c65eabec0d20a9ec29a30db73b1e22033b9", func := "civiltime/civiltimelaw02.CivilLengths", spec := "civilLengths", apart := false, narrowed := true }
def CivilLengthsUptoSaid : Prop := civilLengthsUptoRow.holds Try.pinned (OpenSpec.upto civilLengthsSpec)

/-- 'civiltimelaw02.CivilMonths', WHERE WHAT IT READS IS OF BULK AT MOST 1048576: true; the input reads as it did. -/
def civilMonthsUptoRow : OpenClaim := { program := "ytgjbcdbhbbimcaa", sum := "f7a8663307633d51a12876dc40555c65eabec0d20a9ec29a30db73b1e22033b9", func := "civiltime/civiltimelaw02.CivilMonths", spec := "civilMonths", apart := false, narrowed := true }
def CivilMonthsUptoSaid : Prop := civilMonthsUptoRow.holds Try.pinned (OpenSpec.upto civilMonthsSpec)

/-- 'civiltimelaw02.CivilNth', WHERE WHAT IT READS IS OF BULK AT MOST 1048576: true; the input reads as it did. -/
def civilNthUptoRow : OpenClaim := { program := "ytgjbcdbhbbimcaa", sum := "f7a8663307633d51a12876dc40555c65eabec0d20a9ec29a30db73b1e22033b9", func := "civiltime/civiltimelaw02.CivilNth", spec := "civilNth", apart := false, narrowed := true }
def CivilNthUptoSaid : Prop := civilNthUptoRow.holds Try.pinned (OpenSpec.upto civilNthSpec)

/-- 'civiltimelaw02.CivilUndone', WHERE WHAT IT READS IS OF BULK AT MOST 1048576: true; the input reads as it did. -/
def civilUndoneUptoRow : OpenClaim := { program := "ytgjbcdbhbbimcaa", sum := "f7a8663307633d51a12876dc40555c65eabec0d20a9ec29a30db73b1e22033b9", func := "civiltime/civiltimelaw02.CivilUndone", spec := "civilUndone", apart := false, narrowed := true }
def CivilUndoneUptoSaid : Prop := civilUndoneUptoRow.holds Try.pinned (OpenSpec.upto civilUndoneSpec)

/-- 'civiltimelaw02.CivilDays', WHERE WHAT IT READS IS OF BULK AT MOST 1048576: true; the input reads as it did. -/
def civilDaysUptoRow : OpenClaim := { program := "ytgjbcdbhbbimcaa", sum := "f7a8663307633d51a12876dc40555c65eabec0d20a9ec29a30db73b1e22033b9", func := "civiltime/civiltimelaw02.CivilDays", spec := "civilDays", apart := false, narrowed := true }
def CivilDaysUptoSaid : Prop := civilDaysUptoRow.holds Try.pinned (OpenSpec.upto civilDaysSpec)

/-- 'civiltimelaw02.CivilNext', WHERE WHAT IT READS IS OF BULK AT MOST 1048576: true; the input reads as it did. -/
def civilNextUptoRow : OpenClaim := { program := "ytgjbcdbhbbimcaa", sum := "f7a8663307633d51a12876dc40555c65eabec0d20a9ec29a30db73b1e22033b9", func := "civiltime/civiltimelaw02.CivilNext", spec := "civilNext", apart := false, narrowed := true }
def CivilNextUptoSaid : Prop := civilNextUptoRow.holds Try.pinned (OpenSpec.upto civilNextSpec)

/-- 'civiltimelaw02.CivilCycle', WHERE WHAT IT READS IS OF BULK AT MOST 1048576: true; the input reads as it did. -/
def civilCycleUptoRow : OpenClaim := { program := "ytgjbcdbhbbimcaa", sum := "f7a8663307633d51a12876dc40555c65eabec0d20a9ec29a30db73b1e22033b9", func := "civiltime/civiltimelaw02.CivilCycle", spec := "civilCycle", apart := false, narrowed := true }
def CivilCycleUptoSaid : Prop := civilCycleUptoRow.holds Try.pinned (OpenSpec.upto civilCycleSpec)

/-- 'civiltimelaw02.CivilWeeks', WHERE WHAT IT READS IS OF BULK AT MOST 1048576: true; the input reads as it did. -/
def civilWeeksUptoRow : OpenClaim := { program := "ytgjbcdbhbbimcaa", sum := "f7a8663307633d51a12876dc40555c65eabec0d20a9ec29a30db73b1e22033b9", func := "civiltime/civiltimelaw02.CivilWeeks", spec := "civilWeeks", apart := false, narrowed := true }
def CivilWeeksUptoSaid : Prop := civilWeeksUptoRow.holds Try.pinned (OpenSpec.upto civilWeeksSpec)

/-- 'civiltimelaw02.CivilOrder', WHERE WHAT IT READS IS OF BULK AT MOST 1048576: true; the input reads as it did. -/
def civilOrderUptoRow : OpenClaim := { program := "ytgjbcdbhbbimcaa", sum := "f7a8663307633d51a12876dc40555c65eabec0d20a9ec29a30db73b1e22033b9", func := "civiltime/civiltimelaw02.CivilOrder", spec := "civilOrder", apart := false, narrowed := true }
def CivilOrderUptoSaid : Prop := civilOrderUptoRow.holds Try.pinned (OpenSpec.upto civilOrderSpec)

/-- 'civiltimelaw02.CivilTexts', WHERE WHAT IT READS IS OF BULK AT MOST 1048576: true; the input reads as it did. -/
def civilTextsUptoRow : OpenClaim := { program := "ytgjbcdbhbbimcaa", sum := "f7a8663307633d51a12876dc40555c65eabec0d20a9ec29a30db73b1e22033b9", func := "civiltime/civiltimelaw02.CivilTexts", spec := "civilTexts", apart := false, narrowed := true }
def CivilTextsUptoSaid : Prop := civilTextsUptoRow.holds Try.pinned (OpenSpec.upto civilTextsSpec)

/-- 'civiltimelaw02.CivilBack', WHERE WHAT IT READS IS OF BULK AT MOST 1048576: true; the input reads as it did. -/
def civilBackUptoRow : OpenClaim := { program := "ytgjbcdbhbbimcaa", sum := "f7a8663307633d51a12876dc40555c65eabec0d20a9ec29a30db73b1e22033b9", func := "civiltime/civiltimelaw02.CivilBack", spec := "civilBack", apart := false, narrowed := true }
def CivilBackUptoSaid : Prop := civilBackUptoRow.holds Try.pinned (OpenSpec.upto civilBackSpec)

end Rows
end Go.Proofs.Ytgjbcdbhbbimcaa
