/-
  No cell of these rows narrows 'for every input' (looked for: loops, veiled, ifaces, maps, wideKeys, modest, calm, conditions, laid).
  DERIVED. THE GIVEN ROWS OF THIS SEAT. 10 by the template 'for every input the law returns true; each argument reads behind the call as it read before'; 0 by the template 'total and deterministic' (their statements: YtfmdgeeooohilaaTotals.lean).
  GIVEN WITH THE SEED: the statements are not yours to turn. If you find one false, say at which input.
  Laid BY PROGRAM, IN A SANDBOX (cutbox-rows.mjs): the forced cells as the released guide's own fill.sh prints them over the translation e1064e9b2bb4e268… (all of the seat's roots in one cut). By AI agents, Wed Nov 11 2026. No macro, syntax, notation, axiom, sorry.
-/
import Derived.Test.YtfmdgeeooohilaaChecked
import GoSem.Claim
import GoSem.ClaimJoined
import GoSem.ClaimMapViews
import Derived.JoinedTies
import Derived.KernelRfl
namespace Go.Proofs.Ytfmdgeeooohilaa
/- THE CELL 'sum', in the pinned program and in every row, IS THE sha256 OF THE DUMP (.gsa) THAT YtfmdgeeooohilaaProg.lean LOADS. Nothing in Lean hashes anything: it is a label: what it is worth is what the hold of that sum in a sandbox is worth. -/
noncomputable def Try.pinned : Pinned := { name := "ytfmdgeeooohilaa", sum := "e1064e9b2bb4e2687973c7d0f2963b4fab9e0e3653d4a952edcc3683bb9189ea", checked := Try.checked }
namespace Rows
def none {H : Type} : Left H := { results := [], args := [] }

/-- 'civiltimelaw01.IntegerDivisors': WHATEVER THE INPUT: true; the input reads as it did. -/
def integerDivisorsSpec : ChangeSpec := { name := "integerDivisors", fn := fun _ => fun
  | [d1, d2, d3] => { results := [.lit (.bool true)], args := [d1, d2, d3] }
  | _ => none }
def integerDivisorsRow : OpenClaim := { program := "ytfmdgeeooohilaa", sum := "e1064e9b2bb4e2687973c7d0f2963b4fab9e0e3653d4a952edcc3683bb9189ea", func := "civiltime/civiltimelaw01.IntegerDivisors", spec := "integerDivisors", named := ["math/bits.divideError", "math/bits.overflowError"], apart := false }
def IntegerDivisorsSaid : Prop := integerDivisorsRow.holds Try.pinned (OpenSpec.ofChange integerDivisorsSpec)

/-- ITS FALSE NEIGHBOUR: 'it returns false'. Refute it at one input. -/
def integerDivisorsWrong : ChangeSpec := { name := "integerDivisors", fn := fun _ => fun
  | [d1, d2, d3] => { results := [.lit (.bool false)], args := [d1, d2, d3] }
  | _ => none }
def IntegerDivisorsWrongFalsely : Prop := integerDivisorsRow.holds Try.pinned (OpenSpec.ofChange integerDivisorsWrong)

/-- 'civiltimelaw01.IntegerMultiples': WHATEVER THE INPUT: true; the input reads as it did. -/
def integerMultiplesSpec : ChangeSpec := { name := "integerMultiples", fn := fun _ => fun
  | [d1, d2] => { results := [.lit (.bool true)], args := [d1, d2] }
  | _ => none }
def integerMultiplesRow : OpenClaim := { program := "ytfmdgeeooohilaa", sum := "e1064e9b2bb4e2687973c7d0f2963b4fab9e0e3653d4a952edcc3683bb9189ea", func := "civiltime/civiltimelaw01.IntegerMultiples", spec := "integerMultiples", named := ["math/bits.divideError", "math/bits.overflowError"], apart := false }
def IntegerMultiplesSaid : Prop := integerMultiplesRow.holds Try.pinned (OpenSpec.ofChange integerMultiplesSpec)

/-- ITS FALSE NEIGHBOUR: 'it returns false'. Refute it at one input. -/
def integerMultiplesWrong : ChangeSpec := { name := "integerMultiples", fn := fun _ => fun
  | [d1, d2] => { results := [.lit (.bool false)], args := [d1, d2] }
  | _ => none }
def IntegerMultiplesWrongFalsely : Prop := integerMultiplesRow.holds Try.pinned (OpenSpec.ofChange integerMultiplesWrong)

/-- 'civiltimelaw01.IntegerMeets': WHATEVER THE INPUT: true; the input reads as it did. -/
def integerMeetsSpec : ChangeSpec := { name := "integerMeets", fn := fun _ => fun
  | [d1, d2, d3, d4] => { results := [.lit (.bool true)], args := [d1, d2, d3, d4] }
  | _ => none }
def integerMeetsRow : OpenClaim := { program := "ytfmdgeeooohilaa", sum := "e1064e9b2bb4e2687973c7d0f2963b4fab9e0e3653d4a952edcc3683bb9189ea", func := "civiltime/civiltimelaw01.IntegerMeets", spec := "integerMeets", named := ["math/bits.divideError", "math/bits.overflowError"], apart := false }
def IntegerMeetsSaid : Prop := integerMeetsRow.holds Try.pinned (OpenSpec.ofChange integerMeetsSpec)

/-- ITS FALSE NEIGHBOUR: 'it returns false'. Refute it at one input. -/
def integerMeetsWrong : ChangeSpec := { name := "integerMeets", fn := fun _ => fun
  | [d1, d2, d3, d4] => { results := [.lit (.bool false)], args := [d1, d2, d3, d4] }
  | _ => none }
def IntegerMeetsWrongFalsely : Prop := integerMeetsRow.holds Try.pinned (OpenSpec.ofChange integerMeetsWrong)

/-- 'civiltimelaw01.IntegerSolves': WHATEVER THE INPUT: true; the input reads as it did. -/
def integerSolvesSpec : ChangeSpec := { name := "integerSolves", fn := fun _ => fun
  | [d1, d2, d3] => { results := [.lit (.bool true)], args := [d1, d2, d3] }
  | _ => none }
def integerSolvesRow : OpenClaim := { program := "ytfmdgeeooohilaa", sum := "e1064e9b2bb4e2687973c7d0f2963b4fab9e0e3653d4a952edcc3683bb9189ea", func := "civiltime/civiltimelaw01.IntegerSolves", spec := "integerSolves", named := ["math/bits.divideError", "math/bits.overflowError"], apart := false }
def IntegerSolvesSaid : Prop := integerSolvesRow.holds Try.pinned (OpenSpec.ofChange integerSolvesSpec)

/-- ITS FALSE NEIGHBOUR: 'it returns false'. Refute it at one input. -/
def integerSolvesWrong : ChangeSpec := { name := "integerSolves", fn := fun _ => fun
  | [d1, d2, d3] => { results := [.lit (.bool false)], args := [d1, d2, d3] }
  | _ => none }
def IntegerSolvesWrongFalsely : Prop := integerSolvesRow.holds Try.pinned (OpenSpec.ofChange integerSolvesWrong)

/-- 'civiltimelaw01.IntegerTexts': WHATEVER THE INPUT: true; the input reads as it did. -/
def integerTextsSpec : ChangeSpec := { name := "integerTexts", fn := fun _ => fun
  | [d1, d2] => { results := [.lit (.bool true)], args := [d1, d2] }
  | _ => none }
def integerTextsRow : OpenClaim := { program := "ytfmdgeeooohilaa", sum := "e1064e9b2bb4e2687973c7d0f2963b4fab9e0e3653d4a952edcc3683bb9189ea", func := "civiltime/civiltimelaw01.IntegerTexts", spec := "integerTexts", named := ["math/bits.divideError", "math/bits.overflowError"], apart := false }
def IntegerTextsSaid : Prop := integerTextsRow.holds Try.pinned (OpenSpec.ofChange integerTextsSpec)

/-- ITS FALSE NEIGHBOUR: 'it returns false'. Refute it at one input. -/
def integerTextsWrong : ChangeSpec := { name := "integerTexts", fn := fun _ => fun
  | [d1, d2] => { results := [.lit (.bool false)], args := [d1, d2] }
  | _ => none }
def IntegerTextsWrongFalsely : Prop := integerTextsRow.holds Try.pinned (OpenSpec.ofChange integerTextsWrong)

/-- 'civiltimelaw01.IntegerDivides': WHATEVER THE INPUT: true; the input reads as it did. -/
def integerDividesSpec : ChangeSpec := { name := "integerDivides", fn := fun _ => fun
  | [d1, d2] => { results := [.lit (.bool true)], args := [d1, d2] }
  | _ => none }
def integerDividesRow : OpenClaim := { program := "ytfmdgeeooohilaa", sum := "e1064e9b2bb4e2687973c7d0f2963b4fab9e0e3653d4a952edcc3683bb9189ea", func := "civiltime/civiltimelaw01.IntegerDivides", spec := "integerDivides", named := ["math/bits.divideError", "math/bits.overflowError"], apart := false }
def IntegerDividesSaid : Prop := integerDividesRow.holds Try.pinned (OpenSpec.ofChange integerDividesSpec)

/-- ITS FALSE NEIGHBOUR: 'it returns false'. Refute it at one input. -/
def integerDividesWrong : ChangeSpec := { name := "integerDivides", fn := fun _ => fun
  | [d1, d2] => { results := [.lit (.bool false)], args := [d1, d2] }
  | _ => none }
def IntegerDividesWrongFalsely : Prop := integerDividesRow.holds Try.pinned (OpenSpec.ofChange integerDividesWrong)

/-- 'civiltimelaw01.IntegerSums': WHATEVER THE INPUT: true; the input reads as it did. -/
def integerSumsSpec : ChangeSpec := { name := "integerSums", fn := fun _ => fun
  | [d1, d2] => { results := [.lit (.bool true)], args := [d1, d2] }
  | _ => none }
def integerSumsRow : OpenClaim := { program := "ytfmdgeeooohilaa", sum := "e1064e9b2bb4e2687973c7d0f2963b4fab9e0e3653d4a952edcc3683bb9189ea", func := "civiltime/civiltimelaw01.IntegerSums", spec := "integerSums", named := ["math/bits.divideError", "math/bits.overflowError"], apart := false }
def IntegerSumsSaid : Prop := integerSumsRow.holds Try.pinned (OpenSpec.ofChange integerSumsSpec)

/-- ITS FALSE NEIGHBOUR: 'it returns false'. Refute it at one input. -/
def integerSumsWrong : ChangeSpec := { name := "integerSums", fn := fun _ => fun
  | [d1, d2] => { results := [.lit (.bool false)], args := [d1, d2] }
  | _ => none }
def IntegerSumsWrongFalsely : Prop := integerSumsRow.holds Try.pinned (OpenSpec.ofChange integerSumsWrong)

/-- 'civiltimelaw01.IntegerSteps': WHATEVER THE INPUT: true; the input reads as it did. -/
def integerStepsSpec : ChangeSpec := { name := "integerSteps", fn := fun _ => fun
  | [d1, d2] => { results := [.lit (.bool true)], args := [d1, d2] }
  | _ => none }
def integerStepsRow : OpenClaim := { program := "ytfmdgeeooohilaa", sum := "e1064e9b2bb4e2687973c7d0f2963b4fab9e0e3653d4a952edcc3683bb9189ea", func := "civiltime/civiltimelaw01.IntegerSteps", spec := "integerSteps", named := ["math/bits.divideError", "math/bits.overflowError"], apart := false }
def IntegerStepsSaid : Prop := integerStepsRow.holds Try.pinned (OpenSpec.ofChange integerStepsSpec)

/-- ITS FALSE NEIGHBOUR: 'it returns false'. Refute it at one input. -/
def integerStepsWrong : ChangeSpec := { name := "integerSteps", fn := fun _ => fun
  | [d1, d2] => { results := [.lit (.bool false)], args := [d1, d2] }
  | _ => none }
def IntegerStepsWrongFalsely : Prop := integerStepsRow.holds Try.pinned (OpenSpec.ofChange integerStepsWrong)

/-- 'civiltimelaw01.IntegerParses': WHATEVER THE INPUT: true; the input reads as it did. -/
def integerParsesSpec : ChangeSpec := { name := "integerParses", fn := fun _ => fun
  | [d] => { results := [.lit (.bool true)], args := [d] }
  | _ => none }
def integerParsesRow : OpenClaim := { program := "ytfmdgeeooohilaa", sum := "e1064e9b2bb4e2687973c7d0f2963b4fab9e0e3653d4a952edcc3683bb9189ea", func := "civiltime/civiltimelaw01.IntegerParses", spec := "integerParses", named := ["math/bits.divideError", "math/bits.overflowError"], apart := false }
def IntegerParsesSaid : Prop := integerParsesRow.holds Try.pinned (OpenSpec.ofChange integerParsesSpec)

/-- ITS FALSE NEIGHBOUR: 'it returns false'. Refute it at one input. -/
def integerParsesWrong : ChangeSpec := { name := "integerParses", fn := fun _ => fun
  | [d] => { results := [.lit (.bool false)], args := [d] }
  | _ => none }
def IntegerParsesWrongFalsely : Prop := integerParsesRow.holds Try.pinned (OpenSpec.ofChange integerParsesWrong)

/-- 'civiltimelaw01.IntegerBack': WHATEVER THE INPUT: true; the input reads as it did. -/
def integerBackSpec : ChangeSpec := { name := "integerBack", fn := fun _ => fun
  | [d1, d2] => { results := [.lit (.bool true)], args := [d1, d2] }
  | _ => none }
def integerBackRow : OpenClaim := { program := "ytfmdgeeooohilaa", sum := "e1064e9b2bb4e2687973c7d0f2963b4fab9e0e3653d4a952edcc3683bb9189ea", func := "civiltime/civiltimelaw01.IntegerBack", spec := "integerBack", named := ["math/bits.divideError", "math/bits.overflowError"], apart := false }
def IntegerBackSaid : Prop := integerBackRow.holds Try.pinned (OpenSpec.ofChange integerBackSpec)

/-- ITS FALSE NEIGHBOUR: 'it returns false'. Refute it at one input. -/
def integerBackWrong : ChangeSpec := { name := "integerBack", fn := fun _ => fun
  | [d1, d2] => { results := [.lit (.bool false)], args := [d1, d2] }
  | _ => none }
def IntegerBackWrongFalsely : Prop := integerBackRow.holds Try.pinned (OpenSpec.ofChange integerBackWrong)

/- THE SECOND FORM. 'bulk': how many values and letters a reading holds, each counted each time it is reached (what is shared counts as often as it is met; a slice's spare places count too). A statement '..UptoSaid' is the law's where the arguments, and the package variables that the reading takes, are together of bulk at most 1048576: NARROWER than '..Said'. Prove '..Said' where nothing that the law and all that it calls make is longer than what came in: it says more and counts as full. Else prove '..UptoSaid'. A law counts once. -/
mutual
def uptoBulk {H : Type} : DataW H → Nat
  | .lit (.string bytes) => bytes.length + 1
  | .lit _ => 1
  | .nil => 1
  | .ptr d => uptoBulk d + 1
  | .slice elems spare => uptoBulkAll elems + uptoBulkAll spare + 1
  | .agg parts => uptoBulkAll parts + 1
  | .iface _ d => uptoBulk d + 1
  | .map entries => uptoBulkEntries entries + 1
  | .held _ => 1
def uptoBulkAll {H : Type} : List (DataW H) → Nat
  | [] => 0
  | d :: r => uptoBulk d + uptoBulkAll r
def uptoBulkEntries {H : Type} : List (Lit × DataW H) → Nat
  | [] => 0
  | x :: r => uptoBulkEntry x + uptoBulkEntries r
def uptoBulkEntry {H : Type} : Lit × DataW H → Nat
  | (.string bytes, d) => bytes.length + uptoBulk d + 1
  | (_, d) => uptoBulk d + 1
 end
def uptoSmall : (H : Type) → List (DataW H) → Bool := fun _ ds => decide (uptoBulkAll ds ≤ 1048576)
def OpenSpec.upto (s : _root_.Go.ChangeSpec) : _root_.Go.OpenSpec := { _root_.Go.OpenSpec.ofChange s with cond := some uptoSmall }

/-- 'civiltimelaw01.IntegerDivisors', WHERE WHAT IT READS IS OF BULK AT MOST 1048576: true; the input reads as it did. -/
def integerDivisorsUptoRow : OpenClaim := { program := "ytfmdgeeooohilaa", sum := "e1064e9b2bb4e2687973c7d0f2963b4fab9e0e3653d4a952edcc3683bb9189ea", func := "civiltime/civiltimelaw01.IntegerDivisors", spec := "integerDivisors", named := ["math/bits.divideError", "math/bits.overflowError"], apart := false, narrowed := true }
def IntegerDivisorsUptoSaid : Prop := integerDivisorsUptoRow.holds Try.pinned (OpenSpec.upto integerDivisorsSpec)

/-- 'civiltimelaw01.IntegerMultiples', WHERE WHAT IT READS IS OF BULK AT MOST 1048576: true; the input reads as it did. -/
def integerMultiplesUptoRow : OpenClaim := { program := "ytfmdgeeooohilaa", sum := "e1064e9b2bb4e2687973c7d0f2963b4fab9e0e3653d4a952edcc3683bb9189ea", func := "civiltime/civiltimelaw01.IntegerMultiples", spec := "integerMultiples", named := ["math/bits.divideError", "math/bits.overflowError"], apart := false, narrowed := true }
def IntegerMultiplesUptoSaid : Prop := integerMultiplesUptoRow.holds Try.pinned (OpenSpec.upto integerMultiplesSpec)

/-- 'civiltimelaw01.IntegerMeets', WHERE WHAT IT READS IS OF BULK AT MOST 1048576: true; the input reads as it did. -/
def integerMeetsUptoRow : OpenClaim := { program := "ytfmdgeeooohilaa", sum := "e1064e9b2bb4e2687973c7d0f2963b4fab9e0e3653d4a952edcc3683bb9189ea", func := "civiltime/civiltimelaw01.IntegerMeets", spec := "integerMeets", named := ["math/bits.divideError", "math/bits.overflowError"], apart := false, narrowed := true }
def IntegerMeetsUptoSaid : Prop := integerMeetsUptoRow.holds Try.pinned (OpenSpec.upto integerMeetsSpec)

/-- 'civiltimelaw01.IntegerSolves', WHERE WHAT IT READS IS OF BULK AT MOST 1048576: true; the input reads as it did. -/
def integerSolvesUptoRow : OpenClaim := { program := "ytfmdgeeooohilaa", sum := "e1064e9b2bb4e2687973c7d0f2963b4fab9e0e3653d4a952edcc3683bb9189ea", func := "civiltime/civiltimelaw01.IntegerSolves", spec := "integerSolves", named := ["math/bits.divideError", "math/bits.overflowError"], apart := false, narrowed := true }
def IntegerSolvesUptoSaid : Prop := integerSolvesUptoRow.holds Try.pinned (OpenSpec.upto integerSolvesSpec)

/-- 'civiltimelaw01.IntegerTexts', WHERE WHAT IT READS IS OF BULK AT MOST 1048576: true; the input reads as it did. -/
def integerTextsUptoRow : OpenClaim := { program := "ytfmdgeeooohilaa", sum := "e1064e9b2bb4e2687973c7d0f2963b4fab9e0e3653d4a952edcc3683bb9189ea", func := "civiltime/civiltimelaw01.IntegerTexts", spec := "integerTexts", named := ["math/bits.divideError", "math/bits.overflowError"], apart := false, narrowed := true }
def IntegerTextsUptoSaid : Prop := integerTextsUptoRow.holds Try.pinned (OpenSpec.upto integerTextsSpec)

/-- 'civiltimelaw01.IntegerDivides', WHERE WHAT IT READS IS OF BULK AT MOST 1048576: true; the input reads as it did. -/
def integerDividesUptoRow : OpenClaim := { program := "ytfmdgeeooohilaa", sum := "e1064e9b2bb4e2687973c7d0f2963b4fab9e0e3653d4a952edcc3683bb9189ea", func := "civiltime/civiltimelaw01.IntegerDivides", spec := "integerDivides", named := ["math/bits.divideError", "math/bits.overflowError"], apart := false, narrowed := true }
def IntegerDividesUptoSaid : Prop := integerDividesUptoRow.holds Try.pinned (OpenSpec.upto integerDividesSpec)

/-- 'civiltimelaw01.IntegerSums', WHERE WHAT IT READS IS OF BULK AT MOST 1048576: true; the input reads as it did. -/
def integerSumsUptoRow : OpenClaim := { program := "ytfmdgeeooohilaa", sum := "e1064e9b2bb4e2687973c7d0f2963b4fab9e0e3653d4a952edcc3683bb9189ea", func := "civiltime/civiltimelaw01.IntegerSums", spec := "integerSums", named := ["math/bits.divideError", "math/bits.overflowError"], apart := false, narrowed := true }
def IntegerSumsUptoSaid : Prop := integerSumsUptoRow.holds Try.pinned (OpenSpec.upto integerSumsSpec)

/-- 'civiltimelaw01.IntegerSteps', WHERE WHAT IT READS IS OF BULK AT MOST 1048576: true; the input reads as it did. -/
def integerStepsUptoRow : OpenClaim := { program := "ytfmdgeeooohilaa", sum := "e1064e9b2bb4e2687973c7d0f2963b4fab9e0e3653d4a952edcc3683bb9189ea", func := "civiltime/civiltimelaw01.IntegerSteps", spec := "integerSteps", named := ["math/bits.divideError", "math/bits.overflowError"], apart := false, narrowed := true }
def IntegerStepsUptoSaid : Prop := integerStepsUptoRow.holds Try.pinned (OpenSpec.upto integerStepsSpec)

/-- 'civiltimelaw01.IntegerParses', WHERE WHAT IT READS IS OF BULK AT MOST 1048576: true; the input reads as it did. -/
def integerParsesUptoRow : OpenClaim := { program := "ytfmdgeeooohilaa", sum := "e1064e9b2bb4e2687973c7d0f2963b4fab9e0e3653d4a952edcc3683bb9189ea", func := "civiltime/civiltimelaw01.IntegerParses", spec := "integerParses", named := ["math/bits.divideError", "math/bits.overflowError"], apart := false, narrowed := true }
def IntegerParsesUptoSaid : Prop := integerParsesUptoRow.holds Try.pinned (OpenSpec.upto integerParsesSpec)

/-- 'civiltimelaw01.IntegerBack', WHERE WHAT IT READS IS OF BULK AT MOST 1048576: true; the input reads as it did. -/
def integerBackUptoRow : OpenClaim := { program := "ytfmdgeeooohilaa", sum := "e1064e9b2bb4e2687973c7d0f2963b4fab9e0e3653d4a952edcc3683bb9189ea", func := "civiltime/civiltimelaw01.IntegerBack", spec := "integerBack", named := ["math/bits.divideError", "math/bits.overflowError"], apart := false, narrowed := true }
def IntegerBackUptoSaid : Prop := integerBackUptoRow.holds Try.pinned (OpenSpec.upto integerBackSpec)

end Rows
end Go.Proofs.Ytfmdgeeooohilaa
