/-
  No cell of these rows narrows 'for every input' (looked for: loops, veiled, ifaces, maps, wideKeys, modest, calm, conditions, laid).
  DERIVED. THE GIVEN ROWS OF THIS SEAT. 10 by the template 'for every input the law returns true; each argument reads behind the call as it read before'; 0 by the template 'total and deterministic' (their statements: YtfkeedeiafegiaaTotals.lean).
  GIVEN WITH THE SEED: the statements are not yours to turn. If you find one false, say at which input.
  Laid BY PROGRAM, IN A SANDBOX (cutbox-rows.mjs): the forced cells as the released guide's own fill.sh prints them over the translation e6abbb57734523c0… (all of the seat's roots in one cut). By AI agents, Wed Nov 11 2026. No macro, syntax, notation, axiom, sorry.
-/
import Derived.Test.YtfkeedeiafegiaaChecked
import GoSem.Claim
import GoSem.ClaimJoined
import GoSem.ClaimMapViews
import Derived.JoinedTies
import Derived.KernelRfl
namespace Go.Proofs.Ytfkeedeiafegiaa
/- THE CELL 'sum', in the pinned program and in every row, IS THE sha256 OF THE DUMP (.gsa) THAT YtfkeedeiafegiaaProg.lean LOADS. Nothing in Lean hashes anything: it is a label: what it is worth is what the hold of that sum in a sandbox is worth. -/
noncomputable def Try.pinned : Pinned := { name := "ytfkeedeiafegiaa", sum := "e6abbb57734523c09c6f526b05980a72a6bf683adb3045ecb56b38321e510b3c", checked := Try.checked }
namespace Rows
def none {H : Type} : Left H := { results := [], args := [] }

/-- 'civiltimelaw50.WalEncodes': WHATEVER THE INPUT: true; the input reads as it did. -/
def walEncodesSpec : ChangeSpec := { name := "walEncodes", fn := fun _ => fun
  | [d] => { results := [.lit (.bool true)], args := [d] }
  | _ => none }
def walEncodesRow : OpenClaim := { program := "ytfkeedeiafegiaa", sum := "e6abbb57734523c09c6f526b05980a72a6bf683adb3045ecb56b38321e510b3c", func := "civiltime/civiltimelaw50.WalEncodes", spec := "walEncodes", unfollowed := true, recurses := true, apart := false }
def WalEncodesSaid : Prop := walEncodesRow.holds Try.pinned (OpenSpec.ofChange walEncodesSpec)

/-- ITS FALSE NEIGHBOUR: 'it returns false'. Refute it at one input. -/
def walEncodesWrong : ChangeSpec := { name := "walEncodes", fn := fun _ => fun
  | [d] => { results := [.lit (.bool false)], args := [d] }
  | _ => none }
def WalEncodesWrongFalsely : Prop := walEncodesRow.holds Try.pinned (OpenSpec.ofChange walEncodesWrong)

/-- 'civiltimelaw50.WalReads': WHATEVER THE INPUT: true; the input reads as it did. -/
def walReadsSpec : ChangeSpec := { name := "walReads", fn := fun _ => fun
  | [d1, d2] => { results := [.lit (.bool true)], args := [d1, d2] }
  | _ => none }
def walReadsRow : OpenClaim := { program := "ytfkeedeiafegiaa", sum := "e6abbb57734523c09c6f526b05980a72a6bf683adb3045ecb56b38321e510b3c", func := "civiltime/civiltimelaw50.WalReads", spec := "walReads", unfollowed := true, recurses := true, apart := false }
def WalReadsSaid : Prop := walReadsRow.holds Try.pinned (OpenSpec.ofChange walReadsSpec)

/-- ITS FALSE NEIGHBOUR: 'it returns false'. Refute it at one input. -/
def walReadsWrong : ChangeSpec := { name := "walReads", fn := fun _ => fun
  | [d1, d2] => { results := [.lit (.bool false)], args := [d1, d2] }
  | _ => none }
def WalReadsWrongFalsely : Prop := walReadsRow.holds Try.pinned (OpenSpec.ofChange walReadsWrong)

/-- 'civiltimelaw50.WalAppends': WHATEVER THE INPUT: true; the input reads as it did. -/
def walAppendsSpec : ChangeSpec := { name := "walAppends", fn := fun _ => fun
  | [d1, d2, d3] => { results := [.lit (.bool true)], args := [d1, d2, d3] }
  | _ => none }
def walAppendsRow : OpenClaim := { program := "ytfkeedeiafegiaa", sum := "e6abbb57734523c09c6f526b05980a72a6bf683adb3045ecb56b38321e510b3c", func := "civiltime/civiltimelaw50.WalAppends", spec := "walAppends", unfollowed := true, recurses := true, apart := false }
def WalAppendsSaid : Prop := walAppendsRow.holds Try.pinned (OpenSpec.ofChange walAppendsSpec)

/-- ITS FALSE NEIGHBOUR: 'it returns false'. Refute it at one input. -/
def walAppendsWrong : ChangeSpec := { name := "walAppends", fn := fun _ => fun
  | [d1, d2, d3] => { results := [.lit (.bool false)], args := [d1, d2, d3] }
  | _ => none }
def WalAppendsWrongFalsely : Prop := walAppendsRow.holds Try.pinned (OpenSpec.ofChange walAppendsWrong)

/-- 'civiltimelaw50.WalCommits': WHATEVER THE INPUT: true; the input reads as it did. -/
def walCommitsSpec : ChangeSpec := { name := "walCommits", fn := fun _ => fun
  | [d1, d2] => { results := [.lit (.bool true)], args := [d1, d2] }
  | _ => none }
def walCommitsRow : OpenClaim := { program := "ytfkeedeiafegiaa", sum := "e6abbb57734523c09c6f526b05980a72a6bf683adb3045ecb56b38321e510b3c", func := "civiltime/civiltimelaw50.WalCommits", spec := "walCommits", unfollowed := true, recurses := true, apart := false }
def WalCommitsSaid : Prop := walCommitsRow.holds Try.pinned (OpenSpec.ofChange walCommitsSpec)

/-- ITS FALSE NEIGHBOUR: 'it returns false'. Refute it at one input. -/
def walCommitsWrong : ChangeSpec := { name := "walCommits", fn := fun _ => fun
  | [d1, d2] => { results := [.lit (.bool false)], args := [d1, d2] }
  | _ => none }
def WalCommitsWrongFalsely : Prop := walCommitsRow.holds Try.pinned (OpenSpec.ofChange walCommitsWrong)

/-- 'civiltimelaw50.WalPrefix': WHATEVER THE INPUT: true; the input reads as it did. -/
def walPrefixSpec : ChangeSpec := { name := "walPrefix", fn := fun _ => fun
  | [d1, d2] => { results := [.lit (.bool true)], args := [d1, d2] }
  | _ => none }
def walPrefixRow : OpenClaim := { program := "ytfkeedeiafegiaa", sum := "e6abbb57734523c09c6f526b05980a72a6bf683adb3045ecb56b38321e510b3c", func := "civiltime/civiltimelaw50.WalPrefix", spec := "walPrefix", unfollowed := true, recurses := true, apart := false }
def WalPrefixSaid : Prop := walPrefixRow.holds Try.pinned (OpenSpec.ofChange walPrefixSpec)

/-- ITS FALSE NEIGHBOUR: 'it returns false'. Refute it at one input. -/
def walPrefixWrong : ChangeSpec := { name := "walPrefix", fn := fun _ => fun
  | [d1, d2] => { results := [.lit (.bool false)], args := [d1, d2] }
  | _ => none }
def WalPrefixWrongFalsely : Prop := walPrefixRow.holds Try.pinned (OpenSpec.ofChange walPrefixWrong)

/-- 'civiltimelaw50.WalDamage': WHATEVER THE INPUT: true; the input reads as it did. -/
def walDamageSpec : ChangeSpec := { name := "walDamage", fn := fun _ => fun
  | [d1, d2, d3] => { results := [.lit (.bool true)], args := [d1, d2, d3] }
  | _ => none }
def walDamageRow : OpenClaim := { program := "ytfkeedeiafegiaa", sum := "e6abbb57734523c09c6f526b05980a72a6bf683adb3045ecb56b38321e510b3c", func := "civiltime/civiltimelaw50.WalDamage", spec := "walDamage", unfollowed := true, recurses := true, apart := false }
def WalDamageSaid : Prop := walDamageRow.holds Try.pinned (OpenSpec.ofChange walDamageSpec)

/-- ITS FALSE NEIGHBOUR: 'it returns false'. Refute it at one input. -/
def walDamageWrong : ChangeSpec := { name := "walDamage", fn := fun _ => fun
  | [d1, d2, d3] => { results := [.lit (.bool false)], args := [d1, d2, d3] }
  | _ => none }
def WalDamageWrongFalsely : Prop := walDamageRow.holds Try.pinned (OpenSpec.ofChange walDamageWrong)

/-- 'civiltimelaw50.WalBack': WHATEVER THE INPUT: true; the input reads as it did. -/
def walBackSpec : ChangeSpec := { name := "walBack", fn := fun _ => fun
  | [d] => { results := [.lit (.bool true)], args := [d] }
  | _ => none }
def walBackRow : OpenClaim := { program := "ytfkeedeiafegiaa", sum := "e6abbb57734523c09c6f526b05980a72a6bf683adb3045ecb56b38321e510b3c", func := "civiltime/civiltimelaw50.WalBack", spec := "walBack", unfollowed := true, recurses := true, apart := false }
def WalBackSaid : Prop := walBackRow.holds Try.pinned (OpenSpec.ofChange walBackSpec)

/-- ITS FALSE NEIGHBOUR: 'it returns false'. Refute it at one input. -/
def walBackWrong : ChangeSpec := { name := "walBack", fn := fun _ => fun
  | [d] => { results := [.lit (.bool false)], args := [d] }
  | _ => none }
def WalBackWrongFalsely : Prop := walBackRow.holds Try.pinned (OpenSpec.ofChange walBackWrong)

/-- 'civiltimelaw50.WalOwn': WHATEVER THE INPUT: true; the input reads as it did. -/
def walOwnSpec : ChangeSpec := { name := "walOwn", fn := fun _ => fun
  | [d1, d2] => { results := [.lit (.bool true)], args := [d1, d2] }
  | _ => none }
def walOwnRow : OpenClaim := { program := "ytfkeedeiafegiaa", sum := "e6abbb57734523c09c6f526b05980a72a6bf683adb3045ecb56b38321e510b3c", func := "civiltime/civiltimelaw50.WalOwn", spec := "walOwn", unfollowed := true, recurses := true, apart := false }
def WalOwnSaid : Prop := walOwnRow.holds Try.pinned (OpenSpec.ofChange walOwnSpec)

/-- ITS FALSE NEIGHBOUR: 'it returns false'. Refute it at one input. -/
def walOwnWrong : ChangeSpec := { name := "walOwn", fn := fun _ => fun
  | [d1, d2] => { results := [.lit (.bool false)], args := [d1, d2] }
  | _ => none }
def WalOwnWrongFalsely : Prop := walOwnRow.holds Try.pinned (OpenSpec.ofChange walOwnWrong)

/-- 'civiltimelaw50.WalMends': WHATEVER THE INPUT: true; the input reads as it did. -/
def walMendsSpec : ChangeSpec := { name := "walMends", fn := fun _ => fun
  | [d1, d2, d3, d4] => { results := [.lit (.bool true)], args := [d1, d2, d3, d4] }
  | _ => none }
def walMendsRow : OpenClaim := { program := "ytfkeedeiafegiaa", sum := "e6abbb57734523c09c6f526b05980a72a6bf683adb3045ecb56b38321e510b3c", func := "civiltime/civiltimelaw50.WalMends", spec := "walMends", unfollowed := true, recurses := true, apart := false }
def WalMendsSaid : Prop := walMendsRow.holds Try.pinned (OpenSpec.ofChange walMendsSpec)

/-- ITS FALSE NEIGHBOUR: 'it returns false'. Refute it at one input. -/
def walMendsWrong : ChangeSpec := { name := "walMends", fn := fun _ => fun
  | [d1, d2, d3, d4] => { results := [.lit (.bool false)], args := [d1, d2, d3, d4] }
  | _ => none }
def WalMendsWrongFalsely : Prop := walMendsRow.holds Try.pinned (OpenSpec.ofChange walMendsWrong)

/-- 'civiltimelaw50.WalKeeps': WHATEVER THE INPUT: true; the input reads as it did. -/
def walKeepsSpec : ChangeSpec := { name := "walKeeps", fn := fun _ => fun
  | [d1, d2, d3] => { results := [.lit (.bool true)], args := [d1, d2, d3] }
  | _ => none }
def walKeepsRow : OpenClaim := { program := "ytfkeedeiafegiaa", sum := "e6abbb57734523c09c6f526b05980a72a6bf683adb3045ecb56b38321e510b3c", func := "civiltime/civiltimelaw50.WalKeeps", spec := "walKeeps", unfollowed := true, recurses := true, apart := false }
def WalKeepsSaid : Prop := walKeepsRow.holds Try.pinned (OpenSpec.ofChange walKeepsSpec)

/-- ITS FALSE NEIGHBOUR: 'it returns false'. Refute it at one input. -/
def walKeepsWrong : ChangeSpec := { name := "walKeeps", fn := fun _ => fun
  | [d1, d2, d3] => { results := [.lit (.bool false)], args := [d1, d2, d3] }
  | _ => none }
def WalKeepsWrongFalsely : Prop := walKeepsRow.holds Try.pinned (OpenSpec.ofChange walKeepsWrong)

/- THE SECOND FORM. 'bulk': how many values and letters a reading holds, each counted each time it is reached (what is shared counts as often as it is met; a slice's spare places count too). A statement '..UptoSaid' is the law's where the arguments, and the package variables that the reading takes, are together of bulk at most 1048576: NARROWER than '..Said'. Prove '..Said' where nothing that the law and all that it calls make is longer than what came in: it says more and counts as full. Else prove '..UptoSaid'. A law counts once. -/
mutual
def uptoBulk {H : Type} : DataW H → Nat
  | .lit (.string bytes) => bytes.length + 1
  | .lit _ => 1
  | .nil => 1
  | .ptr d => uptoBulk d + 1
  | .slice elems spare => uptoBulkAll elems + uptoBulkAll spare + 1
  | .agg parts => uptoBulkAll parts + 1
  | .iface _ d => uptoBulk d + 1
  | .map entries => uptoBulkEntries entries + 1
  | .held _ => 1
def uptoBulkAll {H : Type} : List (DataW H) → Nat
  | [] => 0
  | d :: r => uptoBulk d + uptoBulkAll r
def uptoBulkEntries {H : Type} : List (Lit × DataW H) → Nat
  | [] => 0
  | x :: r => uptoBulkEntry x + uptoBulkEntries r
def uptoBulkEntry {H : Type} : Lit × DataW H → Nat
  | (.string bytes, d) => bytes.length + uptoBulk d + 1
  | (_, d) => uptoBulk d + 1
 end
def uptoSmall : (H : Type) → List (DataW H) → Bool := fun _ ds => decide (uptoBulkAll ds ≤ 1048576)
def OpenSpec.upto (s : _root_.Go.ChangeSpec) : _root_.Go.OpenSpec := { _root_.Go.OpenSpec.ofChange s with cond := some uptoSmall }

/-- 'civiltimelaw50.WalEncodes', WHERE WHAT IT READS IS OF BULK AT MOST 1048576: true; the input reads as it did. -/
def walEncodesUptoRow : OpenClaim := { program := "ytfkeedeiafegiaa", sum := "e6abbb57734523c09c6f526b05980a72a6bf683adb3045ecb56b38321e510b3c", func := "civiltime/civiltimelaw50.WalEncodes", spec := "walEncodes", unfollowed := true, recurses := true, apart := false, narrowed := true }
def WalEncodesUptoSaid : Prop := walEncodesUptoRow.holds Try.pinned (OpenSpec.upto walEncodesSpec)

/-- 'civiltimelaw50.WalReads', WHERE WHAT IT READS IS OF BULK AT MOST 1048576: true; the input reads as it did. -/
def walReadsUptoRow : OpenClaim := { program := "ytfkeedeiafegiaa", sum := "e6abbb57734523c09c6f526b05980a72a6bf683adb3045ecb56b38321e510b3c", func := "civiltime/civiltimelaw50.WalReads", spec := "walReads", unfollowed := true, recurses := true, apart := false, narrowed := true }
def WalReadsUptoSaid : Prop := walReadsUptoRow.holds Try.pinned (OpenSpec.upto walReadsSpec)

/-- 'civiltimelaw50.WalAppends', WHERE WHAT IT READS IS OF BULK AT MOST 1048576: true; the input reads as it did. -/
def walAppendsUptoRow : OpenClaim := { program := "ytfkeedeiafegiaa", sum := "e6abbb57734523c09c6f526b05980a72a6bf683adb3045ecb56b38321e510b3c", func := "civiltime/civiltimelaw50.WalAppends", spec := "walAppends", unfollowed := true, recurses := true, apart := false, narrowed := true }
def WalAppendsUptoSaid : Prop := walAppendsUptoRow.holds Try.pinned (OpenSpec.upto walAppendsSpec)

/-- 'civiltimelaw50.WalCommits', WHERE WHAT IT READS IS OF BULK AT MOST 1048576: true; the input reads as it did. -/
def walCommitsUptoRow : OpenClaim := { program := "ytfkeedeiafegiaa", sum := "e6abbb57734523c09c6f526b05980a72a6bf683adb3045ecb56b38321e510b3c", func := "civiltime/civiltimelaw50.WalCommits", spec := "walCommits", unfollowed := true, recurses := true, apart := false, narrowed := true }
def WalCommitsUptoSaid : Prop := walCommitsUptoRow.holds Try.pinned (OpenSpec.upto walCommitsSpec)

/-- 'civiltimelaw50.WalPrefix', WHERE WHAT IT READS IS OF BULK AT MOST 1048576: true; the input reads as it did. -/
def walPrefixUptoRow : OpenClaim := { program := "ytfkeedeiafegiaa", sum := "e6abbb57734523c09c6f526b05980a72a6bf683adb3045ecb56b38321e510b3c", func := "civiltime/civiltimelaw50.WalPrefix", spec := "walPrefix", unfollowed := true, recurses := true, apart := false, narrowed := true }
def WalPrefixUptoSaid : Prop := walPrefixUptoRow.holds Try.pinned (OpenSpec.upto walPrefixSpec)

/-- 'civiltimelaw50.WalDamage', WHERE WHAT IT READS IS OF BULK AT MOST 1048576: true; the input reads as it did. -/
def walDamageUptoRow : OpenClaim := { program := "ytfkeedeiafegiaa", sum := "e6abbb57734523c09c6f526b05980a72a6bf683adb3045ecb56b38321e510b3c", func := "civiltime/civiltimelaw50.WalDamage", spec := "walDamage", unfollowed := true, recurses := true, apart := false, narrowed := true }
def WalDamageUptoSaid : Prop := walDamageUptoRow.holds Try.pinned (OpenSpec.upto walDamageSpec)

/-- 'civiltimelaw50.WalBack', WHERE WHAT IT READS IS OF BULK AT MOST 1048576: true; the input reads as it did. -/
def walBackUptoRow : OpenClaim := { program := "ytfkeedeiafegiaa", sum := "e6abbb57734523c09c6f526b05980a72a6bf683adb3045ecb56b38321e510b3c", func := "civiltime/civiltimelaw50.WalBack", spec := "walBack", unfollowed := true, recurses := true, apart := false, narrowed := true }
def WalBackUptoSaid : Prop := walBackUptoRow.holds Try.pinned (OpenSpec.upto walBackSpec)

/-- 'civiltimelaw50.WalOwn', WHERE WHAT IT READS IS OF BULK AT MOST 1048576: true; the input reads as it did. -/
def walOwnUptoRow : OpenClaim := { program := "ytfkeedeiafegiaa", sum := "e6abbb57734523c09c6f526b05980a72a6bf683adb3045ecb56b38321e510b3c", func := "civiltime/civiltimelaw50.WalOwn", spec := "walOwn", unfollowed := true, recurses := true, apart := false, narrowed := true }
def WalOwnUptoSaid : Prop := walOwnUptoRow.holds Try.pinned (OpenSpec.upto walOwnSpec)

/-- 'civiltimelaw50.WalMends', WHERE WHAT IT READS IS OF BULK AT MOST 1048576: true; the input reads as it did. -/
def walMendsUptoRow : OpenClaim := { program := "ytfkeedeiafegiaa", sum := "e6abbb57734523c09c6f526b05980a72a6bf683adb3045ecb56b38321e510b3c", func := "civiltime/civiltimelaw50.WalMends", spec := "walMends", unfollowed := true, recurses := true, apart := false, narrowed := true }
def WalMendsUptoSaid : Prop := walMendsUptoRow.holds Try.pinned (OpenSpec.upto walMendsSpec)

/-- 'civiltimelaw50.WalKeeps', WHERE WHAT IT READS IS OF BULK AT MOST 1048576: true; the input reads as it did. -/
def walKeepsUptoRow : OpenClaim := { program := "ytfkeedeiafegiaa", sum := "e6abbb57734523c09c6f526b05980a72a6bf683adb3045ecb56b38321e510b3c", func := "civiltime/civiltimelaw50.WalKeeps", spec := "walKeeps", unfollowed := true, recurses := true, apart := false, narrowed := true }
def WalKeepsUptoSaid : Prop := walKeepsUptoRow.holds Try.pinned (OpenSpec.upto walKeepsSpec)

end Rows
end Go.Proofs.Ytfkeedeiafegiaa
