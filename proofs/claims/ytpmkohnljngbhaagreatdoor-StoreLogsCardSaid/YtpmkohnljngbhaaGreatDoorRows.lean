/-
  NARROWER THAN 'FOR EVERY INPUT', by the rows' own cells (each row's printed sentence says how): StoreCrashes: laid · StoreCheckpoints: laid · StoreLogs: laid · StoreValid: laid.
  DERIVED. THE GIVEN ROWS OF THIS SEAT. 4 by the template 'for every input the law returns true; each argument reads behind the call as it read before'; 0 by the template 'total and deterministic' (their statements: YtpmkohnljngbhaaGreatDoorTotals.lean).
  GIVEN WITH THE SEED: the statements are not yours to turn. If you find one false, say at which input.
  Laid BY PROGRAM, IN A SANDBOX (cutbox-rows.mjs): the forced cells as the released guide's own fill.sh prints them over the translation 2620692d515f5b1a… (all of the seat's roots in one cut). By AI agents, Wed Nov 11 2026. No macro, syntax, notation, axiom, sorry.
-/
import Derived.Test.YtpmkohnljngbhaaGreatDoorChecked
import GoSem.PinnedTables
import GoSem.Claim
import GoSem.ClaimJoined
import GoSem.ClaimMapViews
import Derived.JoinedTies
import Derived.KernelRfl
namespace Go.Proofs.YtpmkohnljngbhaaGreatDoor
/- THE CELL 'sum', in the pinned program and in every row, IS THE sha256 OF THE DUMP (.gsa) THAT YtpmkohnljngbhaaGreatDoorProg.lean LOADS. Nothing in Lean hashes anything: it is a label: what it is worth is what the hold of that sum in a sandbox is worth. -/
noncomputable def Tryz.pinned : Pinned := { name := "ytpmkohnljngbhaagreatdoor", sum := "2620692d515f5b1af79cb78687ee0dacfc6e93190743168e460103f40358b31a", checked := Tryz.checked }
namespace Rows
def none {H : Type} : Left H := { results := [], args := [] }

/- WHAT THE LISTED PACKAGE-LEVEL VARIABLES READ AS WHEN THE CALL BEGINS. Each datum BY PROGRAM (the guide's laid-datum.mjs) off the statement by which the dump's own 'gosem.cut.vars' lays the variable. In a bare row this is a premise. The card (YtpmkohnljngbhaaGreatDoorCards.lean) ties it to the program's text. -/
def laid_unicode_utf8_acceptRanges {H : Type} : DataW H := .agg [.agg [.lit (.int .u8 128), .lit (.int .u8 191)], .agg [.lit (.int .u8 160), .lit (.int .u8 191)], .agg [.lit (.int .u8 128), .lit (.int .u8 159)], .agg [.lit (.int .u8 144), .lit (.int .u8 191)], .agg [.lit (.int .u8 128), .lit (.int .u8 143)], .agg [.lit (.int .u8 0), .lit (.int .u8 0)], .agg [.lit (.int .u8 0), .lit (.int .u8 0)], .agg [.lit (.int .u8 0), .lit (.int .u8 0)], .agg [.lit (.int .u8 0), .lit (.int .u8 0)], .agg [.lit (.int .u8 0), .lit (.int .u8 0)], .agg [.lit (.int .u8 0), .lit (.int .u8 0)], .agg [.lit (.int .u8 0), .lit (.int .u8 0)], .agg [.lit (.int .u8 0), .lit (.int .u8 0)], .agg [.lit (.int .u8 0), .lit (.int .u8 0)], .agg [.lit (.int .u8 0), .lit (.int .u8 0)], .agg [.lit (.int .u8 0), .lit (.int .u8 0)]]
/-- One of Go's own tables, pinned by name: the form's constant. -/
def laid_unicode_utf8_first : DataW Unit := Go.Pinned.utf8First

/-- 'civiltimelaw51.StoreCrashes': WHATEVER THE INPUT: true; the input reads as it did. -/
def storeCrashesSpec : ChangeSpec := { name := "storeCrashes", fn := fun _ => fun
  | [d1, d2, d3] => { results := [.lit (.bool true)], args := [d1, d2, d3] }
  | _ => none }
def storeCrashesRow : OpenClaim := { program := "ytpmkohnljngbhaagreatdoor", sum := "2620692d515f5b1af79cb78687ee0dacfc6e93190743168e460103f40358b31a", func := "civiltime/civiltimelaw51.StoreCrashes", spec := "storeCrashes", inPlace := ["internal/bytealg.Compare"], unfollowed := true, recurses := true, named := ["unicode/utf8.first", "unicode/utf8.acceptRanges"], apart := false, laid := [("unicode/utf8.acceptRanges", laid_unicode_utf8_acceptRanges), ("unicode/utf8.first", laid_unicode_utf8_first)] }
def StoreCrashesSaid : Prop := storeCrashesRow.holds Tryz.pinned (OpenSpec.ofChange storeCrashesSpec)

/-- ITS FALSE NEIGHBOUR: 'it returns false'. Refute it at one input. -/
def storeCrashesWrong : ChangeSpec := { name := "storeCrashes", fn := fun _ => fun
  | [d1, d2, d3] => { results := [.lit (.bool false)], args := [d1, d2, d3] }
  | _ => none }
def StoreCrashesWrongFalsely : Prop := storeCrashesRow.holds Tryz.pinned (OpenSpec.ofChange storeCrashesWrong)

/-- 'civiltimelaw51.StoreCheckpoints': WHATEVER THE INPUT: true; the input reads as it did. -/
def storeCheckpointsSpec : ChangeSpec := { name := "storeCheckpoints", fn := fun _ => fun
  | [d] => { results := [.lit (.bool true)], args := [d] }
  | _ => none }
def storeCheckpointsRow : OpenClaim := { program := "ytpmkohnljngbhaagreatdoor", sum := "2620692d515f5b1af79cb78687ee0dacfc6e93190743168e460103f40358b31a", func := "civiltime/civiltimelaw51.StoreCheckpoints", spec := "storeCheckpoints", inPlace := ["internal/bytealg.Compare"], unfollowed := true, recurses := true, named := ["unicode/utf8.first", "unicode/utf8.acceptRanges"], apart := false, laid := [("unicode/utf8.acceptRanges", laid_unicode_utf8_acceptRanges), ("unicode/utf8.first", laid_unicode_utf8_first)] }
def StoreCheckpointsSaid : Prop := storeCheckpointsRow.holds Tryz.pinned (OpenSpec.ofChange storeCheckpointsSpec)

/-- ITS FALSE NEIGHBOUR: 'it returns false'. Refute it at one input. -/
def storeCheckpointsWrong : ChangeSpec := { name := "storeCheckpoints", fn := fun _ => fun
  | [d] => { results := [.lit (.bool false)], args := [d] }
  | _ => none }
def StoreCheckpointsWrongFalsely : Prop := storeCheckpointsRow.holds Tryz.pinned (OpenSpec.ofChange storeCheckpointsWrong)

/-- 'civiltimelaw51.StoreLogs': WHATEVER THE INPUT: true; the input reads as it did. -/
def storeLogsSpec : ChangeSpec := { name := "storeLogs", fn := fun _ => fun
  | [d1, d2] => { results := [.lit (.bool true)], args := [d1, d2] }
  | _ => none }
def storeLogsRow : OpenClaim := { program := "ytpmkohnljngbhaagreatdoor", sum := "2620692d515f5b1af79cb78687ee0dacfc6e93190743168e460103f40358b31a", func := "civiltime/civiltimelaw51.StoreLogs", spec := "storeLogs", inPlace := ["internal/bytealg.Compare"], unfollowed := true, recurses := true, named := ["unicode/utf8.first", "unicode/utf8.acceptRanges"], apart := false, laid := [("unicode/utf8.acceptRanges", laid_unicode_utf8_acceptRanges), ("unicode/utf8.first", laid_unicode_utf8_first)] }
def StoreLogsSaid : Prop := storeLogsRow.holds Tryz.pinned (OpenSpec.ofChange storeLogsSpec)

/-- ITS FALSE NEIGHBOUR: 'it returns false'. Refute it at one input. -/
def storeLogsWrong : ChangeSpec := { name := "storeLogs", fn := fun _ => fun
  | [d1, d2] => { results := [.lit (.bool false)], args := [d1, d2] }
  | _ => none }
def StoreLogsWrongFalsely : Prop := storeLogsRow.holds Tryz.pinned (OpenSpec.ofChange storeLogsWrong)

/-- 'civiltimelaw51.StoreValid': WHATEVER THE INPUT: true; the input reads as it did. -/
def storeValidSpec : ChangeSpec := { name := "storeValid", fn := fun _ => fun
  | [d1, d2, d3, d4] => { results := [.lit (.bool true)], args := [d1, d2, d3, d4] }
  | _ => none }
def storeValidRow : OpenClaim := { program := "ytpmkohnljngbhaagreatdoor", sum := "2620692d515f5b1af79cb78687ee0dacfc6e93190743168e460103f40358b31a", func := "civiltime/civiltimelaw51.StoreValid", spec := "storeValid", inPlace := ["internal/bytealg.Compare"], unfollowed := true, recurses := true, named := ["unicode/utf8.first", "unicode/utf8.acceptRanges"], apart := false, laid := [("unicode/utf8.acceptRanges", laid_unicode_utf8_acceptRanges), ("unicode/utf8.first", laid_unicode_utf8_first)] }
def StoreValidSaid : Prop := storeValidRow.holds Tryz.pinned (OpenSpec.ofChange storeValidSpec)

/-- ITS FALSE NEIGHBOUR: 'it returns false'. Refute it at one input. -/
def storeValidWrong : ChangeSpec := { name := "storeValid", fn := fun _ => fun
  | [d1, d2, d3, d4] => { results := [.lit (.bool false)], args := [d1, d2, d3, d4] }
  | _ => none }
def StoreValidWrongFalsely : Prop := storeValidRow.holds Tryz.pinned (OpenSpec.ofChange storeValidWrong)

/- THE SECOND FORM. 'bulk': how many values and letters a reading holds, each counted each time it is reached (what is shared counts as often as it is met; a slice's spare places count too). A statement '..UptoSaid' is the law's where the arguments, and the package variables that the reading takes, are together of bulk at most 1048576: NARROWER than '..Said'. Prove '..Said' where nothing that the law and all that it calls make is longer than what came in: it says more and counts as full. Else prove '..UptoSaid'. A law counts once. -/
mutual
def uptoBulk {H : Type} : DataW H → Nat
  | .lit (.string bytes) => bytes.length + 1
  | .lit _ => 1
  | .nil => 1
  | .ptr d => uptoBulk d + 1
  | .slice elems spare => uptoBulkAll elems + uptoBulkAll spare + 1
  | .agg parts => uptoBulkAll parts + 1
  | .iface _ d => uptoBulk d + 1
  | .map entries => uptoBulkEntries entries + 1
  | .held _ => 1
def uptoBulkAll {H : Type} : List (DataW H) → Nat
  | [] => 0
  | d :: r => uptoBulk d + uptoBulkAll r
def uptoBulkEntries {H : Type} : List (Lit × DataW H) → Nat
  | [] => 0
  | x :: r => uptoBulkEntry x + uptoBulkEntries r
def uptoBulkEntry {H : Type} : Lit × DataW H → Nat
  | (.string bytes, d) => bytes.length + uptoBulk d + 1
  | (_, d) => uptoBulk d + 1
 end
def uptoSmall : (H : Type) → List (DataW H) → Bool := fun _ ds => decide (uptoBulkAll ds ≤ 1048576)
def OpenSpec.upto (s : _root_.Go.ChangeSpec) : _root_.Go.OpenSpec := { _root_.Go.OpenSpec.ofChange s with cond := some uptoSmall }

/-- 'civiltimelaw51.StoreCrashes', WHERE WHAT IT READS IS OF BULK AT MOST 1048576: true; the input reads as it did. -/
def storeCrashesUptoRow : OpenClaim := { program := "ytpmkohnljngbhaagreatdoor", sum := "2620692d515f5b1af79cb78687ee0dacfc6e93190743168e460103f40358b31a", func := "civiltime/civiltimelaw51.StoreCrashes", spec := "storeCrashes", inPlace := ["internal/bytealg.Compare"], unfollowed := true, recurses := true, named := ["unicode/utf8.first", "unicode/utf8.acceptRanges"], apart := false, laid := [("unicode/utf8.acceptRanges", laid_unicode_utf8_acceptRanges), ("unicode/utf8.first", laid_unicode_utf8_first)], narrowed := true }
def StoreCrashesUptoSaid : Prop := storeCrashesUptoRow.holds Tryz.pinned (OpenSpec.upto storeCrashesSpec)

/-- 'civiltimelaw51.StoreCheckpoints', WHERE WHAT IT READS IS OF BULK AT MOST 1048576: true; the input reads as it did. -/
def storeCheckpointsUptoRow : OpenClaim := { program := "ytpmkohnljngbhaagreatdoor", sum := "2620692d515f5b1af79cb78687ee0dacfc6e93190743168e460103f40358b31a", func := "civiltime/civiltimelaw51.StoreCheckpoints", spec := "storeCheckpoints", inPlace := ["internal/bytealg.Compare"], unfollowed := true, recurses := true, named := ["unicode/utf8.first", "unicode/utf8.acceptRanges"], apart := false, laid := [("unicode/utf8.acceptRanges", laid_unicode_utf8_acceptRanges), ("unicode/utf8.first", laid_unicode_utf8_first)], narrowed := true }
def StoreCheckpointsUptoSaid : Prop := storeCheckpointsUptoRow.holds Tryz.pinned (OpenSpec.upto storeCheckpointsSpec)

/-- 'civiltimelaw51.StoreLogs', WHERE WHAT IT READS IS OF BULK AT MOST 1048576: true; the input reads as it did. -/
def storeLogsUptoRow : OpenClaim := { program := "ytpmkohnljngbhaagreatdoor", sum := "2620692d515f5b1af79cb78687ee0dacfc6e93190743168e460103f40358b31a", func := "civiltime/civiltimelaw51.StoreLogs", spec := "storeLogs", inPlace := ["internal/bytealg.Compare"], unfollowed := true, recurses := true, named := ["unicode/utf8.first", "unicode/utf8.acceptRanges"], apart := false, laid := [("unicode/utf8.acceptRanges", laid_unicode_utf8_acceptRanges), ("unicode/utf8.first", laid_unicode_utf8_first)], narrowed := true }
def StoreLogsUptoSaid : Prop := storeLogsUptoRow.holds Tryz.pinned (OpenSpec.upto storeLogsSpec)

/-- 'civiltimelaw51.StoreValid', WHERE WHAT IT READS IS OF BULK AT MOST 1048576: true; the input reads as it did. -/
def storeValidUptoRow : OpenClaim := { program := "ytpmkohnljngbhaagreatdoor", sum := "2620692d515f5b1af79cb78687ee0dacfc6e93190743168e460103f40358b31a", func := "civiltime/civiltimelaw51.StoreValid", spec := "storeValid", inPlace := ["internal/bytealg.Compare"], unfollowed := true, recurses := true, named := ["unicode/utf8.first", "unicode/utf8.acceptRanges"], apart := false, laid := [("unicode/utf8.acceptRanges", laid_unicode_utf8_acceptRanges), ("unicode/utf8.first", laid_unicode_utf8_first)], narrowed := true }
def StoreValidUptoSaid : Prop := storeValidUptoRow.holds Tryz.pinned (OpenSpec.upto storeValidSpec)

end Rows
end Go.Proofs.YtpmkohnljngbhaaGreatDoor
