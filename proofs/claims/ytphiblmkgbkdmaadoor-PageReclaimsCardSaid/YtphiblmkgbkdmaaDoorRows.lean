/-
  NARROWER THAN 'FOR EVERY INPUT', by the rows' own cells (each row's printed sentence says how): PageSums: laid · PageRaw: laid · PageSizes: laid · PageKeeps: laid · PageOrder: laid · PageDamage: laid · PageMaps: laid · PageReclaims: laid.
  DERIVED. THE GIVEN ROWS OF THIS SEAT. 8 by the template 'for every input the law returns true; each argument reads behind the call as it read before'; 0 by the template 'total and deterministic' (their statements: YtphiblmkgbkdmaaDoorTotals.lean).
  GIVEN WITH THE SEED: the statements are not yours to turn. If you find one false, say at which input.
  Laid BY PROGRAM, IN A SANDBOX (cutbox-rows.mjs): the forced cells as the released guide's own fill.sh prints them over the translation 68c90c5eb37939c4… (all of the seat's roots in one cut). By AI agents, Wed Nov 11 2026. No macro, syntax, notation, axiom, sorry.
-/
import Derived.Test.YtphiblmkgbkdmaaDoorChecked
import GoSem.PinnedTables
import GoSem.Claim
import GoSem.ClaimJoined
import GoSem.ClaimMapViews
import Derived.JoinedTies
import Derived.KernelRfl
namespace Go.Proofs.YtphiblmkgbkdmaaDoor
/- THE CELL 'sum', in the pinned program and in every row, IS THE sha256 OF THE DUMP (.gsa) THAT YtphiblmkgbkdmaaDoorProg.lean LOADS. Nothing in Lean hashes anything: it is a label: what it is worth is what the hold of that sum in a sandbox is worth. -/
noncomputable def Tryd.pinned : Pinned := { name := "ytphiblmkgbkdmaadoor", sum := "68c90c5eb37939c4585e2024e653bce2d58bfafc601e6400f70d44638d40e1e6", checked := Tryd.checked }
namespace Rows
def none {H : Type} : Left H := { results := [], args := [] }

/- WHAT THE LISTED PACKAGE-LEVEL VARIABLES READ AS WHEN THE CALL BEGINS. Each datum BY PROGRAM (the guide's laid-datum.mjs) off the statement by which the dump's own 'gosem.cut.vars' lays the variable. In a bare row this is a premise. The card (YtphiblmkgbkdmaaDoorCards.lean) ties it to the program's text. -/
def laid_unicode_utf8_acceptRanges {H : Type} : DataW H := .agg [.agg [.lit (.int .u8 128), .lit (.int .u8 191)], .agg [.lit (.int .u8 160), .lit (.int .u8 191)], .agg [.lit (.int .u8 128), .lit (.int .u8 159)], .agg [.lit (.int .u8 144), .lit (.int .u8 191)], .agg [.lit (.int .u8 128), .lit (.int .u8 143)], .agg [.lit (.int .u8 0), .lit (.int .u8 0)], .agg [.lit (.int .u8 0), .lit (.int .u8 0)], .agg [.lit (.int .u8 0), .lit (.int .u8 0)], .agg [.lit (.int .u8 0), .lit (.int .u8 0)], .agg [.lit (.int .u8 0), .lit (.int .u8 0)], .agg [.lit (.int .u8 0), .lit (.int .u8 0)], .agg [.lit (.int .u8 0), .lit (.int .u8 0)], .agg [.lit (.int .u8 0), .lit (.int .u8 0)], .agg [.lit (.int .u8 0), .lit (.int .u8 0)], .agg [.lit (.int .u8 0), .lit (.int .u8 0)], .agg [.lit (.int .u8 0), .lit (.int .u8 0)]]
/-- One of Go's own tables, pinned by name: the form's constant. -/
def laid_unicode_utf8_first : DataW Unit := Go.Pinned.utf8First

/-- 'civiltimelaw49.PageSums': WHATEVER THE INPUT: true; the input reads as it did. -/
def pageSumsSpec : ChangeSpec := { name := "pageSums", fn := fun _ => fun
  | [d] => { results := [.lit (.bool true)], args := [d] }
  | _ => none }
def pageSumsRow : OpenClaim := { program := "ytphiblmkgbkdmaadoor", sum := "68c90c5eb37939c4585e2024e653bce2d58bfafc601e6400f70d44638d40e1e6", func := "civiltime/civiltimelaw49.PageSums", spec := "pageSums", inPlace := ["internal/bytealg.Compare"], unfollowed := true, recurses := true, named := ["unicode/utf8.first", "unicode/utf8.acceptRanges"], apart := false, laid := [("unicode/utf8.acceptRanges", laid_unicode_utf8_acceptRanges), ("unicode/utf8.first", laid_unicode_utf8_first)] }
def PageSumsSaid : Prop := pageSumsRow.holds Tryd.pinned (OpenSpec.ofChange pageSumsSpec)

/-- ITS FALSE NEIGHBOUR: 'it returns false'. Refute it at one input. -/
def pageSumsWrong : ChangeSpec := { name := "pageSums", fn := fun _ => fun
  | [d] => { results := [.lit (.bool false)], args := [d] }
  | _ => none }
def PageSumsWrongFalsely : Prop := pageSumsRow.holds Tryd.pinned (OpenSpec.ofChange pageSumsWrong)

/-- 'civiltimelaw49.PageRaw': WHATEVER THE INPUT: true; the input reads as it did. -/
def pageRawSpec : ChangeSpec := { name := "pageRaw", fn := fun _ => fun
  | [d1, d2, d3] => { results := [.lit (.bool true)], args := [d1, d2, d3] }
  | _ => none }
def pageRawRow : OpenClaim := { program := "ytphiblmkgbkdmaadoor", sum := "68c90c5eb37939c4585e2024e653bce2d58bfafc601e6400f70d44638d40e1e6", func := "civiltime/civiltimelaw49.PageRaw", spec := "pageRaw", inPlace := ["internal/bytealg.Compare"], unfollowed := true, recurses := true, named := ["unicode/utf8.first", "unicode/utf8.acceptRanges"], apart := false, laid := [("unicode/utf8.acceptRanges", laid_unicode_utf8_acceptRanges), ("unicode/utf8.first", laid_unicode_utf8_first)] }
def PageRawSaid : Prop := pageRawRow.holds Tryd.pinned (OpenSpec.ofChange pageRawSpec)

/-- ITS FALSE NEIGHBOUR: 'it returns false'. Refute it at one input. -/
def pageRawWrong : ChangeSpec := { name := "pageRaw", fn := fun _ => fun
  | [d1, d2, d3] => { results := [.lit (.bool false)], args := [d1, d2, d3] }
  | _ => none }
def PageRawWrongFalsely : Prop := pageRawRow.holds Tryd.pinned (OpenSpec.ofChange pageRawWrong)

/-- 'civiltimelaw49.PageSizes': WHATEVER THE INPUT: true; the input reads as it did. -/
def pageSizesSpec : ChangeSpec := { name := "pageSizes", fn := fun _ => fun
  | [d] => { results := [.lit (.bool true)], args := [d] }
  | _ => none }
def pageSizesRow : OpenClaim := { program := "ytphiblmkgbkdmaadoor", sum := "68c90c5eb37939c4585e2024e653bce2d58bfafc601e6400f70d44638d40e1e6", func := "civiltime/civiltimelaw49.PageSizes", spec := "pageSizes", inPlace := ["internal/bytealg.Compare"], unfollowed := true, recurses := true, named := ["unicode/utf8.first", "unicode/utf8.acceptRanges"], apart := false, laid := [("unicode/utf8.acceptRanges", laid_unicode_utf8_acceptRanges), ("unicode/utf8.first", laid_unicode_utf8_first)] }
def PageSizesSaid : Prop := pageSizesRow.holds Tryd.pinned (OpenSpec.ofChange pageSizesSpec)

/-- ITS FALSE NEIGHBOUR: 'it returns false'. Refute it at one input. -/
def pageSizesWrong : ChangeSpec := { name := "pageSizes", fn := fun _ => fun
  | [d] => { results := [.lit (.bool false)], args := [d] }
  | _ => none }
def PageSizesWrongFalsely : Prop := pageSizesRow.holds Tryd.pinned (OpenSpec.ofChange pageSizesWrong)

/-- 'civiltimelaw49.PageKeeps': WHATEVER THE INPUT: true; the input reads as it did. -/
def pageKeepsSpec : ChangeSpec := { name := "pageKeeps", fn := fun _ => fun
  | [d1, d2, d3] => { results := [.lit (.bool true)], args := [d1, d2, d3] }
  | _ => none }
def pageKeepsRow : OpenClaim := { program := "ytphiblmkgbkdmaadoor", sum := "68c90c5eb37939c4585e2024e653bce2d58bfafc601e6400f70d44638d40e1e6", func := "civiltime/civiltimelaw49.PageKeeps", spec := "pageKeeps", inPlace := ["internal/bytealg.Compare"], unfollowed := true, recurses := true, named := ["unicode/utf8.first", "unicode/utf8.acceptRanges"], apart := false, laid := [("unicode/utf8.acceptRanges", laid_unicode_utf8_acceptRanges), ("unicode/utf8.first", laid_unicode_utf8_first)] }
def PageKeepsSaid : Prop := pageKeepsRow.holds Tryd.pinned (OpenSpec.ofChange pageKeepsSpec)

/-- ITS FALSE NEIGHBOUR: 'it returns false'. Refute it at one input. -/
def pageKeepsWrong : ChangeSpec := { name := "pageKeeps", fn := fun _ => fun
  | [d1, d2, d3] => { results := [.lit (.bool false)], args := [d1, d2, d3] }
  | _ => none }
def PageKeepsWrongFalsely : Prop := pageKeepsRow.holds Tryd.pinned (OpenSpec.ofChange pageKeepsWrong)

/-- 'civiltimelaw49.PageOrder': WHATEVER THE INPUT: true; the input reads as it did. -/
def pageOrderSpec : ChangeSpec := { name := "pageOrder", fn := fun _ => fun
  | [d1, d2] => { results := [.lit (.bool true)], args := [d1, d2] }
  | _ => none }
def pageOrderRow : OpenClaim := { program := "ytphiblmkgbkdmaadoor", sum := "68c90c5eb37939c4585e2024e653bce2d58bfafc601e6400f70d44638d40e1e6", func := "civiltime/civiltimelaw49.PageOrder", spec := "pageOrder", inPlace := ["internal/bytealg.Compare"], unfollowed := true, recurses := true, named := ["unicode/utf8.first", "unicode/utf8.acceptRanges"], apart := false, laid := [("unicode/utf8.acceptRanges", laid_unicode_utf8_acceptRanges), ("unicode/utf8.first", laid_unicode_utf8_first)] }
def PageOrderSaid : Prop := pageOrderRow.holds Tryd.pinned (OpenSpec.ofChange pageOrderSpec)

/-- ITS FALSE NEIGHBOUR: 'it returns false'. Refute it at one input. -/
def pageOrderWrong : ChangeSpec := { name := "pageOrder", fn := fun _ => fun
  | [d1, d2] => { results := [.lit (.bool false)], args := [d1, d2] }
  | _ => none }
def PageOrderWrongFalsely : Prop := pageOrderRow.holds Tryd.pinned (OpenSpec.ofChange pageOrderWrong)

/-- 'civiltimelaw49.PageDamage': WHATEVER THE INPUT: true; the input reads as it did. -/
def pageDamageSpec : ChangeSpec := { name := "pageDamage", fn := fun _ => fun
  | [d1, d2, d3] => { results := [.lit (.bool true)], args := [d1, d2, d3] }
  | _ => none }
def pageDamageRow : OpenClaim := { program := "ytphiblmkgbkdmaadoor", sum := "68c90c5eb37939c4585e2024e653bce2d58bfafc601e6400f70d44638d40e1e6", func := "civiltime/civiltimelaw49.PageDamage", spec := "pageDamage", inPlace := ["internal/bytealg.Compare"], unfollowed := true, recurses := true, named := ["unicode/utf8.first", "unicode/utf8.acceptRanges"], apart := false, laid := [("unicode/utf8.acceptRanges", laid_unicode_utf8_acceptRanges), ("unicode/utf8.first", laid_unicode_utf8_first)] }
def PageDamageSaid : Prop := pageDamageRow.holds Tryd.pinned (OpenSpec.ofChange pageDamageSpec)

/-- ITS FALSE NEIGHBOUR: 'it returns false'. Refute it at one input. -/
def pageDamageWrong : ChangeSpec := { name := "pageDamage", fn := fun _ => fun
  | [d1, d2, d3] => { results := [.lit (.bool false)], args := [d1, d2, d3] }
  | _ => none }
def PageDamageWrongFalsely : Prop := pageDamageRow.holds Tryd.pinned (OpenSpec.ofChange pageDamageWrong)

/-- 'civiltimelaw49.PageMaps': WHATEVER THE INPUT: true; the input reads as it did. -/
def pageMapsSpec : ChangeSpec := { name := "pageMaps", fn := fun _ => fun
  | [d1, d2, d3, d4] => { results := [.lit (.bool true)], args := [d1, d2, d3, d4] }
  | _ => none }
def pageMapsRow : OpenClaim := { program := "ytphiblmkgbkdmaadoor", sum := "68c90c5eb37939c4585e2024e653bce2d58bfafc601e6400f70d44638d40e1e6", func := "civiltime/civiltimelaw49.PageMaps", spec := "pageMaps", inPlace := ["internal/bytealg.Compare"], unfollowed := true, recurses := true, named := ["unicode/utf8.first", "unicode/utf8.acceptRanges"], apart := false, laid := [("unicode/utf8.acceptRanges", laid_unicode_utf8_acceptRanges), ("unicode/utf8.first", laid_unicode_utf8_first)] }
def PageMapsSaid : Prop := pageMapsRow.holds Tryd.pinned (OpenSpec.ofChange pageMapsSpec)

/-- ITS FALSE NEIGHBOUR: 'it returns false'. Refute it at one input. -/
def pageMapsWrong : ChangeSpec := { name := "pageMaps", fn := fun _ => fun
  | [d1, d2, d3, d4] => { results := [.lit (.bool false)], args := [d1, d2, d3, d4] }
  | _ => none }
def PageMapsWrongFalsely : Prop := pageMapsRow.holds Tryd.pinned (OpenSpec.ofChange pageMapsWrong)

/-- 'civiltimelaw49.PageReclaims': WHATEVER THE INPUT: true; the input reads as it did. -/
def pageReclaimsSpec : ChangeSpec := { name := "pageReclaims", fn := fun _ => fun
  | [d1, d2, d3] => { results := [.lit (.bool true)], args := [d1, d2, d3] }
  | _ => none }
def pageReclaimsRow : OpenClaim := { program := "ytphiblmkgbkdmaadoor", sum := "68c90c5eb37939c4585e2024e653bce2d58bfafc601e6400f70d44638d40e1e6", func := "civiltime/civiltimelaw49.PageReclaims", spec := "pageReclaims", inPlace := ["internal/bytealg.Compare"], unfollowed := true, recurses := true, named := ["unicode/utf8.first", "unicode/utf8.acceptRanges"], apart := false, laid := [("unicode/utf8.acceptRanges", laid_unicode_utf8_acceptRanges), ("unicode/utf8.first", laid_unicode_utf8_first)] }
def PageReclaimsSaid : Prop := pageReclaimsRow.holds Tryd.pinned (OpenSpec.ofChange pageReclaimsSpec)

/-- ITS FALSE NEIGHBOUR: 'it returns false'. Refute it at one input. -/
def pageReclaimsWrong : ChangeSpec := { name := "pageReclaims", fn := fun _ => fun
  | [d1, d2, d3] => { results := [.lit (.bool false)], args := [d1, d2, d3] }
  | _ => none }
def PageReclaimsWrongFalsely : Prop := pageReclaimsRow.holds Tryd.pinned (OpenSpec.ofChange pageReclaimsWrong)

/- THE SECOND FORM. 'bulk': how many values and letters a reading holds, each counted each time it is reached (what is shared counts as often as it is met; a slice's spare places count too). A statement '..UptoSaid' is the law's where the arguments, and the package variables that the reading takes, are together of bulk at most 1048576: NARROWER than '..Said'. Prove '..Said' where nothing that the law and all that it calls make is longer than what came in: it says more and counts as full. Else prove '..UptoSaid'. A law counts once. -/
mutual
def uptoBulk {H : Type} : DataW H → Nat
  | .lit (.string bytes) => bytes.length + 1
  | .lit _ => 1
  | .nil => 1
  | .ptr d => uptoBulk d + 1
  | .slice elems spare => uptoBulkAll elems + uptoBulkAll spare + 1
  | .agg parts => uptoBulkAll parts + 1
  | .iface _ d => uptoBulk d + 1
  | .map entries => uptoBulkEntries entries + 1
  | .held _ => 1
def uptoBulkAll {H : Type} : List (DataW H) → Nat
  | [] => 0
  | d :: r => uptoBulk d + uptoBulkAll r
def uptoBulkEntries {H : Type} : List (Lit × DataW H) → Nat
  | [] => 0
  | x :: r => uptoBulkEntry x + uptoBulkEntries r
def uptoBulkEntry {H : Type} : Lit × DataW H → Nat
  | (.string bytes, d) => bytes.length + uptoBulk d + 1
  | (_, d) => uptoBulk d + 1
 end
def uptoSmall : (H : Type) → List (DataW H) → Bool := fun _ ds => decide (uptoBulkAll ds ≤ 1048576)
def OpenSpec.upto (s : _root_.Go.ChangeSpec) : _root_.Go.OpenSpec := { _root_.Go.OpenSpec.ofChange s with cond := some uptoSmall }

/-- 'civiltimelaw49.PageSums', WHERE WHAT IT READS IS OF BULK AT MOST 1048576: true; the input reads as it did. -/
def pageSumsUptoRow : OpenClaim := { program := "ytphiblmkgbkdmaadoor", sum := "68c90c5eb37939c4585e2024e653bce2d58bfafc601e6400f70d44638d40e1e6", func := "civiltime/civiltimelaw49.PageSums", spec := "pageSums", inPlace := ["internal/bytealg.Compare"], unfollowed := true, recurses := true, named := ["unicode/utf8.first", "unicode/utf8.acceptRanges"], apart := false, laid := [("unicode/utf8.acceptRanges", laid_unicode_utf8_acceptRanges), ("unicode/utf8.first", laid_unicode_utf8_first)], narrowed := true }
def PageSumsUptoSaid : Prop := pageSumsUptoRow.holds Tryd.pinned (OpenSpec.upto pageSumsSpec)

/-- 'civiltimelaw49.PageRaw', WHERE WHAT IT READS IS OF BULK AT MOST 1048576: true; the input reads as it did. -/
def pageRawUptoRow : OpenClaim := { program := "ytphiblmkgbkdmaadoor", sum := "68c90c5eb37939c4585e2024e653bce2d58bfafc601e6400f70d44638d40e1e6", func := "civiltime/civiltimelaw49.PageRaw", spec := "pageRaw", inPlace := ["internal/bytealg.Compare"], unfollowed := true, recurses := true, named := ["unicode/utf8.first", "unicode/utf8.acceptRanges"], apart := false, laid := [("unicode/utf8.acceptRanges", laid_unicode_utf8_acceptRanges), ("unicode/utf8.first", laid_unicode_utf8_first)], narrowed := true }
def PageRawUptoSaid : Prop := pageRawUptoRow.holds Tryd.pinned (OpenSpec.upto pageRawSpec)

/-- 'civiltimelaw49.PageSizes', WHERE WHAT IT READS IS OF BULK AT MOST 1048576: true; the input reads as it did. -/
def pageSizesUptoRow : OpenClaim := { program := "ytphiblmkgbkdmaadoor", sum := "68c90c5eb37939c4585e2024e653bce2d58bfafc601e6400f70d44638d40e1e6", func := "civiltime/civiltimelaw49.PageSizes", spec := "pageSizes", inPlace := ["internal/bytealg.Compare"], unfollowed := true, recurses := true, named := ["unicode/utf8.first", "unicode/utf8.acceptRanges"], apart := false, laid := [("unicode/utf8.acceptRanges", laid_unicode_utf8_acceptRanges), ("unicode/utf8.first", laid_unicode_utf8_first)], narrowed := true }
def PageSizesUptoSaid : Prop := pageSizesUptoRow.holds Tryd.pinned (OpenSpec.upto pageSizesSpec)

/-- 'civiltimelaw49.PageKeeps', WHERE WHAT IT READS IS OF BULK AT MOST 1048576: true; the input reads as it did. -/
def pageKeepsUptoRow : OpenClaim := { program := "ytphiblmkgbkdmaadoor", sum := "68c90c5eb37939c4585e2024e653bce2d58bfafc601e6400f70d44638d40e1e6", func := "civiltime/civiltimelaw49.PageKeeps", spec := "pageKeeps", inPlace := ["internal/bytealg.Compare"], unfollowed := true, recurses := true, named := ["unicode/utf8.first", "unicode/utf8.acceptRanges"], apart := false, laid := [("unicode/utf8.acceptRanges", laid_unicode_utf8_acceptRanges), ("unicode/utf8.first", laid_unicode_utf8_first)], narrowed := true }
def PageKeepsUptoSaid : Prop := pageKeepsUptoRow.holds Tryd.pinned (OpenSpec.upto pageKeepsSpec)

/-- 'civiltimelaw49.PageOrder', WHERE WHAT IT READS IS OF BULK AT MOST 1048576: true; the input reads as it did. -/
def pageOrderUptoRow : OpenClaim := { program := "ytphiblmkgbkdmaadoor", sum := "68c90c5eb37939c4585e2024e653bce2d58bfafc601e6400f70d44638d40e1e6", func := "civiltime/civiltimelaw49.PageOrder", spec := "pageOrder", inPlace := ["internal/bytealg.Compare"], unfollowed := true, recurses := true, named := ["unicode/utf8.first", "unicode/utf8.acceptRanges"], apart := false, laid := [("unicode/utf8.acceptRanges", laid_unicode_utf8_acceptRanges), ("unicode/utf8.first", laid_unicode_utf8_first)], narrowed := true }
def PageOrderUptoSaid : Prop := pageOrderUptoRow.holds Tryd.pinned (OpenSpec.upto pageOrderSpec)

/-- 'civiltimelaw49.PageDamage', WHERE WHAT IT READS IS OF BULK AT MOST 1048576: true; the input reads as it did. -/
def pageDamageUptoRow : OpenClaim := { program := "ytphiblmkgbkdmaadoor", sum := "68c90c5eb37939c4585e2024e653bce2d58bfafc601e6400f70d44638d40e1e6", func := "civiltime/civiltimelaw49.PageDamage", spec := "pageDamage", inPlace := ["internal/bytealg.Compare"], unfollowed := true, recurses := true, named := ["unicode/utf8.first", "unicode/utf8.acceptRanges"], apart := false, laid := [("unicode/utf8.acceptRanges", laid_unicode_utf8_acceptRanges), ("unicode/utf8.first", laid_unicode_utf8_first)], narrowed := true }
def PageDamageUptoSaid : Prop := pageDamageUptoRow.holds Tryd.pinned (OpenSpec.upto pageDamageSpec)

/-- 'civiltimelaw49.PageMaps', WHERE WHAT IT READS IS OF BULK AT MOST 1048576: true; the input reads as it did. -/
def pageMapsUptoRow : OpenClaim := { program := "ytphiblmkgbkdmaadoor", sum := "68c90c5eb37939c4585e2024e653bce2d58bfafc601e6400f70d44638d40e1e6", func := "civiltime/civiltimelaw49.PageMaps", spec := "pageMaps", inPlace := ["internal/bytealg.Compare"], unfollowed := true, recurses := true, named := ["unicode/utf8.first", "unicode/utf8.acceptRanges"], apart := false, laid := [("unicode/utf8.acceptRanges", laid_unicode_utf8_acceptRanges), ("unicode/utf8.first", laid_unicode_utf8_first)], narrowed := true }
def PageMapsUptoSaid : Prop := pageMapsUptoRow.holds Tryd.pinned (OpenSpec.upto pageMapsSpec)

/-- 'civiltimelaw49.PageReclaims', WHERE WHAT IT READS IS OF BULK AT MOST 1048576: true; the input reads as it did. -/
def pageReclaimsUptoRow : OpenClaim := { program := "ytphiblmkgbkdmaadoor", sum := "68c90c5eb37939c4585e2024e653bce2d58bfafc601e6400f70d44638d40e1e6", func := "civiltime/civiltimelaw49.PageReclaims", spec := "pageReclaims", inPlace := ["internal/bytealg.Compare"], unfollowed := true, recurses := true, named := ["unicode/utf8.first", "unicode/utf8.acceptRanges"], apart := false, laid := [("unicode/utf8.acceptRanges", laid_unicode_utf8_acceptRanges), ("unicode/utf8.first", laid_unicode_utf8_first)], narrowed := true }
def PageReclaimsUptoSaid : Prop := pageReclaimsUptoRow.holds Tryd.pinned (OpenSpec.upto pageReclaimsSpec)

end Rows
end Go.Proofs.YtphiblmkgbkdmaaDoor
