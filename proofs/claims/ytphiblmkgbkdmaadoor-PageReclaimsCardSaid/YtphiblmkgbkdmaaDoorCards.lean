/-
  DERIVED. GIVEN WITH THE SEED: THE CARDS: each row of YtphiblmkgbkdmaaDoorRows.lean that lists a variable, with what it lists TIED to the program's text (the seventh form; the later family's looks); each row that meets fmt, with fmt's text TOLD by the authors' own Lean function (tested against real Go, not proved from fmt's source: count such statements apart). THE CARD IS WHAT COUNTS. Prove the row's statement (the work); the ties are given (YtphiblmkgbkdmaaDoorTie.lean); close each card by the builder's one call (the guide's Derived/Test/ToyasCard.lean, 'card_holds'). Laid BY PROGRAM, IN A SANDBOX (cutbox-door.mjs). By AI agents, Wed Nov 11 2026. No macro, syntax, notation, axiom, sorry.
-/
import Derived.Test.YtphiblmkgbkdmaaDoorRows
import GoSem.ClaimSeven
namespace Go.Proofs.YtphiblmkgbkdmaaDoor
namespace Rows

/-- THE TIED CARD OF 'civiltimelaw49.PageSums'. -/
def pageSumsCard : Claim7 := { stood := { row := pageSumsRow, standIns := [], harness := (true, "9587334344358364a910e410c6dd09cdb02be82110ea6a2f538a07a8916c339b"), looks := false }, kinds := [], alts := [], laidByText := true, laidKinds := [.data, .pinned], laidTests := true, laidLooks := .later }
def PageSumsCardSaid : Prop := Claim7.holds Tryd.pinned (.plain (OpenSpec.ofChange pageSumsSpec)) pageSumsCard

/-- THE TIED CARD OF 'civiltimelaw49.PageRaw'. -/
def pageRawCard : Claim7 := { stood := { row := pageRawRow, standIns := [], harness := (true, "9587334344358364a910e410c6dd09cdb02be82110ea6a2f538a07a8916c339b"), looks := false }, kinds := [], alts := [], laidByText := true, laidKinds := [.data, .pinned], laidTests := true, laidLooks := .later }
def PageRawCardSaid : Prop := Claim7.holds Tryd.pinned (.plain (OpenSpec.ofChange pageRawSpec)) pageRawCard

/-- THE TIED CARD OF 'civiltimelaw49.PageSizes'. -/
def pageSizesCard : Claim7 := { stood := { row := pageSizesRow, standIns := [], harness := (true, "9587334344358364a910e410c6dd09cdb02be82110ea6a2f538a07a8916c339b"), looks := false }, kinds := [], alts := [], laidByText := true, laidKinds := [.data, .pinned], laidTests := true, laidLooks := .later }
def PageSizesCardSaid : Prop := Claim7.holds Tryd.pinned (.plain (OpenSpec.ofChange pageSizesSpec)) pageSizesCard

/-- THE TIED CARD OF 'civiltimelaw49.PageKeeps'. -/
def pageKeepsCard : Claim7 := { stood := { row := pageKeepsRow, standIns := [], harness := (true, "9587334344358364a910e410c6dd09cdb02be82110ea6a2f538a07a8916c339b"), looks := false }, kinds := [], alts := [], laidByText := true, laidKinds := [.data, .pinned], laidTests := true, laidLooks := .later }
def PageKeepsCardSaid : Prop := Claim7.holds Tryd.pinned (.plain (OpenSpec.ofChange pageKeepsSpec)) pageKeepsCard

/-- THE TIED CARD OF 'civiltimelaw49.PageOrder'. -/
def pageOrderCard : Claim7 := { stood := { row := pageOrderRow, standIns := [], harness := (true, "9587334344358364a910e410c6dd09cdb02be82110ea6a2f538a07a8916c339b"), looks := false }, kinds := [], alts := [], laidByText := true, laidKinds := [.data, .pinned], laidTests := true, laidLooks := .later }
def PageOrderCardSaid : Prop := Claim7.holds Tryd.pinned (.plain (OpenSpec.ofChange pageOrderSpec)) pageOrderCard

/-- THE TIED CARD OF 'civiltimelaw49.PageDamage'. -/
def pageDamageCard : Claim7 := { stood := { row := pageDamageRow, standIns := [], harness := (true, "9587334344358364a910e410c6dd09cdb02be82110ea6a2f538a07a8916c339b"), looks := false }, kinds := [], alts := [], laidByText := true, laidKinds := [.data, .pinned], laidTests := true, laidLooks := .later }
def PageDamageCardSaid : Prop := Claim7.holds Tryd.pinned (.plain (OpenSpec.ofChange pageDamageSpec)) pageDamageCard

/-- THE TIED CARD OF 'civiltimelaw49.PageMaps'. -/
def pageMapsCard : Claim7 := { stood := { row := pageMapsRow, standIns := [], harness := (true, "9587334344358364a910e410c6dd09cdb02be82110ea6a2f538a07a8916c339b"), looks := false }, kinds := [], alts := [], laidByText := true, laidKinds := [.data, .pinned], laidTests := true, laidLooks := .later }
def PageMapsCardSaid : Prop := Claim7.holds Tryd.pinned (.plain (OpenSpec.ofChange pageMapsSpec)) pageMapsCard

/-- THE TIED CARD OF 'civiltimelaw49.PageReclaims'. -/
def pageReclaimsCard : Claim7 := { stood := { row := pageReclaimsRow, standIns := [], harness := (true, "9587334344358364a910e410c6dd09cdb02be82110ea6a2f538a07a8916c339b"), looks := false }, kinds := [], alts := [], laidByText := true, laidKinds := [.data, .pinned], laidTests := true, laidLooks := .later }
def PageReclaimsCardSaid : Prop := Claim7.holds Tryd.pinned (.plain (OpenSpec.ofChange pageReclaimsSpec)) pageReclaimsCard

/-- THE SECOND FORM's CARD OF 'civiltimelaw49.PageSums'. -/
def pageSumsUptoCard : Claim7 := { stood := { row := pageSumsUptoRow, standIns := [], harness := (true, "9587334344358364a910e410c6dd09cdb02be82110ea6a2f538a07a8916c339b"), looks := false }, kinds := [], alts := [], laidByText := true, laidKinds := [.data, .pinned], laidTests := true, laidLooks := .later }
def PageSumsUptoCardSaid : Prop := Claim7.holds Tryd.pinned (.plain (OpenSpec.upto pageSumsSpec)) pageSumsUptoCard

/-- THE SECOND FORM's CARD OF 'civiltimelaw49.PageRaw'. -/
def pageRawUptoCard : Claim7 := { stood := { row := pageRawUptoRow, standIns := [], harness := (true, "9587334344358364a910e410c6dd09cdb02be82110ea6a2f538a07a8916c339b"), looks := false }, kinds := [], alts := [], laidByText := true, laidKinds := [.data, .pinned], laidTests := true, laidLooks := .later }
def PageRawUptoCardSaid : Prop := Claim7.holds Tryd.pinned (.plain (OpenSpec.upto pageRawSpec)) pageRawUptoCard

/-- THE SECOND FORM's CARD OF 'civiltimelaw49.PageSizes'. -/
def pageSizesUptoCard : Claim7 := { stood := { row := pageSizesUptoRow, standIns := [], harness := (true, "9587334344358364a910e410c6dd09cdb02be82110ea6a2f538a07a8916c339b"), looks := false }, kinds := [], alts := [], laidByText := true, laidKinds := [.data, .pinned], laidTests := true, laidLooks := .later }
def PageSizesUptoCardSaid : Prop := Claim7.holds Tryd.pinned (.plain (OpenSpec.upto pageSizesSpec)) pageSizesUptoCard

/-- THE SECOND FORM's CARD OF 'civiltimelaw49.PageKeeps'. -/
def pageKeepsUptoCard : Claim7 := { stood := { row := pageKeepsUptoRow, standIns := [], harness := (true, "9587334344358364a910e410c6dd09cdb02be82110ea6a2f538a07a8916c339b"), looks := false }, kinds := [], alts := [], laidByText := true, laidKinds := [.data, .pinned], laidTests := true, laidLooks := .later }
def PageKeepsUptoCardSaid : Prop := Claim7.holds Tryd.pinned (.plain (OpenSpec.upto pageKeepsSpec)) pageKeepsUptoCard

/-- THE SECOND FORM's CARD OF 'civiltimelaw49.PageOrder'. -/
def pageOrderUptoCard : Claim7 := { stood := { row := pageOrderUptoRow, standIns := [], harness := (true, "9587334344358364a910e410c6dd09cdb02be82110ea6a2f538a07a8916c339b"), looks := false }, kinds := [], alts := [], laidByText := true, laidKinds := [.data, .pinned], laidTests := true, laidLooks := .later }
def PageOrderUptoCardSaid : Prop := Claim7.holds Tryd.pinned (.plain (OpenSpec.upto pageOrderSpec)) pageOrderUptoCard

/-- THE SECOND FORM's CARD OF 'civiltimelaw49.PageDamage'. -/
def pageDamageUptoCard : Claim7 := { stood := { row := pageDamageUptoRow, standIns := [], harness := (true, "9587334344358364a910e410c6dd09cdb02be82110ea6a2f538a07a8916c339b"), looks := false }, kinds := [], alts := [], laidByText := true, laidKinds := [.data, .pinned], laidTests := true, laidLooks := .later }
def PageDamageUptoCardSaid : Prop := Claim7.holds Tryd.pinned (.plain (OpenSpec.upto pageDamageSpec)) pageDamageUptoCard

/-- THE SECOND FORM's CARD OF 'civiltimelaw49.PageMaps'. -/
def pageMapsUptoCard : Claim7 := { stood := { row := pageMapsUptoRow, standIns := [], harness := (true, "9587334344358364a910e410c6dd09cdb02be82110ea6a2f538a07a8916c339b"), looks := false }, kinds := [], alts := [], laidByText := true, laidKinds := [.data, .pinned], laidTests := true, laidLooks := .later }
def PageMapsUptoCardSaid : Prop := Claim7.holds Tryd.pinned (.plain (OpenSpec.upto pageMapsSpec)) pageMapsUptoCard

/-- THE SECOND FORM's CARD OF 'civiltimelaw49.PageReclaims'. -/
def pageReclaimsUptoCard : Claim7 := { stood := { row := pageReclaimsUptoRow, standIns := [], harness := (true, "9587334344358364a910e410c6dd09cdb02be82110ea6a2f538a07a8916c339b"), looks := false }, kinds := [], alts := [], laidByText := true, laidKinds := [.data, .pinned], laidTests := true, laidLooks := .later }
def PageReclaimsUptoCardSaid : Prop := Claim7.holds Tryd.pinned (.plain (OpenSpec.upto pageReclaimsSpec)) pageReclaimsUptoCard
end Rows
end Go.Proofs.YtphiblmkgbkdmaaDoor
