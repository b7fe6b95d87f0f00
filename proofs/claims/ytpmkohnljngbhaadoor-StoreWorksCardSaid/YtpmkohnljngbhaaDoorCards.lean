/-
  DERIVED. GIVEN WITH THE SEED: THE CARDS: each row of YtpmkohnljngbhaaDoorRows.lean that lists a variable, with what it lists TIED to the program's text (the seventh form; the later family's looks); each row that meets fmt, with fmt's text TOLD by the authors' own Lean function (tested against real Go, not proved from fmt's source: count such statements apart). THE CARD IS WHAT COUNTS. Prove the row's statement (the work); the ties are given (YtpmkohnljngbhaaDoorTie.lean); close each card by the builder's one call (the guide's Derived/Test/ToyasCard.lean, 'card_holds'). Laid BY PROGRAM, IN A SANDBOX (cutbox-door.mjs). By AI agents, Wed Nov 11 2026. No macro, syntax, notation, axiom, sorry.
-/
import Derived.Test.YtpmkohnljngbhaaDoorRows
import GoSem.ClaimSeven
namespace Go.Proofs.YtpmkohnljngbhaaDoor
namespace Rows

/-- THE TIED CARD OF 'civiltimelaw51.StoreMaps'. -/
def storeMapsCard : Claim7 := { stood := { row := storeMapsRow, standIns := [], harness := (true, "795cb4bb9ba360874f43741fe3397377798a45c3e4b05f12fbff8aebda1e53d3"), looks := false }, kinds := [], alts := [], laidByText := true, laidKinds := [.data, .pinned], laidTests := true, laidLooks := .later }
def StoreMapsCardSaid : Prop := Claim7.holds Tryd.pinned (.plain (OpenSpec.ofChange storeMapsSpec)) storeMapsCard

/-- THE TIED CARD OF 'civiltimelaw51.StoreWorks'. -/
def storeWorksCard : Claim7 := { stood := { row := storeWorksRow, standIns := [], harness := (true, "795cb4bb9ba360874f43741fe3397377798a45c3e4b05f12fbff8aebda1e53d3"), looks := false }, kinds := [], alts := [], laidByText := true, laidKinds := [.data, .pinned], laidTests := true, laidLooks := .later }
def StoreWorksCardSaid : Prop := Claim7.holds Tryd.pinned (.plain (OpenSpec.ofChange storeWorksSpec)) storeWorksCard

/-- THE TIED CARD OF 'civiltimelaw51.StoreErrors'. -/
def storeErrorsCard : Claim7 := { stood := { row := storeErrorsRow, standIns := [], harness := (true, "795cb4bb9ba360874f43741fe3397377798a45c3e4b05f12fbff8aebda1e53d3"), looks := false }, kinds := [], alts := [], laidByText := true, laidKinds := [.data, .pinned], laidTests := true, laidLooks := .later }
def StoreErrorsCardSaid : Prop := Claim7.holds Tryd.pinned (.plain (OpenSpec.ofChange storeErrorsSpec)) storeErrorsCard

/-- THE TIED CARD OF 'civiltimelaw51.StoreForged'. -/
def storeForgedCard : Claim7 := { stood := { row := storeForgedRow, standIns := [], harness := (true, "795cb4bb9ba360874f43741fe3397377798a45c3e4b05f12fbff8aebda1e53d3"), looks := false }, kinds := [], alts := [], laidByText := true, laidKinds := [.data, .pinned], laidTests := true, laidLooks := .later }
def StoreForgedCardSaid : Prop := Claim7.holds Tryd.pinned (.plain (OpenSpec.ofChange storeForgedSpec)) storeForgedCard

/-- THE SECOND FORM's CARD OF 'civiltimelaw51.StoreMaps'. -/
def storeMapsUptoCard : Claim7 := { stood := { row := storeMapsUptoRow, standIns := [], harness := (true, "795cb4bb9ba360874f43741fe3397377798a45c3e4b05f12fbff8aebda1e53d3"), looks := false }, kinds := [], alts := [], laidByText := true, laidKinds := [.data, .pinned], laidTests := true, laidLooks := .later }
def StoreMapsUptoCardSaid : Prop := Claim7.holds Tryd.pinned (.plain (OpenSpec.upto storeMapsSpec)) storeMapsUptoCard

/-- THE SECOND FORM's CARD OF 'civiltimelaw51.StoreWorks'. -/
def storeWorksUptoCard : Claim7 := { stood := { row := storeWorksUptoRow, standIns := [], harness := (true, "795cb4bb9ba360874f43741fe3397377798a45c3e4b05f12fbff8aebda1e53d3"), looks := false }, kinds := [], alts := [], laidByText := true, laidKinds := [.data, .pinned], laidTests := true, laidLooks := .later }
def StoreWorksUptoCardSaid : Prop := Claim7.holds Tryd.pinned (.plain (OpenSpec.upto storeWorksSpec)) storeWorksUptoCard

/-- THE SECOND FORM's CARD OF 'civiltimelaw51.StoreErrors'. -/
def storeErrorsUptoCard : Claim7 := { stood := { row := storeErrorsUptoRow, standIns := [], harness := (true, "795cb4bb9ba360874f43741fe3397377798a45c3e4b05f12fbff8aebda1e53d3"), looks := false }, kinds := [], alts := [], laidByText := true, laidKinds := [.data, .pinned], laidTests := true, laidLooks := .later }
def StoreErrorsUptoCardSaid : Prop := Claim7.holds Tryd.pinned (.plain (OpenSpec.upto storeErrorsSpec)) storeErrorsUptoCard

/-- THE SECOND FORM's CARD OF 'civiltimelaw51.StoreForged'. -/
def storeForgedUptoCard : Claim7 := { stood := { row := storeForgedUptoRow, standIns := [], harness := (true, "795cb4bb9ba360874f43741fe3397377798a45c3e4b05f12fbff8aebda1e53d3"), looks := false }, kinds := [], alts := [], laidByText := true, laidKinds := [.data, .pinned], laidTests := true, laidLooks := .later }
def StoreForgedUptoCardSaid : Prop := Claim7.holds Tryd.pinned (.plain (OpenSpec.upto storeForgedSpec)) storeForgedUptoCard
end Rows
end Go.Proofs.YtpmkohnljngbhaaDoor
