/-
  DERIVED. GIVEN WITH THE SEED: THE CARDS: each row of YtpmkohnljngbhaaGreatDoorRows.lean that lists a variable, with what it lists TIED to the program's text (the seventh form; the later family's looks); each row that meets fmt, with fmt's text TOLD by the authors' own Lean function (tested against real Go, not proved from fmt's source: count such statements apart). THE CARD IS WHAT COUNTS. Prove the row's statement (the work); the ties are given (YtpmkohnljngbhaaGreatDoorTie.lean); close each card by the builder's one call (the guide's Derived/Test/ToyasCard.lean, 'card_holds'). Laid BY PROGRAM, IN A SANDBOX (cutbox-door.mjs). By AI agents, Wed Nov 11 2026. No macro, syntax, notation, axiom, sorry.
-/
import Derived.Test.YtpmkohnljngbhaaGreatDoorRows
import GoSem.ClaimSeven
namespace Go.Proofs.YtpmkohnljngbhaaGreatDoor
namespace Rows

/-- THE TIED CARD OF 'civiltimelaw51.StoreCrashes'. -/
def storeCrashesCard : Claim7 := { stood := { row := storeCrashesRow, standIns := [], harness := (true, "93ad53f29d1db61b0ce8079f22a192d39fd6257a614d1c6ea6dd2e665961b77b"), looks := false }, kinds := [], alts := [], laidByText := true, laidKinds := [.data, .pinned], laidTests := true, laidLooks := .later }
def StoreCrashesCardSaid : Prop := Claim7.holds Tryz.pinned (.plain (OpenSpec.ofChange storeCrashesSpec)) storeCrashesCard

/-- THE TIED CARD OF 'civiltimelaw51.StoreCheckpoints'. -/
def storeCheckpointsCard : Claim7 := { stood := { row := storeCheckpointsRow, standIns := [], harness := (true, "93ad53f29d1db61b0ce8079f22a192d39fd6257a614d1c6ea6dd2e665961b77b"), looks := false }, kinds := [], alts := [], laidByText := true, laidKinds := [.data, .pinned], laidTests := true, laidLooks := .later }
def StoreCheckpointsCardSaid : Prop := Claim7.holds Tryz.pinned (.plain (OpenSpec.ofChange storeCheckpointsSpec)) storeCheckpointsCard

/-- THE TIED CARD OF 'civiltimelaw51.StoreLogs'. -/
def storeLogsCard : Claim7 := { stood := { row := storeLogsRow, standIns := [], harness := (true, "93ad53f29d1db61b0ce8079f22a192d39fd6257a614d1c6ea6dd2e665961b77b"), looks := false }, kinds := [], alts := [], laidByText := true, laidKinds := [.data, .pinned], laidTests := true, laidLooks := .later }
def StoreLogsCardSaid : Prop := Claim7.holds Tryz.pinned (.plain (OpenSpec.ofChange storeLogsSpec)) storeLogsCard

/-- THE TIED CARD OF 'civiltimelaw51.StoreValid'. -/
def storeValidCard : Claim7 := { stood := { row := storeValidRow, standIns := [], harness := (true, "93ad53f29d1db61b0ce8079f22a192d39fd6257a614d1c6ea6dd2e665961b77b"), looks := false }, kinds := [], alts := [], laidByText := true, laidKinds := [.data, .pinned], laidTests := true, laidLooks := .later }
def StoreValidCardSaid : Prop := Claim7.holds Tryz.pinned (.plain (OpenSpec.ofChange storeValidSpec)) storeValidCard

/-- THE SECOND FORM's CARD OF 'civiltimelaw51.StoreCrashes'. -/
def storeCrashesUptoCard : Claim7 := { stood := { row := storeCrashesUptoRow, standIns := [], harness := (true, "93ad53f29d1db61b0ce8079f22a192d39fd6257a614d1c6ea6dd2e665961b77b"), looks := false }, kinds := [], alts := [], laidByText := true, laidKinds := [.data, .pinned], laidTests := true, laidLooks := .later }
def StoreCrashesUptoCardSaid : Prop := Claim7.holds Tryz.pinned (.plain (OpenSpec.upto storeCrashesSpec)) storeCrashesUptoCard

/-- THE SECOND FORM's CARD OF 'civiltimelaw51.StoreCheckpoints'. -/
def storeCheckpointsUptoCard : Claim7 := { stood := { row := storeCheckpointsUptoRow, standIns := [], harness := (true, "93ad53f29d1db61b0ce8079f22a192d39fd6257a614d1c6ea6dd2e665961b77b"), looks := false }, kinds := [], alts := [], laidByText := true, laidKinds := [.data, .pinned], laidTests := true, laidLooks := .later }
def StoreCheckpointsUptoCardSaid : Prop := Claim7.holds Tryz.pinned (.plain (OpenSpec.upto storeCheckpointsSpec)) storeCheckpointsUptoCard

/-- THE SECOND FORM's CARD OF 'civiltimelaw51.StoreLogs'. -/
def storeLogsUptoCard : Claim7 := { stood := { row := storeLogsUptoRow, standIns := [], harness := (true, "93ad53f29d1db61b0ce8079f22a192d39fd6257a614d1c6ea6dd2e665961b77b"), looks := false }, kinds := [], alts := [], laidByText := true, laidKinds := [.data, .pinned], laidTests := true, laidLooks := .later }
def StoreLogsUptoCardSaid : Prop := Claim7.holds Tryz.pinned (.plain (OpenSpec.upto storeLogsSpec)) storeLogsUptoCard

/-- THE SECOND FORM's CARD OF 'civiltimelaw51.StoreValid'. -/
def storeValidUptoCard : Claim7 := { stood := { row := storeValidUptoRow, standIns := [], harness := (true, "93ad53f29d1db61b0ce8079f22a192d39fd6257a614d1c6ea6dd2e665961b77b"), looks := false }, kinds := [], alts := [], laidByText := true, laidKinds := [.data, .pinned], laidTests := true, laidLooks := .later }
def StoreValidUptoCardSaid : Prop := Claim7.holds Tryz.pinned (.plain (OpenSpec.upto storeValidSpec)) storeValidUptoCard
end Rows
end Go.Proofs.YtpmkohnljngbhaaGreatDoor
