/-
  DERIVED. GIVEN WITH THE SEED: THE CARDS: each row of YtkbifmngmocjnaaGreatDoorRows.lean that lists a variable, with what it lists TIED to the program's text (the seventh form; the later family's looks); each row that meets fmt, with fmt's text TOLD by the authors' own Lean function (tested against real Go, not proved from fmt's source: count such statements apart). THE CARD IS WHAT COUNTS. Prove the row's statement (the work); the ties are given (YtkbifmngmocjnaaGreatDoorTie.lean); close each card by the builder's one call (the guide's Derived/Test/ToyasCard.lean, 'card_holds'). Laid BY PROGRAM, IN A SANDBOX (cutbox-door.mjs). By AI agents, Wed Nov 11 2026. No macro, syntax, notation, axiom, sorry.
-/
import Derived.Test.YtkbifmngmocjnaaGreatDoorRows
import GoSem.ClaimSeven
namespace Go.Proofs.YtkbifmngmocjnaaGreatDoor
namespace Rows

/-- THE TIED CARD OF 'gunwaletop.TopWatch'. -/
def topWatchCard : Claim7 := { stood := { row := topWatchRow, standIns := [], harness := (true, "7abf0fd2fd0fa053c0b7489b7413f7107c5ecdac936d4e2be733a7f28cdb125e"), looks := true }, kinds := [], alts := [], laidByText := true, laidKinds := [.data, .data, .pinned], laidTests := true, laidLooks := .later }
def TopWatchCardSaid : Prop := Claim7.holds Tryz.pinned (.plain (OpenSpec.ofChange topWatchSpec)) topWatchCard

/-- THE TIED CARD OF 'gunwaletop.TopLive'. -/
def topLiveCard : Claim7 := { stood := { row := topLiveRow, standIns := [], harness := (true, "7abf0fd2fd0fa053c0b7489b7413f7107c5ecdac936d4e2be733a7f28cdb125e"), looks := true }, kinds := [], alts := [], laidByText := true, laidKinds := [.data, .data, .pinned], laidTests := true, laidLooks := .later }
def TopLiveCardSaid : Prop := Claim7.holds Tryz.pinned (.plain (OpenSpec.ofChange topLiveSpec)) topLiveCard

/-- THE TIED CARD OF 'gunwaletop.TopFull'. -/
def topFullCard : Claim7 := { stood := { row := topFullRow, standIns := [], harness := (true, "7abf0fd2fd0fa053c0b7489b7413f7107c5ecdac936d4e2be733a7f28cdb125e"), looks := true }, kinds := [], alts := [], laidByText := true, laidKinds := [.data, .data, .pinned], laidTests := true, laidLooks := .later }
def TopFullCardSaid : Prop := Claim7.holds Tryz.pinned (.plain (OpenSpec.ofChange topFullSpec)) topFullCard

/-- THE SECOND FORM's CARD OF 'gunwaletop.TopWatch'. -/
def topWatchUptoCard : Claim7 := { stood := { row := topWatchUptoRow, standIns := [], harness := (true, "7abf0fd2fd0fa053c0b7489b7413f7107c5ecdac936d4e2be733a7f28cdb125e"), looks := true }, kinds := [], alts := [], laidByText := true, laidKinds := [.data, .data, .pinned], laidTests := true, laidLooks := .later }
def TopWatchUptoCardSaid : Prop := Claim7.holds Tryz.pinned (.plain (OpenSpec.upto topWatchSpec)) topWatchUptoCard

/-- THE SECOND FORM's CARD OF 'gunwaletop.TopLive'. -/
def topLiveUptoCard : Claim7 := { stood := { row := topLiveUptoRow, standIns := [], harness := (true, "7abf0fd2fd0fa053c0b7489b7413f7107c5ecdac936d4e2be733a7f28cdb125e"), looks := true }, kinds := [], alts := [], laidByText := true, laidKinds := [.data, .data, .pinned], laidTests := true, laidLooks := .later }
def TopLiveUptoCardSaid : Prop := Claim7.holds Tryz.pinned (.plain (OpenSpec.upto topLiveSpec)) topLiveUptoCard

/-- THE SECOND FORM's CARD OF 'gunwaletop.TopFull'. -/
def topFullUptoCard : Claim7 := { stood := { row := topFullUptoRow, standIns := [], harness := (true, "7abf0fd2fd0fa053c0b7489b7413f7107c5ecdac936d4e2be733a7f28cdb125e"), looks := true }, kinds := [], alts := [], laidByText := true, laidKinds := [.data, .data, .pinned], laidTests := true, laidLooks := .later }
def TopFullUptoCardSaid : Prop := Claim7.holds Tryz.pinned (.plain (OpenSpec.upto topFullSpec)) topFullUptoCard
end Rows
end Go.Proofs.YtkbifmngmocjnaaGreatDoor
