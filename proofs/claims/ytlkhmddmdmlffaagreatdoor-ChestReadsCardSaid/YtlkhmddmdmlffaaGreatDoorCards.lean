/-
  DERIVED. GIVEN WITH THE SEED: THE CARDS: each row of YtlkhmddmdmlffaaGreatDoorRows.lean that lists a variable, with what it lists TIED to the program's text (the seventh form; the later family's looks); each row that meets fmt, with fmt's text TOLD by the authors' own Lean function (tested against real Go, not proved from fmt's source: count such statements apart). THE CARD IS WHAT COUNTS. Prove the row's statement (the work); the ties are given (YtlkhmddmdmlffaaGreatDoorTie.lean); close each card by the builder's one call (the guide's Derived/Test/ToyasCard.lean, 'card_holds'). Laid BY PROGRAM, IN A SANDBOX (cutbox-door.mjs). By AI agents, Wed Nov 11 2026. No macro, syntax, notation, axiom, sorry.
-/
import Derived.Test.YtlkhmddmdmlffaaGreatDoorRows
import GoSem.ClaimSeven
namespace Go.Proofs.YtlkhmddmdmlffaaGreatDoor
namespace Rows

/-- THE TIED CARD OF 'orloplaw27.ChestBytes'. -/
def chestBytesCard : Claim7 := { stood := { row := chestBytesRow, standIns := [], harness := (true, "8fee5a845f19b165fc585e2e1c4e1b1810666bb3073dfaf234e416f42abd1fdf"), looks := true }, kinds := [], alts := [], laidByText := true, laidKinds := [.data, .data, .data, .data, .sentinel, .sentinel, .pinned, .pinned], laidTests := true, laidLooks := .later }
def ChestBytesCardSaid : Prop := Claim7.holds Tryz.pinned (.plain (OpenSpec.ofChange chestBytesSpec)) chestBytesCard

/-- THE TIED CARD OF 'orloplaw27.ChestReads'. -/
def chestReadsCard : Claim7 := { stood := { row := chestReadsRow, standIns := [], harness := (true, "8fee5a845f19b165fc585e2e1c4e1b1810666bb3073dfaf234e416f42abd1fdf"), looks := true }, kinds := [], alts := [], laidByText := true, laidKinds := [.data, .data, .data, .data, .sentinel, .sentinel, .pinned, .pinned], laidTests := true, laidLooks := .later }
def ChestReadsCardSaid : Prop := Claim7.holds Tryz.pinned (.plain (OpenSpec.ofChange chestReadsSpec)) chestReadsCard

/-- THE SECOND FORM's CARD OF 'orloplaw27.ChestBytes'. -/
def chestBytesUptoCard : Claim7 := { stood := { row := chestBytesUptoRow, standIns := [], harness := (true, "8fee5a845f19b165fc585e2e1c4e1b1810666bb3073dfaf234e416f42abd1fdf"), looks := true }, kinds := [], alts := [], laidByText := true, laidKinds := [.data, .data, .data, .data, .sentinel, .sentinel, .pinned, .pinned], laidTests := true, laidLooks := .later }
def ChestBytesUptoCardSaid : Prop := Claim7.holds Tryz.pinned (.plain (OpenSpec.upto chestBytesSpec)) chestBytesUptoCard

/-- THE SECOND FORM's CARD OF 'orloplaw27.ChestReads'. -/
def chestReadsUptoCard : Claim7 := { stood := { row := chestReadsUptoRow, standIns := [], harness := (true, "8fee5a845f19b165fc585e2e1c4e1b1810666bb3073dfaf234e416f42abd1fdf"), looks := true }, kinds := [], alts := [], laidByText := true, laidKinds := [.data, .data, .data, .data, .sentinel, .sentinel, .pinned, .pinned], laidTests := true, laidLooks := .later }
def ChestReadsUptoCardSaid : Prop := Claim7.holds Tryz.pinned (.plain (OpenSpec.upto chestReadsSpec)) chestReadsUptoCard
end Rows
end Go.Proofs.YtlkhmddmdmlffaaGreatDoor
