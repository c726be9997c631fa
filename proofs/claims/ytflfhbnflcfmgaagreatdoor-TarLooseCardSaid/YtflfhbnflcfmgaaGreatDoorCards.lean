/-
  DERIVED. GIVEN WITH THE SEED: THE CARDS: each row of YtflfhbnflcfmgaaGreatDoorRows.lean that lists a variable, with what it lists TIED to the program's text (the seventh form; the later family's looks); each row that meets fmt, with fmt's text TOLD by the authors' own Lean function (tested against real Go, not proved from fmt's source: count such statements apart). THE CARD IS WHAT COUNTS. Prove the row's statement (the work); the ties are given (YtflfhbnflcfmgaaGreatDoorTie.lean); close each card by the builder's one call (the guide's Derived/Test/ToyasCard.lean, 'card_holds'). Laid BY PROGRAM, IN A SANDBOX (cutbox-door.mjs). By AI agents, Wed Nov 11 2026. No macro, syntax, notation, axiom, sorry.
-/
import Derived.Test.YtflfhbnflcfmgaaGreatDoorRows
import GoSem.ClaimSeven
namespace Go.Proofs.YtflfhbnflcfmgaaGreatDoor
namespace Rows

/-- THE TIED CARD OF 'orloplaw19.TarLoose'. -/
def tarLooseCard : Claim7 := { stood := { row := tarLooseRow, standIns := [], harness := (true, "ddb4b631333f0e00c50907440f6fa78274dd56b92ffdee26c0b32e1865676fee"), looks := true }, kinds := [], alts := [], laidByText := true, laidKinds := [.data, .data, .data, .data, .sentinel, .sentinel, .pinned], laidTests := true, laidLooks := .later }
def TarLooseCardSaid : Prop := Claim7.holds Tryz.pinned (.plain (OpenSpec.ofChange tarLooseSpec)) tarLooseCard

/-- THE TIED CARD OF 'orloplaw19.TarLong'. -/
def tarLongCard : Claim7 := { stood := { row := tarLongRow, standIns := [], harness := (true, "ddb4b631333f0e00c50907440f6fa78274dd56b92ffdee26c0b32e1865676fee"), looks := true }, kinds := [], alts := [], laidByText := true, laidKinds := [.data, .data, .data, .data, .sentinel, .sentinel, .pinned], laidTests := true, laidLooks := .later }
def TarLongCardSaid : Prop := Claim7.holds Tryz.pinned (.plain (OpenSpec.ofChange tarLongSpec)) tarLongCard

/-- THE TIED CARD OF 'orloplaw19.TarSame'. -/
def tarSameCard : Claim7 := { stood := { row := tarSameRow, standIns := [], harness := (true, "ddb4b631333f0e00c50907440f6fa78274dd56b92ffdee26c0b32e1865676fee"), looks := true }, kinds := [], alts := [], laidByText := true, laidKinds := [.data, .data, .data, .data, .sentinel, .sentinel, .pinned], laidTests := true, laidLooks := .later }
def TarSameCardSaid : Prop := Claim7.holds Tryz.pinned (.plain (OpenSpec.ofChange tarSameSpec)) tarSameCard

/-- THE SECOND FORM's CARD OF 'orloplaw19.TarLoose'. -/
def tarLooseUptoCard : Claim7 := { stood := { row := tarLooseUptoRow, standIns := [], harness := (true, "ddb4b631333f0e00c50907440f6fa78274dd56b92ffdee26c0b32e1865676fee"), looks := true }, kinds := [], alts := [], laidByText := true, laidKinds := [.data, .data, .data, .data, .sentinel, .sentinel, .pinned], laidTests := true, laidLooks := .later }
def TarLooseUptoCardSaid : Prop := Claim7.holds Tryz.pinned (.plain (OpenSpec.upto tarLooseSpec)) tarLooseUptoCard

/-- THE SECOND FORM's CARD OF 'orloplaw19.TarLong'. -/
def tarLongUptoCard : Claim7 := { stood := { row := tarLongUptoRow, standIns := [], harness := (true, "ddb4b631333f0e00c50907440f6fa78274dd56b92ffdee26c0b32e1865676fee"), looks := true }, kinds := [], alts := [], laidByText := true, laidKinds := [.data, .data, .data, .data, .sentinel, .sentinel, .pinned], laidTests := true, laidLooks := .later }
def TarLongUptoCardSaid : Prop := Claim7.holds Tryz.pinned (.plain (OpenSpec.upto tarLongSpec)) tarLongUptoCard

/-- THE SECOND FORM's CARD OF 'orloplaw19.TarSame'. -/
def tarSameUptoCard : Claim7 := { stood := { row := tarSameUptoRow, standIns := [], harness := (true, "ddb4b631333f0e00c50907440f6fa78274dd56b92ffdee26c0b32e1865676fee"), looks := true }, kinds := [], alts := [], laidByText := true, laidKinds := [.data, .data, .data, .data, .sentinel, .sentinel, .pinned], laidTests := true, laidLooks := .later }
def TarSameUptoCardSaid : Prop := Claim7.holds Tryz.pinned (.plain (OpenSpec.upto tarSameSpec)) tarSameUptoCard
end Rows
end Go.Proofs.YtflfhbnflcfmgaaGreatDoor
