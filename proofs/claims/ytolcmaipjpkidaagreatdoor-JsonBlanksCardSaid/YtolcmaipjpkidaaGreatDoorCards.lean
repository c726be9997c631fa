/-
  DERIVED. GIVEN WITH THE SEED: THE CARDS: each row of YtolcmaipjpkidaaGreatDoorRows.lean that lists a variable, with what it lists TIED to the program's text (the seventh form; the later family's looks); each row that meets fmt, with fmt's text TOLD by the authors' own Lean function (tested against real Go, not proved from fmt's source: count such statements apart). THE CARD IS WHAT COUNTS. Prove the row's statement (the work); the ties are given (YtolcmaipjpkidaaGreatDoorTie.lean); close each card by the builder's one call (the guide's Derived/Test/ToyasCard.lean, 'card_holds'). Laid BY PROGRAM, IN A SANDBOX (cutbox-door.mjs). By AI agents, Wed Nov 11 2026. No macro, syntax, notation, axiom, sorry.
-/
import Derived.Test.YtolcmaipjpkidaaGreatDoorRows
import GoSem.ClaimSeven
namespace Go.Proofs.YtolcmaipjpkidaaGreatDoor
namespace Rows

/-- THE TIED CARD OF 'orloplaw15.JsonReads'. -/
def jsonReadsCard : Claim7 := { stood := { row := jsonReadsRow, standIns := [], harness := (true, "984915d52a11ad6d43a4841d8998c66ab362931bf101cad0c51e0099ee1e103f"), looks := true }, kinds := [], alts := [], laidByText := true, laidKinds := [.data, .data, .data, .data, .sentinel, .sentinel, .pinned, .pinned], laidTests := true, laidLooks := .later }
def JsonReadsCardSaid : Prop := Claim7.holds Tryz.pinned (.plain (OpenSpec.ofChange jsonReadsSpec)) jsonReadsCard

/-- THE TIED CARD OF 'orloplaw15.JsonBlanks'. -/
def jsonBlanksCard : Claim7 := { stood := { row := jsonBlanksRow, standIns := [], harness := (true, "984915d52a11ad6d43a4841d8998c66ab362931bf101cad0c51e0099ee1e103f"), looks := true }, kinds := [], alts := [], laidByText := true, laidKinds := [.data, .data, .data, .data, .sentinel, .sentinel, .pinned, .pinned], laidTests := true, laidLooks := .later }
def JsonBlanksCardSaid : Prop := Claim7.holds Tryz.pinned (.plain (OpenSpec.ofChange jsonBlanksSpec)) jsonBlanksCard

/-- THE TIED CARD OF 'orloplaw15.JsonNumbers'. -/
def jsonNumbersCard : Claim7 := { stood := { row := jsonNumbersRow, standIns := [], harness := (true, "984915d52a11ad6d43a4841d8998c66ab362931bf101cad0c51e0099ee1e103f"), looks := true }, kinds := [], alts := [], laidByText := true, laidKinds := [.data, .data, .data, .data, .sentinel, .sentinel, .pinned, .pinned], laidTests := true, laidLooks := .later }
def JsonNumbersCardSaid : Prop := Claim7.holds Tryz.pinned (.plain (OpenSpec.ofChange jsonNumbersSpec)) jsonNumbersCard

/-- THE TIED CARD OF 'orloplaw16.OciJson'. -/
def ociJsonCard : Claim7 := { stood := { row := ociJsonRow, standIns := [], harness := (true, "984915d52a11ad6d43a4841d8998c66ab362931bf101cad0c51e0099ee1e103f"), looks := true }, kinds := [], alts := [], laidByText := true, laidKinds := [.data, .data, .data, .data, .sentinel, .sentinel, .pinned, .pinned], laidTests := true, laidLooks := .later }
def OciJsonCardSaid : Prop := Claim7.holds Tryz.pinned (.plain (OpenSpec.ofChange ociJsonSpec)) ociJsonCard

/-- THE TIED CARD OF 'orloplaw16.OciLoose'. -/
def ociLooseCard : Claim7 := { stood := { row := ociLooseRow, standIns := [], harness := (true, "984915d52a11ad6d43a4841d8998c66ab362931bf101cad0c51e0099ee1e103f"), looks := true }, kinds := [], alts := [], laidByText := true, laidKinds := [.data, .data, .data, .data, .sentinel, .sentinel, .pinned, .pinned], laidTests := true, laidLooks := .later }
def OciLooseCardSaid : Prop := Claim7.holds Tryz.pinned (.plain (OpenSpec.ofChange ociLooseSpec)) ociLooseCard

/-- THE TIED CARD OF 'orloplaw16.OciWrites'. -/
def ociWritesCard : Claim7 := { stood := { row := ociWritesRow, standIns := [], harness := (true, "984915d52a11ad6d43a4841d8998c66ab362931bf101cad0c51e0099ee1e103f"), looks := true }, kinds := [], alts := [], laidByText := true, laidKinds := [.data, .data, .data, .data, .sentinel, .sentinel, .pinned, .pinned], laidTests := true, laidLooks := .later }
def OciWritesCardSaid : Prop := Claim7.holds Tryz.pinned (.plain (OpenSpec.ofChange ociWritesSpec)) ociWritesCard

/-- THE TIED CARD OF 'orloplaw16.OciBytes'. -/
def ociBytesCard : Claim7 := { stood := { row := ociBytesRow, standIns := [], harness := (true, "984915d52a11ad6d43a4841d8998c66ab362931bf101cad0c51e0099ee1e103f"), looks := true }, kinds := [], alts := [], laidByText := true, laidKinds := [.data, .data, .data, .data, .sentinel, .sentinel, .pinned, .pinned], laidTests := true, laidLooks := .later }
def OciBytesCardSaid : Prop := Claim7.holds Tryz.pinned (.plain (OpenSpec.ofChange ociBytesSpec)) ociBytesCard

/-- THE TIED CARD OF 'orloplaw16.OciWith'. -/
def ociWithCard : Claim7 := { stood := { row := ociWithRow, standIns := [], harness := (true, "984915d52a11ad6d43a4841d8998c66ab362931bf101cad0c51e0099ee1e103f"), looks := true }, kinds := [], alts := [], laidByText := true, laidKinds := [.data, .data, .data, .data, .sentinel, .sentinel, .pinned, .pinned], laidTests := true, laidLooks := .later }
def OciWithCardSaid : Prop := Claim7.holds Tryz.pinned (.plain (OpenSpec.ofChange ociWithSpec)) ociWithCard

/-- THE SECOND FORM's CARD OF 'orloplaw15.JsonReads'. -/
def jsonReadsUptoCard : Claim7 := { stood := { row := jsonReadsUptoRow, standIns := [], harness := (true, "984915d52a11ad6d43a4841d8998c66ab362931bf101cad0c51e0099ee1e103f"), looks := true }, kinds := [], alts := [], laidByText := true, laidKinds := [.data, .data, .data, .data, .sentinel, .sentinel, .pinned, .pinned], laidTests := true, laidLooks := .later }
def JsonReadsUptoCardSaid : Prop := Claim7.holds Tryz.pinned (.plain (OpenSpec.upto jsonReadsSpec)) jsonReadsUptoCard

/-- THE SECOND FORM's CARD OF 'orloplaw15.JsonBlanks'. -/
def jsonBlanksUptoCard : Claim7 := { stood := { row := jsonBlanksUptoRow, standIns := [], harness := (true, "984915d52a11ad6d43a4841d8998c66ab362931bf101cad0c51e0099ee1e103f"), looks := true }, kinds := [], alts := [], laidByText := true, laidKinds := [.data, .data, .data, .data, .sentinel, .sentinel, .pinned, .pinned], laidTests := true, laidLooks := .later }
def JsonBlanksUptoCardSaid : Prop := Claim7.holds Tryz.pinned (.plain (OpenSpec.upto jsonBlanksSpec)) jsonBlanksUptoCard

/-- THE SECOND FORM's CARD OF 'orloplaw15.JsonNumbers'. -/
def jsonNumbersUptoCard : Claim7 := { stood := { row := jsonNumbersUptoRow, standIns := [], harness := (true, "984915d52a11ad6d43a4841d8998c66ab362931bf101cad0c51e0099ee1e103f"), looks := true }, kinds := [], alts := [], laidByText := true, laidKinds := [.data, .data, .data, .data, .sentinel, .sentinel, .pinned, .pinned], laidTests := true, laidLooks := .later }
def JsonNumbersUptoCardSaid : Prop := Claim7.holds Tryz.pinned (.plain (OpenSpec.upto jsonNumbersSpec)) jsonNumbersUptoCard

/-- THE SECOND FORM's CARD OF 'orloplaw16.OciJson'. -/
def ociJsonUptoCard : Claim7 := { stood := { row := ociJsonUptoRow, standIns := [], harness := (true, "984915d52a11ad6d43a4841d8998c66ab362931bf101cad0c51e0099ee1e103f"), looks := true }, kinds := [], alts := [], laidByText := true, laidKinds := [.data, .data, .data, .data, .sentinel, .sentinel, .pinned, .pinned], laidTests := true, laidLooks := .later }
def OciJsonUptoCardSaid : Prop := Claim7.holds Tryz.pinned (.plain (OpenSpec.upto ociJsonSpec)) ociJsonUptoCard

/-- THE SECOND FORM's CARD OF 'orloplaw16.OciLoose'. -/
def ociLooseUptoCard : Claim7 := { stood := { row := ociLooseUptoRow, standIns := [], harness := (true, "984915d52a11ad6d43a4841d8998c66ab362931bf101cad0c51e0099ee1e103f"), looks := true }, kinds := [], alts := [], laidByText := true, laidKinds := [.data, .data, .data, .data, .sentinel, .sentinel, .pinned, .pinned], laidTests := true, laidLooks := .later }
def OciLooseUptoCardSaid : Prop := Claim7.holds Tryz.pinned (.plain (OpenSpec.upto ociLooseSpec)) ociLooseUptoCard

/-- THE SECOND FORM's CARD OF 'orloplaw16.OciWrites'. -/
def ociWritesUptoCard : Claim7 := { stood := { row := ociWritesUptoRow, standIns := [], harness := (true, "984915d52a11ad6d43a4841d8998c66ab362931bf101cad0c51e0099ee1e103f"), looks := true }, kinds := [], alts := [], laidByText := true, laidKinds := [.data, .data, .data, .data, .sentinel, .sentinel, .pinned, .pinned], laidTests := true, laidLooks := .later }
def OciWritesUptoCardSaid : Prop := Claim7.holds Tryz.pinned (.plain (OpenSpec.upto ociWritesSpec)) ociWritesUptoCard

/-- THE SECOND FORM's CARD OF 'orloplaw16.OciBytes'. -/
def ociBytesUptoCard : Claim7 := { stood := { row := ociBytesUptoRow, standIns := [], harness := (true, "984915d52a11ad6d43a4841d8998c66ab362931bf101cad0c51e0099ee1e103f"), looks := true }, kinds := [], alts := [], laidByText := true, laidKinds := [.data, .data, .data, .data, .sentinel, .sentinel, .pinned, .pinned], laidTests := true, laidLooks := .later }
def OciBytesUptoCardSaid : Prop := Claim7.holds Tryz.pinned (.plain (OpenSpec.upto ociBytesSpec)) ociBytesUptoCard

/-- THE SECOND FORM's CARD OF 'orloplaw16.OciWith'. -/
def ociWithUptoCard : Claim7 := { stood := { row := ociWithUptoRow, standIns := [], harness := (true, "984915d52a11ad6d43a4841d8998c66ab362931bf101cad0c51e0099ee1e103f"), looks := true }, kinds := [], alts := [], laidByText := true, laidKinds := [.data, .data, .data, .data, .sentinel, .sentinel, .pinned, .pinned], laidTests := true, laidLooks := .later }
def OciWithUptoCardSaid : Prop := Claim7.holds Tryz.pinned (.plain (OpenSpec.upto ociWithSpec)) ociWithUptoCard
end Rows
end Go.Proofs.YtolcmaipjpkidaaGreatDoor
