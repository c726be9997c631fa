/-
  No cell of these rows narrows 'for every input' (looked for: loops, veiled, ifaces, maps, wideKeys, modest, calm, conditions, laid).
  DERIVED. THE GIVEN ROWS OF THIS SEAT. 10 by the template 'for every input the law returns true; each argument reads behind the call as it read before'; 0 by the template 'total and deterministic' (their statements: YtnecdbclhdbaoaaTotals.lean).
  GIVEN WITH THE SEED: the statements are not yours to turn. If you find one false, say at which input.
  Laid BY PROGRAM, IN A SANDBOX (cutbox-rows.mjs): the forced cells as the released guide's own fill.sh prints them over the translation b5b9a44c24e54a4e… (all of the seat's roots in one cut). By AI agents, Wed Nov 11 2026. No macro, syntax, notation, axiom, sorry.
-/
import Derived.Test.YtnecdbclhdbaoaaChecked
import GoSem.Claim
import GoSem.ClaimJoined
import GoSem.ClaimMapViews
import Derived.JoinedTies
import Derived.KernelRfl
namespace Go.Proofs.Ytnecdbclhdbaoaa
/- THE CELL 'sum', in the pinned program and in every row, IS THE sha256 OF THE DUMP (.gsa) THAT YtnecdbclhdbaoaaProg.lean LOADS. Nothing in Lean hashes anything: it is a label: what it is worth is what the hold of that sum in a sandbox is worth. -/
noncomputable def Try.pinned : Pinned := { name := "ytnecdbclhdbaoaa", sum := "b5b9a44c24e54a4e47f9cf7ba2c93188d1e1c87db11d036bf7902b05bc20ff8e", checked := Try.checked }
namespace Rows
def none {H : Type} : Left H := { results := [], args := [] }

/-- 'orloplaw17.SealCuts': WHATEVER THE INPUT: true; the input reads as it did. -/
def sealCutsSpec : ChangeSpec := { name := "sealCuts", fn := fun _ => fun
  | [d1, d2] => { results := [.lit (.bool true)], args := [d1, d2] }
  | _ => none }
def sealCutsRow : OpenClaim := { program := "ytnecdbclhdbaoaa", sum := "b5b9a44c24e54a4e47f9cf7ba2c93188d1e1c87db11d036bf7902b05bc20ff8e", func := "orlop/orloplaw17.SealCuts", spec := "sealCuts", unfollowed := true, recurses := true, apart := false }
def SealCutsSaid : Prop := sealCutsRow.holds Try.pinned (OpenSpec.ofChange sealCutsSpec)

/-- ITS FALSE NEIGHBOUR: 'it returns false'. Refute it at one input. -/
def sealCutsWrong : ChangeSpec := { name := "sealCuts", fn := fun _ => fun
  | [d1, d2] => { results := [.lit (.bool false)], args := [d1, d2] }
  | _ => none }
def SealCutsWrongFalsely : Prop := sealCutsRow.holds Try.pinned (OpenSpec.ofChange sealCutsWrong)

/-- 'orloplaw17.SealLengths': WHATEVER THE INPUT: true; the input reads as it did. -/
def sealLengthsSpec : ChangeSpec := { name := "sealLengths", fn := fun _ => fun
  | [d1, d2] => { results := [.lit (.bool true)], args := [d1, d2] }
  | _ => none }
def sealLengthsRow : OpenClaim := { program := "ytnecdbclhdbaoaa", sum := "b5b9a44c24e54a4e47f9cf7ba2c93188d1e1c87db11d036bf7902b05bc20ff8e", func := "orlop/orloplaw17.SealLengths", spec := "sealLengths", unfollowed := true, recurses := true, apart := false }
def SealLengthsSaid : Prop := sealLengthsRow.holds Try.pinned (OpenSpec.ofChange sealLengthsSpec)

/-- ITS FALSE NEIGHBOUR: 'it returns false'. Refute it at one input. -/
def sealLengthsWrong : ChangeSpec := { name := "sealLengths", fn := fun _ => fun
  | [d1, d2] => { results := [.lit (.bool false)], args := [d1, d2] }
  | _ => none }
def SealLengthsWrongFalsely : Prop := sealLengthsRow.holds Try.pinned (OpenSpec.ofChange sealLengthsWrong)

/-- 'orloplaw17.SealSeals': WHATEVER THE INPUT: true; the input reads as it did. -/
def sealSealsSpec : ChangeSpec := { name := "sealSeals", fn := fun _ => fun
  | [d1, d2] => { results := [.lit (.bool true)], args := [d1, d2] }
  | _ => none }
def sealSealsRow : OpenClaim := { program := "ytnecdbclhdbaoaa", sum := "b5b9a44c24e54a4e47f9cf7ba2c93188d1e1c87db11d036bf7902b05bc20ff8e", func := "orlop/orloplaw17.SealSeals", spec := "sealSeals", unfollowed := true, recurses := true, apart := false }
def SealSealsSaid : Prop := sealSealsRow.holds Try.pinned (OpenSpec.ofChange sealSealsSpec)

/-- ITS FALSE NEIGHBOUR: 'it returns false'. Refute it at one input. -/
def sealSealsWrong : ChangeSpec := { name := "sealSeals", fn := fun _ => fun
  | [d1, d2] => { results := [.lit (.bool false)], args := [d1, d2] }
  | _ => none }
def SealSealsWrongFalsely : Prop := sealSealsRow.holds Try.pinned (OpenSpec.ofChange sealSealsWrong)

/-- 'orloplaw17.SealOpens': WHATEVER THE INPUT: true; the input reads as it did. -/
def sealOpensSpec : ChangeSpec := { name := "sealOpens", fn := fun _ => fun
  | [d1, d2, d3] => { results := [.lit (.bool true)], args := [d1, d2, d3] }
  | _ => none }
def sealOpensRow : OpenClaim := { program := "ytnecdbclhdbaoaa", sum := "b5b9a44c24e54a4e47f9cf7ba2c93188d1e1c87db11d036bf7902b05bc20ff8e", func := "orlop/orloplaw17.SealOpens", spec := "sealOpens", unfollowed := true, recurses := true, apart := false }
def SealOpensSaid : Prop := sealOpensRow.holds Try.pinned (OpenSpec.ofChange sealOpensSpec)

/-- ITS FALSE NEIGHBOUR: 'it returns false'. Refute it at one input. -/
def sealOpensWrong : ChangeSpec := { name := "sealOpens", fn := fun _ => fun
  | [d1, d2, d3] => { results := [.lit (.bool false)], args := [d1, d2, d3] }
  | _ => none }
def SealOpensWrongFalsely : Prop := sealOpensRow.holds Try.pinned (OpenSpec.ofChange sealOpensWrong)

/-- 'orloplaw17.SealBlind': WHATEVER THE INPUT: true; the input reads as it did. -/
def sealBlindSpec : ChangeSpec := { name := "sealBlind", fn := fun _ => fun
  | [d1, d2] => { results := [.lit (.bool true)], args := [d1, d2] }
  | _ => none }
def sealBlindRow : OpenClaim := { program := "ytnecdbclhdbaoaa", sum := "b5b9a44c24e54a4e47f9cf7ba2c93188d1e1c87db11d036bf7902b05bc20ff8e", func := "orlop/orloplaw17.SealBlind", spec := "sealBlind", unfollowed := true, recurses := true, apart := false }
def SealBlindSaid : Prop := sealBlindRow.holds Try.pinned (OpenSpec.ofChange sealBlindSpec)

/-- ITS FALSE NEIGHBOUR: 'it returns false'. Refute it at one input. -/
def sealBlindWrong : ChangeSpec := { name := "sealBlind", fn := fun _ => fun
  | [d1, d2] => { results := [.lit (.bool false)], args := [d1, d2] }
  | _ => none }
def SealBlindWrongFalsely : Prop := sealBlindRow.holds Try.pinned (OpenSpec.ofChange sealBlindWrong)

/-- 'orloplaw17.SealSizes': WHATEVER THE INPUT: true; the input reads as it did. -/
def sealSizesSpec : ChangeSpec := { name := "sealSizes", fn := fun _ => fun
  | [d1, d2] => { results := [.lit (.bool true)], args := [d1, d2] }
  | _ => none }
def sealSizesRow : OpenClaim := { program := "ytnecdbclhdbaoaa", sum := "b5b9a44c24e54a4e47f9cf7ba2c93188d1e1c87db11d036bf7902b05bc20ff8e", func := "orlop/orloplaw17.SealSizes", spec := "sealSizes", unfollowed := true, recurses := true, apart := false }
def SealSizesSaid : Prop := sealSizesRow.holds Try.pinned (OpenSpec.ofChange sealSizesSpec)

/-- ITS FALSE NEIGHBOUR: 'it returns false'. Refute it at one input. -/
def sealSizesWrong : ChangeSpec := { name := "sealSizes", fn := fun _ => fun
  | [d1, d2] => { results := [.lit (.bool false)], args := [d1, d2] }
  | _ => none }
def SealSizesWrongFalsely : Prop := sealSizesRow.holds Try.pinned (OpenSpec.ofChange sealSizesWrong)

/-- 'orloplaw12.CryptPlays': WHATEVER THE INPUT: true; the input reads as it did. -/
def cryptPlaysSpec : ChangeSpec := { name := "cryptPlays", fn := fun _ => fun
  | [d1, d2] => { results := [.lit (.bool true)], args := [d1, d2] }
  | _ => none }
def cryptPlaysRow : OpenClaim := { program := "ytnecdbclhdbaoaa", sum := "b5b9a44c24e54a4e47f9cf7ba2c93188d1e1c87db11d036bf7902b05bc20ff8e", func := "orlop/orloplaw12.CryptPlays", spec := "cryptPlays", unfollowed := true, recurses := true, apart := false }
def CryptPlaysSaid : Prop := cryptPlaysRow.holds Try.pinned (OpenSpec.ofChange cryptPlaysSpec)

/-- ITS FALSE NEIGHBOUR: 'it returns false'. Refute it at one input. -/
def cryptPlaysWrong : ChangeSpec := { name := "cryptPlays", fn := fun _ => fun
  | [d1, d2] => { results := [.lit (.bool false)], args := [d1, d2] }
  | _ => none }
def CryptPlaysWrongFalsely : Prop := cryptPlaysRow.holds Try.pinned (OpenSpec.ofChange cryptPlaysWrong)

/-- 'orloplaw12.CryptBack': WHATEVER THE INPUT: true; the input reads as it did. -/
def cryptBackSpec : ChangeSpec := { name := "cryptBack", fn := fun _ => fun
  | [d1, d2] => { results := [.lit (.bool true)], args := [d1, d2] }
  | _ => none }
def cryptBackRow : OpenClaim := { program := "ytnecdbclhdbaoaa", sum := "b5b9a44c24e54a4e47f9cf7ba2c93188d1e1c87db11d036bf7902b05bc20ff8e", func := "orlop/orloplaw12.CryptBack", spec := "cryptBack", unfollowed := true, recurses := true, apart := false }
def CryptBackSaid : Prop := cryptBackRow.holds Try.pinned (OpenSpec.ofChange cryptBackSpec)

/-- ITS FALSE NEIGHBOUR: 'it returns false'. Refute it at one input. -/
def cryptBackWrong : ChangeSpec := { name := "cryptBack", fn := fun _ => fun
  | [d1, d2] => { results := [.lit (.bool false)], args := [d1, d2] }
  | _ => none }
def CryptBackWrongFalsely : Prop := cryptBackRow.holds Try.pinned (OpenSpec.ofChange cryptBackWrong)

/-- 'orloplaw12.CryptBlind': WHATEVER THE INPUT: true; the input reads as it did. -/
def cryptBlindSpec : ChangeSpec := { name := "cryptBlind", fn := fun _ => fun
  | [d1, d2] => { results := [.lit (.bool true)], args := [d1, d2] }
  | _ => none }
def cryptBlindRow : OpenClaim := { program := "ytnecdbclhdbaoaa", sum := "b5b9a44c24e54a4e47f9cf7ba2c93188d1e1c87db11d036bf7902b05bc20ff8e", func := "orlop/orloplaw12.CryptBlind", spec := "cryptBlind", unfollowed := true, recurses := true, apart := false }
def CryptBlindSaid : Prop := cryptBlindRow.holds Try.pinned (OpenSpec.ofChange cryptBlindSpec)

/-- ITS FALSE NEIGHBOUR: 'it returns false'. Refute it at one input. -/
def cryptBlindWrong : ChangeSpec := { name := "cryptBlind", fn := fun _ => fun
  | [d1, d2] => { results := [.lit (.bool false)], args := [d1, d2] }
  | _ => none }
def CryptBlindWrongFalsely : Prop := cryptBlindRow.holds Try.pinned (OpenSpec.ofChange cryptBlindWrong)

/-- 'orloplaw12.CryptOthers': WHATEVER THE INPUT: true; the input reads as it did. -/
def cryptOthersSpec : ChangeSpec := { name := "cryptOthers", fn := fun _ => fun
  | [d1, d2] => { results := [.lit (.bool true)], args := [d1, d2] }
  | _ => none }
def cryptOthersRow : OpenClaim := { program := "ytnecdbclhdbaoaa", sum := "b5b9a44c24e54a4e47f9cf7ba2c93188d1e1c87db11d036bf7902b05bc20ff8e", func := "orlop/orloplaw12.CryptOthers", spec := "cryptOthers", unfollowed := true, recurses := true, apart := false }
def CryptOthersSaid : Prop := cryptOthersRow.holds Try.pinned (OpenSpec.ofChange cryptOthersSpec)

/-- ITS FALSE NEIGHBOUR: 'it returns false'. Refute it at one input. -/
def cryptOthersWrong : ChangeSpec := { name := "cryptOthers", fn := fun _ => fun
  | [d1, d2] => { results := [.lit (.bool false)], args := [d1, d2] }
  | _ => none }
def CryptOthersWrongFalsely : Prop := cryptOthersRow.holds Try.pinned (OpenSpec.ofChange cryptOthersWrong)

/- THE SECOND FORM. 'bulk': how many values and letters a reading holds, each counted each time it is reached (what is shared counts as often as it is met; a slice's spare places count too). A statement '..UptoSaid' is the law's where the arguments, and the package variables that the reading takes, are together of bulk at most 1048576: NARROWER than '..Said'. Prove '..Said' where nothing that the law and all that it calls make is longer than what came in: it says more and counts as full. Else prove '..UptoSaid'. A law counts once. -/
mutual
def uptoBulk {H : Type} : DataW H → Nat
  | .lit (.string bytes) => bytes.length + 1
  | .lit _ => 1
  | .nil => 1
  | .ptr d => uptoBulk d + 1
  | .slice elems spare => uptoBulkAll elems + uptoBulkAll spare + 1
  | .agg parts => uptoBulkAll parts + 1
  | .iface _ d => uptoBulk d + 1
  | .map entries => uptoBulkEntries entries + 1
  | .held _ => 1
def uptoBulkAll {H : Type} : List (DataW H) → Nat
  | [] => 0
  | d :: r => uptoBulk d + uptoBulkAll r
def uptoBulkEntries {H : Type} : List (Lit × DataW H) → Nat
  | [] => 0
  | x :: r => uptoBulkEntry x + uptoBulkEntries r
def uptoBulkEntry {H : Type} : Lit × DataW H → Nat
  | (.string bytes, d) => bytes.length + uptoBulk d + 1
  | (_, d) => uptoBulk d + 1
 end
def uptoSmall : (H : Type) → List (DataW H) → Bool := fun _ ds => decide (uptoBulkAll ds ≤ 1048576)
def OpenSpec.upto (s : _root_.Go.ChangeSpec) : _root_.Go.OpenSpec := { _root_.Go.OpenSpec.ofChange s with cond := some uptoSmall }

/-- 'orloplaw17.SealCuts', WHERE WHAT IT READS IS OF BULK AT MOST 1048576: true; the input reads as it did. -/
def sealCutsUptoRow : OpenClaim := { program := "ytnecdbclhdbaoaa", sum := "b5b9a44c24e54a4e47f9cf7ba2c93188d1e1c87db11d036bf7902b05bc20ff8e", func := "orlop/orloplaw17.SealCuts", spec := "sealCuts", unfollowed := true, recurses := true, apart := false, narrowed := true }
def SealCutsUptoSaid : Prop := sealCutsUptoRow.holds Try.pinned (OpenSpec.upto sealCutsSpec)

/-- 'orloplaw17.SealLengths', WHERE WHAT IT READS IS OF BULK AT MOST 1048576: true; the input reads as it did. -/
def sealLengthsUptoRow : OpenClaim := { program := "ytnecdbclhdbaoaa", sum := "b5b9a44c24e54a4e47f9cf7ba2c93188d1e1c87db11d036bf7902b05bc20ff8e", func := "orlop/orloplaw17.SealLengths", spec := "sealLengths", unfollowed := true, recurses := true, apart := false, narrowed := true }
def SealLengthsUptoSaid : Prop := sealLengthsUptoRow.holds Try.pinned (OpenSpec.upto sealLengthsSpec)

/-- 'orloplaw17.SealSeals', WHERE WHAT IT READS IS OF BULK AT MOST 1048576: true; the input reads as it did. -/
def sealSealsUptoRow : OpenClaim := { program := "ytnecdbclhdbaoaa", sum := "b5b9a44c24e54a4e47f9cf7ba2c93188d1e1c87db11d036bf7902b05bc20ff8e", func := "orlop/orloplaw17.SealSeals", spec := "sealSeals", unfollowed := true, recurses := true, apart := false, narrowed := true }
def SealSealsUptoSaid : Prop := sealSealsUptoRow.holds Try.pinned (OpenSpec.upto sealSealsSpec)

/-- 'orloplaw17.SealOpens', WHERE WHAT IT READS IS OF BULK AT MOST 1048576: true; the input reads as it did. -/
def sealOpensUptoRow : OpenClaim := { program := "ytnecdbclhdbaoaa", sum := "b5b9a44c24e54a4e47f9cf7ba2c93188d1e1c87db11d036bf7902b05bc20ff8e", func := "orlop/orloplaw17.SealOpens", spec := "sealOpens", unfollowed := true, recurses := true, apart := false, narrowed := true }
def SealOpensUptoSaid : Prop := sealOpensUptoRow.holds Try.pinned (OpenSpec.upto sealOpensSpec)

/-- 'orloplaw17.SealBlind', WHERE WHAT IT READS IS OF BULK AT MOST 1048576: true; the input reads as it did. -/
def sealBlindUptoRow : OpenClaim := { program := "ytnecdbclhdbaoaa", sum := "b5b9a44c24e54a4e47f9cf7ba2c93188d1e1c87db11d036bf7902b05bc20ff8e", func := "orlop/orloplaw17.SealBlind", spec := "sealBlind", unfollowed := true, recurses := true, apart := false, narrowed := true }
def SealBlindUptoSaid : Prop := sealBlindUptoRow.holds Try.pinned (OpenSpec.upto sealBlindSpec)

/-- 'orloplaw17.SealSizes', WHERE WHAT IT READS IS OF BULK AT MOST 1048576: true; the input reads as it did. -/
def sealSizesUptoRow : OpenClaim := { program := "ytnecdbclhdbaoaa", sum := "b5b9a44c24e54a4e47f9cf7ba2c93188d1e1c87db11d036bf7902b05bc20ff8e", func := "orlop/orloplaw17.SealSizes", spec := "sealSizes", unfollowed := true, recurses := true, apart := false, narrowed := true }
def SealSizesUptoSaid : Prop := sealSizesUptoRow.holds Try.pinned (OpenSpec.upto sealSizesSpec)

/-- 'orloplaw12.CryptPlays', WHERE WHAT IT READS IS OF BULK AT MOST 1048576: true; the input reads as it did. -/
def cryptPlaysUptoRow : OpenClaim := { program := "ytnecdbclhdbaoaa", sum := "b5b9a44c24e54a4e47f9cf7ba2c93188d1e1c87db11d036bf7902b05bc20ff8e", func := "orlop/orloplaw12.CryptPlays", spec := "cryptPlays", unfollowed := true, recurses := true, apart := false, narrowed := true }
def CryptPlaysUptoSaid : Prop := cryptPlaysUptoRow.holds Try.pinned (OpenSpec.upto cryptPlaysSpec)

/-- 'orloplaw12.CryptBack', WHERE WHAT IT READS IS OF BULK AT MOST 1048576: true; the input reads as it did. -/
def cryptBackUptoRow : OpenClaim := { program := "ytnecdbclhdbaoaa", sum := "b5b9a44c24e54a4e47f9cf7ba2c93188d1e1c87db11d036bf7902b05bc20ff8e", func := "orlop/orloplaw12.CryptBack", spec := "cryptBack", unfollowed := true, recurses := true, apart := false, narrowed := true }
def CryptBackUptoSaid : Prop := cryptBackUptoRow.holds Try.pinned (OpenSpec.upto cryptBackSpec)

/-- 'orloplaw12.CryptBlind', WHERE WHAT IT READS IS OF BULK AT MOST 1048576: true; the input reads as it did. -/
def cryptBlindUptoRow : OpenClaim := { program := "ytnecdbclhdbaoaa", sum := "b5b9a44c24e54a4e47f9cf7ba2c93188d1e1c87db11d036bf7902b05bc20ff8e", func := "orlop/orloplaw12.CryptBlind", spec := "cryptBlind", unfollowed := true, recurses := true, apart := false, narrowed := true }
def CryptBlindUptoSaid : Prop := cryptBlindUptoRow.holds Try.pinned (OpenSpec.upto cryptBlindSpec)

/-- 'orloplaw12.CryptOthers', WHERE WHAT IT READS IS OF BULK AT MOST 1048576: true; the input reads as it did. -/
def cryptOthersUptoRow : OpenClaim := { program := "ytnecdbclhdbaoaa", sum := "b5b9a44c24e54a4e47f9cf7ba2c93188d1e1c87db11d036bf7902b05bc20ff8e", func := "orlop/orloplaw12.CryptOthers", spec := "cryptOthers", unfollowed := true, recurses := true, apart := false, narrowed := true }
def CryptOthersUptoSaid : Prop := cryptOthersUptoRow.holds Try.pinned (OpenSpec.upto cryptOthersSpec)

end Rows
end Go.Proofs.Ytnecdbclhdbaoaa
