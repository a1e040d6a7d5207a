/-
  No cell of these rows narrows 'for every input' (looked for: loops, veiled, ifaces, maps, wideKeys, modest, calm, conditions, laid).
  DERIVED. THE GIVEN ROWS OF THIS SEAT. 12 by the template 'for every input the law returns true; each argument reads behind the call as it read before'; 0 by the template 'total and deterministic' (their statements: YtfepkpindchleaaTotals.lean).
  GIVEN WITH THE SEED: the statements are not yours to turn. If you find one false, say at which input.
  Laid BY PROGRAM, IN A SANDBOX (cutbox-rows.mjs): the forced cells as the released guide's own fill.sh prints them over the translation d2a7e3f54846c280… (all of the seat's roots in one cut). By AI agents, Wed Nov 11 2026. No macro, syntax, notation, axiom, sorry.
-/
import Derived.Test.YtfepkpindchleaaChecked
import GoSem.Claim
import GoSem.ClaimJoined
import GoSem.ClaimMapViews
import Derived.JoinedTies
import Derived.KernelRfl
namespace Go.Proofs.Ytfepkpindchleaa
/- THE CELL 'sum', in the pinned program and in every row, IS THE sha256 OF THE DUMP (.gsa) THAT YtfepkpindchleaaProg.lean LOADS. Nothing in Lean hashes anything: it is a label: what it is worth is what the hold of that sum in a sandbox is worth. -/
noncomputable def Try.pinned : Pinned := { name := "ytfepkpindchleaa", sum := "d2a7e3f54846c280079aca23114eb6e8868941a82cf7e06e81ef7540548712c1", checked := Try.checked }
namespace Rows
def none {H : Type} : Left H := { results := [], args := [] }

/-- 'derricklaw04.RdataPuts': WHATEVER THE INPUT: true; the input reads as it did. -/
def rdataPutsSpec : ChangeSpec := { name := "rdataPuts", fn := fun _ => fun
  | [d] => { results := [.lit (.bool true)], args := [d] }
  | _ => none }
def rdataPutsRow : OpenClaim := { program := "ytfepkpindchleaa", sum := "d2a7e3f54846c280079aca23114eb6e8868941a82cf7e06e81ef7540548712c1", func := "derrick/derricklaw04.RdataPuts", spec := "rdataPuts", unfollowed := true, recurses := true, apart := false }
def RdataPutsSaid : Prop := rdataPutsRow.holds Try.pinned (OpenSpec.ofChange rdataPutsSpec)

/-- ITS FALSE NEIGHBOUR: 'it returns false'. Refute it at one input. -/
def rdataPutsWrong : ChangeSpec := { name := "rdataPuts", fn := fun _ => fun
  | [d] => { results := [.lit (.bool false)], args := [d] }
  | _ => none }
def RdataPutsWrongFalsely : Prop := rdataPutsRow.holds Try.pinned (OpenSpec.ofChange rdataPutsWrong)

/-- 'derricklaw03.WirePacks': WHATEVER THE INPUT: true; the input reads as it did. -/
def wirePacksSpec : ChangeSpec := { name := "wirePacks", fn := fun _ => fun
  | [d1, d2] => { results := [.lit (.bool true)], args := [d1, d2] }
  | _ => none }
def wirePacksRow : OpenClaim := { program := "ytfepkpindchleaa", sum := "d2a7e3f54846c280079aca23114eb6e8868941a82cf7e06e81ef7540548712c1", func := "derrick/derricklaw03.WirePacks", spec := "wirePacks", inPlace := ["internal/abi.NoEscape"], unfollowed := true, recurses := true, apart := false }
def WirePacksSaid : Prop := wirePacksRow.holds Try.pinned (OpenSpec.ofChange wirePacksSpec)

/-- ITS FALSE NEIGHBOUR: 'it returns false'. Refute it at one input. -/
def wirePacksWrong : ChangeSpec := { name := "wirePacks", fn := fun _ => fun
  | [d1, d2] => { results := [.lit (.bool false)], args := [d1, d2] }
  | _ => none }
def WirePacksWrongFalsely : Prop := wirePacksRow.holds Try.pinned (OpenSpec.ofChange wirePacksWrong)

/-- 'derricklaw03.WireTakes': WHATEVER THE INPUT: true; the input reads as it did. -/
def wireTakesSpec : ChangeSpec := { name := "wireTakes", fn := fun _ => fun
  | [d1, d2] => { results := [.lit (.bool true)], args := [d1, d2] }
  | _ => none }
def wireTakesRow : OpenClaim := { program := "ytfepkpindchleaa", sum := "d2a7e3f54846c280079aca23114eb6e8868941a82cf7e06e81ef7540548712c1", func := "derrick/derricklaw03.WireTakes", spec := "wireTakes", inPlace := ["internal/abi.NoEscape"], unfollowed := true, recurses := true, apart := false }
def WireTakesSaid : Prop := wireTakesRow.holds Try.pinned (OpenSpec.ofChange wireTakesSpec)

/-- ITS FALSE NEIGHBOUR: 'it returns false'. Refute it at one input. -/
def wireTakesWrong : ChangeSpec := { name := "wireTakes", fn := fun _ => fun
  | [d1, d2] => { results := [.lit (.bool false)], args := [d1, d2] }
  | _ => none }
def WireTakesWrongFalsely : Prop := wireTakesRow.holds Try.pinned (OpenSpec.ofChange wireTakesWrong)

/-- 'derricklaw03.WireBack': WHATEVER THE INPUT: true; the input reads as it did. -/
def wireBackSpec : ChangeSpec := { name := "wireBack", fn := fun _ => fun
  | [d] => { results := [.lit (.bool true)], args := [d] }
  | _ => none }
def wireBackRow : OpenClaim := { program := "ytfepkpindchleaa", sum := "d2a7e3f54846c280079aca23114eb6e8868941a82cf7e06e81ef7540548712c1", func := "derrick/derricklaw03.WireBack", spec := "wireBack", inPlace := ["internal/abi.NoEscape"], unfollowed := true, recurses := true, apart := false }
def WireBackSaid : Prop := wireBackRow.holds Try.pinned (OpenSpec.ofChange wireBackSpec)

/-- ITS FALSE NEIGHBOUR: 'it returns false'. Refute it at one input. -/
def wireBackWrong : ChangeSpec := { name := "wireBack", fn := fun _ => fun
  | [d] => { results := [.lit (.bool false)], args := [d] }
  | _ => none }
def WireBackWrongFalsely : Prop := wireBackRow.holds Try.pinned (OpenSpec.ofChange wireBackWrong)

/-- 'derricklaw03.WireName': WHATEVER THE INPUT: true; the input reads as it did. -/
def wireNameSpec : ChangeSpec := { name := "wireName", fn := fun _ => fun
  | [d1, d2, d3] => { results := [.lit (.bool true)], args := [d1, d2, d3] }
  | _ => none }
def wireNameRow : OpenClaim := { program := "ytfepkpindchleaa", sum := "d2a7e3f54846c280079aca23114eb6e8868941a82cf7e06e81ef7540548712c1", func := "derrick/derricklaw03.WireName", spec := "wireName", inPlace := ["internal/abi.NoEscape"], unfollowed := true, recurses := true, apart := false }
def WireNameSaid : Prop := wireNameRow.holds Try.pinned (OpenSpec.ofChange wireNameSpec)

/-- ITS FALSE NEIGHBOUR: 'it returns false'. Refute it at one input. -/
def wireNameWrong : ChangeSpec := { name := "wireName", fn := fun _ => fun
  | [d1, d2, d3] => { results := [.lit (.bool false)], args := [d1, d2, d3] }
  | _ => none }
def WireNameWrongFalsely : Prop := wireNameRow.holds Try.pinned (OpenSpec.ofChange wireNameWrong)

/-- 'derricklaw03.WireAgain': WHATEVER THE INPUT: true; the input reads as it did. -/
def wireAgainSpec : ChangeSpec := { name := "wireAgain", fn := fun _ => fun
  | [d1, d2] => { results := [.lit (.bool true)], args := [d1, d2] }
  | _ => none }
def wireAgainRow : OpenClaim := { program := "ytfepkpindchleaa", sum := "d2a7e3f54846c280079aca23114eb6e8868941a82cf7e06e81ef7540548712c1", func := "derrick/derricklaw03.WireAgain", spec := "wireAgain", inPlace := ["internal/abi.NoEscape"], unfollowed := true, recurses := true, apart := false }
def WireAgainSaid : Prop := wireAgainRow.holds Try.pinned (OpenSpec.ofChange wireAgainSpec)

/-- ITS FALSE NEIGHBOUR: 'it returns false'. Refute it at one input. -/
def wireAgainWrong : ChangeSpec := { name := "wireAgain", fn := fun _ => fun
  | [d1, d2] => { results := [.lit (.bool false)], args := [d1, d2] }
  | _ => none }
def WireAgainWrongFalsely : Prop := wireAgainRow.holds Try.pinned (OpenSpec.ofChange wireAgainWrong)

/-- 'derricklaw03.WireShort': WHATEVER THE INPUT: true; the input reads as it did. -/
def wireShortSpec : ChangeSpec := { name := "wireShort", fn := fun _ => fun
  | [d1, d2] => { results := [.lit (.bool true)], args := [d1, d2] }
  | _ => none }
def wireShortRow : OpenClaim := { program := "ytfepkpindchleaa", sum := "d2a7e3f54846c280079aca23114eb6e8868941a82cf7e06e81ef7540548712c1", func := "derrick/derricklaw03.WireShort", spec := "wireShort", inPlace := ["internal/abi.NoEscape"], unfollowed := true, recurses := true, apart := false }
def WireShortSaid : Prop := wireShortRow.holds Try.pinned (OpenSpec.ofChange wireShortSpec)

/-- ITS FALSE NEIGHBOUR: 'it returns false'. Refute it at one input. -/
def wireShortWrong : ChangeSpec := { name := "wireShort", fn := fun _ => fun
  | [d1, d2] => { results := [.lit (.bool false)], args := [d1, d2] }
  | _ => none }
def WireShortWrongFalsely : Prop := wireShortRow.holds Try.pinned (OpenSpec.ofChange wireShortWrong)

/-- 'derricklaw03.WireSized': WHATEVER THE INPUT: true; the input reads as it did. -/
def wireSizedSpec : ChangeSpec := { name := "wireSized", fn := fun _ => fun
  | [d1, d2, d3] => { results := [.lit (.bool true)], args := [d1, d2, d3] }
  | _ => none }
def wireSizedRow : OpenClaim := { program := "ytfepkpindchleaa", sum := "d2a7e3f54846c280079aca23114eb6e8868941a82cf7e06e81ef7540548712c1", func := "derrick/derricklaw03.WireSized", spec := "wireSized", inPlace := ["internal/abi.NoEscape"], unfollowed := true, recurses := true, apart := false }
def WireSizedSaid : Prop := wireSizedRow.holds Try.pinned (OpenSpec.ofChange wireSizedSpec)

/-- ITS FALSE NEIGHBOUR: 'it returns false'. Refute it at one input. -/
def wireSizedWrong : ChangeSpec := { name := "wireSized", fn := fun _ => fun
  | [d1, d2, d3] => { results := [.lit (.bool false)], args := [d1, d2, d3] }
  | _ => none }
def WireSizedWrongFalsely : Prop := wireSizedRow.holds Try.pinned (OpenSpec.ofChange wireSizedWrong)

/-- 'derricklaw04.RdataTells': WHATEVER THE INPUT: true; the input reads as it did. -/
def rdataTellsSpec : ChangeSpec := { name := "rdataTells", fn := fun _ => fun
  | [d1, d2, d3, d4, d5] => { results := [.lit (.bool true)], args := [d1, d2, d3, d4, d5] }
  | _ => none }
def rdataTellsRow : OpenClaim := { program := "ytfepkpindchleaa", sum := "d2a7e3f54846c280079aca23114eb6e8868941a82cf7e06e81ef7540548712c1", func := "derrick/derricklaw04.RdataTells", spec := "rdataTells", inPlace := ["internal/abi.NoEscape"], unfollowed := true, recurses := true, apart := false }
def RdataTellsSaid : Prop := rdataTellsRow.holds Try.pinned (OpenSpec.ofChange rdataTellsSpec)

/-- ITS FALSE NEIGHBOUR: 'it returns false'. Refute it at one input. -/
def rdataTellsWrong : ChangeSpec := { name := "rdataTells", fn := fun _ => fun
  | [d1, d2, d3, d4, d5] => { results := [.lit (.bool false)], args := [d1, d2, d3, d4, d5] }
  | _ => none }
def RdataTellsWrongFalsely : Prop := rdataTellsRow.holds Try.pinned (OpenSpec.ofChange rdataTellsWrong)

/-- 'derricklaw04.RdataVery': WHATEVER THE INPUT: true; the input reads as it did. -/
def rdataVerySpec : ChangeSpec := { name := "rdataVery", fn := fun _ => fun
  | [d1, d2, d3, d4] => { results := [.lit (.bool true)], args := [d1, d2, d3, d4] }
  | _ => none }
def rdataVeryRow : OpenClaim := { program := "ytfepkpindchleaa", sum := "d2a7e3f54846c280079aca23114eb6e8868941a82cf7e06e81ef7540548712c1", func := "derrick/derricklaw04.RdataVery", spec := "rdataVery", inPlace := ["internal/abi.NoEscape"], unfollowed := true, recurses := true, apart := false }
def RdataVerySaid : Prop := rdataVeryRow.holds Try.pinned (OpenSpec.ofChange rdataVerySpec)

/-- ITS FALSE NEIGHBOUR: 'it returns false'. Refute it at one input. -/
def rdataVeryWrong : ChangeSpec := { name := "rdataVery", fn := fun _ => fun
  | [d1, d2, d3, d4] => { results := [.lit (.bool false)], args := [d1, d2, d3, d4] }
  | _ => none }
def RdataVeryWrongFalsely : Prop := rdataVeryRow.holds Try.pinned (OpenSpec.ofChange rdataVeryWrong)

/-- 'derricklaw04.RdataOther': WHATEVER THE INPUT: true; the input reads as it did. -/
def rdataOtherSpec : ChangeSpec := { name := "rdataOther", fn := fun _ => fun
  | [d1, d2] => { results := [.lit (.bool true)], args := [d1, d2] }
  | _ => none }
def rdataOtherRow : OpenClaim := { program := "ytfepkpindchleaa", sum := "d2a7e3f54846c280079aca23114eb6e8868941a82cf7e06e81ef7540548712c1", func := "derrick/derricklaw04.RdataOther", spec := "rdataOther", inPlace := ["internal/abi.NoEscape"], unfollowed := true, recurses := true, apart := false }
def RdataOtherSaid : Prop := rdataOtherRow.holds Try.pinned (OpenSpec.ofChange rdataOtherSpec)

/-- ITS FALSE NEIGHBOUR: 'it returns false'. Refute it at one input. -/
def rdataOtherWrong : ChangeSpec := { name := "rdataOther", fn := fun _ => fun
  | [d1, d2] => { results := [.lit (.bool false)], args := [d1, d2] }
  | _ => none }
def RdataOtherWrongFalsely : Prop := rdataOtherRow.holds Try.pinned (OpenSpec.ofChange rdataOtherWrong)

/-- 'derricklaw04.RdataBack': WHATEVER THE INPUT: true; the input reads as it did. -/
def rdataBackSpec : ChangeSpec := { name := "rdataBack", fn := fun _ => fun
  | [d1, d2] => { results := [.lit (.bool true)], args := [d1, d2] }
  | _ => none }
def rdataBackRow : OpenClaim := { program := "ytfepkpindchleaa", sum := "d2a7e3f54846c280079aca23114eb6e8868941a82cf7e06e81ef7540548712c1", func := "derrick/derricklaw04.RdataBack", spec := "rdataBack", inPlace := ["internal/abi.NoEscape"], unfollowed := true, recurses := true, apart := false }
def RdataBackSaid : Prop := rdataBackRow.holds Try.pinned (OpenSpec.ofChange rdataBackSpec)

/-- ITS FALSE NEIGHBOUR: 'it returns false'. Refute it at one input. -/
def rdataBackWrong : ChangeSpec := { name := "rdataBack", fn := fun _ => fun
  | [d1, d2] => { results := [.lit (.bool false)], args := [d1, d2] }
  | _ => none }
def RdataBackWrongFalsely : Prop := rdataBackRow.holds Try.pinned (OpenSpec.ofChange rdataBackWrong)

/- THE SECOND FORM. 'bulk': how many values and letters a reading holds, each counted each time it is reached (what is shared counts as often as it is met; a slice's spare places count too). A statement '..UptoSaid' is the law's where the arguments, and the package variables that the reading takes, are together of bulk at most 1048576: NARROWER than '..Said'. Prove '..Said' where nothing that the law and all that it calls make is longer than what came in: it says more and counts as full. Else prove '..UptoSaid'. A law counts once. -/
mutual
def uptoBulk {H : Type} : DataW H → Nat
  | .lit (.string bytes) => bytes.length + 1
  | .lit _ => 1
  | .nil => 1
  | .ptr d => uptoBulk d + 1
  | .slice elems spare => uptoBulkAll elems + uptoBulkAll spare + 1
  | .agg parts => uptoBulkAll parts + 1
  | .iface _ d => uptoBulk d + 1
  | .map entries => uptoBulkEntries entries + 1
  | .held _ => 1
def uptoBulkAll {H : Type} : List (DataW H) → Nat
  | [] => 0
  | d :: r => uptoBulk d + uptoBulkAll r
def uptoBulkEntries {H : Type} : List (Lit × DataW H) → Nat
  | [] => 0
  | x :: r => uptoBulkEntry x + uptoBulkEntries r
def uptoBulkEntry {H : Type} : Lit × DataW H → Nat
  | (.string bytes, d) => bytes.length + uptoBulk d + 1
  | (_, d) => uptoBulk d + 1
 end
def uptoSmall : (H : Type) → List (DataW H) → Bool := fun _ ds => decide (uptoBulkAll ds ≤ 1048576)
def OpenSpec.upto (s : _root_.Go.ChangeSpec) : _root_.Go.OpenSpec := { _root_.Go.OpenSpec.ofChange s with cond := some uptoSmall }

/-- 'derricklaw04.RdataPuts', WHERE WHAT IT READS IS OF BULK AT MOST 1048576: true; the input reads as it did. -/
def rdataPutsUptoRow : OpenClaim := { program := "ytfepkpindchleaa", sum := "d2a7e3f54846c280079aca23114eb6e8868941a82cf7e06e81ef7540548712c1", func := "derrick/derricklaw04.RdataPuts", spec := "rdataPuts", unfollowed := true, recurses := true, apart := false, narrowed := true }
def RdataPutsUptoSaid : Prop := rdataPutsUptoRow.holds Try.pinned (OpenSpec.upto rdataPutsSpec)

/-- 'derricklaw03.WirePacks', WHERE WHAT IT READS IS OF BULK AT MOST 1048576: true; the input reads as it did. -/
def wirePacksUptoRow : OpenClaim := { program := "ytfepkpindchleaa", sum := "d2a7e3f54846c280079aca23114eb6e8868941a82cf7e06e81ef7540548712c1", func := "derrick/derricklaw03.WirePacks", spec := "wirePacks", inPlace := ["internal/abi.NoEscape"], unfollowed := true, recurses := true, apart := false, narrowed := true }
def WirePacksUptoSaid : Prop := wirePacksUptoRow.holds Try.pinned (OpenSpec.upto wirePacksSpec)

/-- 'derricklaw03.WireTakes', WHERE WHAT IT READS IS OF BULK AT MOST 1048576: true; the input reads as it did. -/
def wireTakesUptoRow : OpenClaim := { program := "ytfepkpindchleaa", sum := "d2a7e3f54846c280079aca23114eb6e8868941a82cf7e06e81ef7540548712c1", func := "derrick/derricklaw03.WireTakes", spec := "wireTakes", inPlace := ["internal/abi.NoEscape"], unfollowed := true, recurses := true, apart := false, narrowed := true }
def WireTakesUptoSaid : Prop := wireTakesUptoRow.holds Try.pinned (OpenSpec.upto wireTakesSpec)

/-- 'derricklaw03.WireBack', WHERE WHAT IT READS IS OF BULK AT MOST 1048576: true; the input reads as it did. -/
def wireBackUptoRow : OpenClaim := { program := "ytfepkpindchleaa", sum := "d2a7e3f54846c280079aca23114eb6e8868941a82cf7e06e81ef7540548712c1", func := "derrick/derricklaw03.WireBack", spec := "wireBack", inPlace := ["internal/abi.NoEscape"], unfollowed := true, recurses := true, apart := false, narrowed := true }
def WireBackUptoSaid : Prop := wireBackUptoRow.holds Try.pinned (OpenSpec.upto wireBackSpec)

/-- 'derricklaw03.WireName', WHERE WHAT IT READS IS OF BULK AT MOST 1048576: true; the input reads as it did. -/
def wireNameUptoRow : OpenClaim := { program := "ytfepkpindchleaa", sum := "d2a7e3f54846c280079aca23114eb6e8868941a82cf7e06e81ef7540548712c1", func := "derrick/derricklaw03.WireName", spec := "wireName", inPlace := ["internal/abi.NoEscape"], unfollowed := true, recurses := true, apart := false, narrowed := true }
def WireNameUptoSaid : Prop := wireNameUptoRow.holds Try.pinned (OpenSpec.upto wireNameSpec)

/-- 'derricklaw03.WireAgain', WHERE WHAT IT READS IS OF BULK AT MOST 1048576: true; the input reads as it did. -/
def wireAgainUptoRow : OpenClaim := { program := "ytfepkpindchleaa", sum := "d2a7e3f54846c280079aca23114eb6e8868941a82cf7e06e81ef7540548712c1", func := "derrick/derricklaw03.WireAgain", spec := "wireAgain", inPlace := ["internal/abi.NoEscape"], unfollowed := true, recurses := true, apart := false, narrowed := true }
def WireAgainUptoSaid : Prop := wireAgainUptoRow.holds Try.pinned (OpenSpec.upto wireAgainSpec)

/-- 'derricklaw03.WireShort', WHERE WHAT IT READS IS OF BULK AT MOST 1048576: true; the input reads as it did. -/
def wireShortUptoRow : OpenClaim := { program := "ytfepkpindchleaa", sum := "d2a7e3f54846c280079aca23114eb6e8868941a82cf7e06e81ef7540548712c1", func := "derrick/derricklaw03.WireShort", spec := "wireShort", inPlace := ["internal/abi.NoEscape"], unfollowed := true, recurses := true, apart := false, narrowed := true }
def WireShortUptoSaid : Prop := wireShortUptoRow.holds Try.pinned (OpenSpec.upto wireShortSpec)

/-- 'derricklaw03.WireSized', WHERE WHAT IT READS IS OF BULK AT MOST 1048576: true; the input reads as it did. -/
def wireSizedUptoRow : OpenClaim := { program := "ytfepkpindchleaa", sum := "d2a7e3f54846c280079aca23114eb6e8868941a82cf7e06e81ef7540548712c1", func := "derrick/derricklaw03.WireSized", spec := "wireSized", inPlace := ["internal/abi.NoEscape"], unfollowed := true, recurses := true, apart := false, narrowed := true }
def WireSizedUptoSaid : Prop := wireSizedUptoRow.holds Try.pinned (OpenSpec.upto wireSizedSpec)

/-- 'derricklaw04.RdataTells', WHERE WHAT IT READS IS OF BULK AT MOST 1048576: true; the input reads as it did. -/
def rdataTellsUptoRow : OpenClaim := { program := "ytfepkpindchleaa", sum := "d2a7e3f54846c280079aca23114eb6e8868941a82cf7e06e81ef7540548712c1", func := "derrick/derricklaw04.RdataTells", spec := "rdataTells", inPlace := ["internal/abi.NoEscape"], unfollowed := true, recurses := true, apart := false, narrowed := true }
def RdataTellsUptoSaid : Prop := rdataTellsUptoRow.holds Try.pinned (OpenSpec.upto rdataTellsSpec)

/-- 'derricklaw04.RdataVery', WHERE WHAT IT READS IS OF BULK AT MOST 1048576: true; the input reads as it did. -/
def rdataVeryUptoRow : OpenClaim := { program := "ytfepkpindchleaa", sum := "d2a7e3f54846c280079aca23114eb6e8868941a82cf7e06e81ef7540548712c1", func := "derrick/derricklaw04.RdataVery", spec := "rdataVery", inPlace := ["internal/abi.NoEscape"], unfollowed := true, recurses := true, apart := false, narrowed := true }
def RdataVeryUptoSaid : Prop := rdataVeryUptoRow.holds Try.pinned (OpenSpec.upto rdataVerySpec)

/-- 'derricklaw04.RdataOther', WHERE WHAT IT READS IS OF BULK AT MOST 1048576: true; the input reads as it did. -/
def rdataOtherUptoRow : OpenClaim := { program := "ytfepkpindchleaa", sum := "d2a7e3f54846c280079aca23114eb6e8868941a82cf7e06e81ef7540548712c1", func := "derrick/derricklaw04.RdataOther", spec := "rdataOther", inPlace := ["internal/abi.NoEscape"], unfollowed := true, recurses := true, apart := false, narrowed := true }
def RdataOtherUptoSaid : Prop := rdataOtherUptoRow.holds Try.pinned (OpenSpec.upto rdataOtherSpec)

/-- 'derricklaw04.RdataBack', WHERE WHAT IT READS IS OF BULK AT MOST 1048576: true; the input reads as it did. -/
def rdataBackUptoRow : OpenClaim := { program := "ytfepkpindchleaa", sum := "d2a7e3f54846c280079aca23114eb6e8868941a82cf7e06e81ef7540548712c1", func := "derrick/derricklaw04.RdataBack", spec := "rdataBack", inPlace := ["internal/abi.NoEscape"], unfollowed := true, recurses := true, apart := false, narrowed := true }
def RdataBackUptoSaid : Prop := rdataBackUptoRow.holds Try.pinned (OpenSpec.upto rdataBackSpec)

end Rows
end Go.Proofs.Ytfepkpindchleaa
