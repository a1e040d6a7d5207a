/-
  No cell of these rows narrows 'for every input' (looked for: loops, veiled, ifaces, maps, wideKeys, modest, calm, conditions, laid).
  DERIVED. THE GIVEN ROWS OF THIS SEAT. 12 by the template 'for every input the law returns true; each argument reads behind the call as it read before'; 0 by the template 'total and deterministic' (their statements: YtlkpiegllammdaaTotals.lean).
  GIVEN WITH THE SEED: the statements are not yours to turn. If you find one false, say at which input.
  Laid BY PROGRAM, IN A SANDBOX (cutbox-rows.mjs): the forced cells as the released guide's own fill.sh prints them over the translation 242aceabe6765b82… (all of the seat's roots in one cut). By AI agents, Wed Nov 11 2026. No macro, syntax, notation, axiom, sorry.
-/
import Derived.Test.YtlkpiegllammdaaChecked
import GoSem.Claim
import GoSem.ClaimJoined
import GoSem.ClaimMapViews
import Derived.JoinedTies
import Derived.KernelRfl
namespace Go.Proofs.Ytlkpiegllammdaa
/- THE CELL 'sum', in the pinned program and in every row, IS THE sha256 OF THE DUMP (.gsa) THAT YtlkpiegllammdaaProg.lean LOADS. Nothing in Lean hashes anything: it is a label: what it is worth is what the hold of that sum in a sandbox is worth. -/
noncomputable def Try.pinned : Pinned := { name := "ytlkpiegllammdaa", sum := "242aceabe6765b82239d2878a9b72aad3bc3cae68b51c11d732db47454fa79f0", checked := Try.checked }
namespace Rows
def none {H : Type} : Left H := { results := [], args := [] }

/-- 'derricklaw05.RecordVery': WHATEVER THE INPUT: true; the input reads as it did. -/
def recordVerySpec : ChangeSpec := { name := "recordVery", fn := fun _ => fun
  | [d1, d2, d3] => { results := [.lit (.bool true)], args := [d1, d2, d3] }
  | _ => none }
def recordVeryRow : OpenClaim := { program := "ytlkpiegllammdaa", sum := "242aceabe6765b82239d2878a9b72aad3bc3cae68b51c11d732db47454fa79f0", func := "derrick/derricklaw05.RecordVery", spec := "recordVery", inPlace := ["internal/abi.NoEscape"], unfollowed := true, recurses := true, apart := false }
def RecordVerySaid : Prop := recordVeryRow.holds Try.pinned (OpenSpec.ofChange recordVerySpec)

/-- ITS FALSE NEIGHBOUR: 'it returns false'. Refute it at one input. -/
def recordVeryWrong : ChangeSpec := { name := "recordVery", fn := fun _ => fun
  | [d1, d2, d3] => { results := [.lit (.bool false)], args := [d1, d2, d3] }
  | _ => none }
def RecordVeryWrongFalsely : Prop := recordVeryRow.holds Try.pinned (OpenSpec.ofChange recordVeryWrong)

/-- 'derricklaw05.RecordSame': WHATEVER THE INPUT: true; the input reads as it did. -/
def recordSameSpec : ChangeSpec := { name := "recordSame", fn := fun _ => fun
  | [d1, d2, d3] => { results := [.lit (.bool true)], args := [d1, d2, d3] }
  | _ => none }
def recordSameRow : OpenClaim := { program := "ytlkpiegllammdaa", sum := "242aceabe6765b82239d2878a9b72aad3bc3cae68b51c11d732db47454fa79f0", func := "derrick/derricklaw05.RecordSame", spec := "recordSame", inPlace := ["internal/abi.NoEscape"], unfollowed := true, recurses := true, apart := false }
def RecordSameSaid : Prop := recordSameRow.holds Try.pinned (OpenSpec.ofChange recordSameSpec)

/-- ITS FALSE NEIGHBOUR: 'it returns false'. Refute it at one input. -/
def recordSameWrong : ChangeSpec := { name := "recordSame", fn := fun _ => fun
  | [d1, d2, d3] => { results := [.lit (.bool false)], args := [d1, d2, d3] }
  | _ => none }
def RecordSameWrongFalsely : Prop := recordSameRow.holds Try.pinned (OpenSpec.ofChange recordSameWrong)

/-- 'derricklaw05.RecordPuts': WHATEVER THE INPUT: true; the input reads as it did. -/
def recordPutsSpec : ChangeSpec := { name := "recordPuts", fn := fun _ => fun
  | [d1, d2] => { results := [.lit (.bool true)], args := [d1, d2] }
  | _ => none }
def recordPutsRow : OpenClaim := { program := "ytlkpiegllammdaa", sum := "242aceabe6765b82239d2878a9b72aad3bc3cae68b51c11d732db47454fa79f0", func := "derrick/derricklaw05.RecordPuts", spec := "recordPuts", inPlace := ["internal/abi.NoEscape"], unfollowed := true, recurses := true, apart := false }
def RecordPutsSaid : Prop := recordPutsRow.holds Try.pinned (OpenSpec.ofChange recordPutsSpec)

/-- ITS FALSE NEIGHBOUR: 'it returns false'. Refute it at one input. -/
def recordPutsWrong : ChangeSpec := { name := "recordPuts", fn := fun _ => fun
  | [d1, d2] => { results := [.lit (.bool false)], args := [d1, d2] }
  | _ => none }
def RecordPutsWrongFalsely : Prop := recordPutsRow.holds Try.pinned (OpenSpec.ofChange recordPutsWrong)

/-- 'derricklaw05.RecordTells': WHATEVER THE INPUT: true; the input reads as it did. -/
def recordTellsSpec : ChangeSpec := { name := "recordTells", fn := fun _ => fun
  | [d1, d2, d3, d4] => { results := [.lit (.bool true)], args := [d1, d2, d3, d4] }
  | _ => none }
def recordTellsRow : OpenClaim := { program := "ytlkpiegllammdaa", sum := "242aceabe6765b82239d2878a9b72aad3bc3cae68b51c11d732db47454fa79f0", func := "derrick/derricklaw05.RecordTells", spec := "recordTells", inPlace := ["internal/abi.NoEscape"], unfollowed := true, recurses := true, apart := false }
def RecordTellsSaid : Prop := recordTellsRow.holds Try.pinned (OpenSpec.ofChange recordTellsSpec)

/-- ITS FALSE NEIGHBOUR: 'it returns false'. Refute it at one input. -/
def recordTellsWrong : ChangeSpec := { name := "recordTells", fn := fun _ => fun
  | [d1, d2, d3, d4] => { results := [.lit (.bool false)], args := [d1, d2, d3, d4] }
  | _ => none }
def RecordTellsWrongFalsely : Prop := recordTellsRow.holds Try.pinned (OpenSpec.ofChange recordTellsWrong)

/-- 'derricklaw05.RecordBack': WHATEVER THE INPUT: true; the input reads as it did. -/
def recordBackSpec : ChangeSpec := { name := "recordBack", fn := fun _ => fun
  | [d1, d2] => { results := [.lit (.bool true)], args := [d1, d2] }
  | _ => none }
def recordBackRow : OpenClaim := { program := "ytlkpiegllammdaa", sum := "242aceabe6765b82239d2878a9b72aad3bc3cae68b51c11d732db47454fa79f0", func := "derrick/derricklaw05.RecordBack", spec := "recordBack", inPlace := ["internal/abi.NoEscape"], unfollowed := true, recurses := true, apart := false }
def RecordBackSaid : Prop := recordBackRow.holds Try.pinned (OpenSpec.ofChange recordBackSpec)

/-- ITS FALSE NEIGHBOUR: 'it returns false'. Refute it at one input. -/
def recordBackWrong : ChangeSpec := { name := "recordBack", fn := fun _ => fun
  | [d1, d2] => { results := [.lit (.bool false)], args := [d1, d2] }
  | _ => none }
def RecordBackWrongFalsely : Prop := recordBackRow.holds Try.pinned (OpenSpec.ofChange recordBackWrong)

/-- 'derricklaw06.MessageTells': WHATEVER THE INPUT: true; the input reads as it did. -/
def messageTellsSpec : ChangeSpec := { name := "messageTells", fn := fun _ => fun
  | [d1, d2] => { results := [.lit (.bool true)], args := [d1, d2] }
  | _ => none }
def messageTellsRow : OpenClaim := { program := "ytlkpiegllammdaa", sum := "242aceabe6765b82239d2878a9b72aad3bc3cae68b51c11d732db47454fa79f0", func := "derrick/derricklaw06.MessageTells", spec := "messageTells", inPlace := ["internal/abi.NoEscape"], unfollowed := true, recurses := true, apart := false }
def MessageTellsSaid : Prop := messageTellsRow.holds Try.pinned (OpenSpec.ofChange messageTellsSpec)

/-- ITS FALSE NEIGHBOUR: 'it returns false'. Refute it at one input. -/
def messageTellsWrong : ChangeSpec := { name := "messageTells", fn := fun _ => fun
  | [d1, d2] => { results := [.lit (.bool false)], args := [d1, d2] }
  | _ => none }
def MessageTellsWrongFalsely : Prop := messageTellsRow.holds Try.pinned (OpenSpec.ofChange messageTellsWrong)

/-- 'derricklaw06.MessageTakes': WHATEVER THE INPUT: true; the input reads as it did. -/
def messageTakesSpec : ChangeSpec := { name := "messageTakes", fn := fun _ => fun
  | [d] => { results := [.lit (.bool true)], args := [d] }
  | _ => none }
def messageTakesRow : OpenClaim := { program := "ytlkpiegllammdaa", sum := "242aceabe6765b82239d2878a9b72aad3bc3cae68b51c11d732db47454fa79f0", func := "derrick/derricklaw06.MessageTakes", spec := "messageTakes", inPlace := ["internal/abi.NoEscape"], unfollowed := true, recurses := true, apart := false }
def MessageTakesSaid : Prop := messageTakesRow.holds Try.pinned (OpenSpec.ofChange messageTakesSpec)

/-- ITS FALSE NEIGHBOUR: 'it returns false'. Refute it at one input. -/
def messageTakesWrong : ChangeSpec := { name := "messageTakes", fn := fun _ => fun
  | [d] => { results := [.lit (.bool false)], args := [d] }
  | _ => none }
def MessageTakesWrongFalsely : Prop := messageTakesRow.holds Try.pinned (OpenSpec.ofChange messageTakesWrong)

/-- 'derricklaw06.MessageBack': WHATEVER THE INPUT: true; the input reads as it did. -/
def messageBackSpec : ChangeSpec := { name := "messageBack", fn := fun _ => fun
  | [d1, d2] => { results := [.lit (.bool true)], args := [d1, d2] }
  | _ => none }
def messageBackRow : OpenClaim := { program := "ytlkpiegllammdaa", sum := "242aceabe6765b82239d2878a9b72aad3bc3cae68b51c11d732db47454fa79f0", func := "derrick/derricklaw06.MessageBack", spec := "messageBack", inPlace := ["internal/abi.NoEscape"], unfollowed := true, recurses := true, apart := false }
def MessageBackSaid : Prop := messageBackRow.holds Try.pinned (OpenSpec.ofChange messageBackSpec)

/-- ITS FALSE NEIGHBOUR: 'it returns false'. Refute it at one input. -/
def messageBackWrong : ChangeSpec := { name := "messageBack", fn := fun _ => fun
  | [d1, d2] => { results := [.lit (.bool false)], args := [d1, d2] }
  | _ => none }
def MessageBackWrongFalsely : Prop := messageBackRow.holds Try.pinned (OpenSpec.ofChange messageBackWrong)

/-- 'derricklaw06.MessageVery': WHATEVER THE INPUT: true; the input reads as it did. -/
def messageVerySpec : ChangeSpec := { name := "messageVery", fn := fun _ => fun
  | [d] => { results := [.lit (.bool true)], args := [d] }
  | _ => none }
def messageVeryRow : OpenClaim := { program := "ytlkpiegllammdaa", sum := "242aceabe6765b82239d2878a9b72aad3bc3cae68b51c11d732db47454fa79f0", func := "derrick/derricklaw06.MessageVery", spec := "messageVery", inPlace := ["internal/abi.NoEscape"], unfollowed := true, recurses := true, apart := false }
def MessageVerySaid : Prop := messageVeryRow.holds Try.pinned (OpenSpec.ofChange messageVerySpec)

/-- ITS FALSE NEIGHBOUR: 'it returns false'. Refute it at one input. -/
def messageVeryWrong : ChangeSpec := { name := "messageVery", fn := fun _ => fun
  | [d] => { results := [.lit (.bool false)], args := [d] }
  | _ => none }
def MessageVeryWrongFalsely : Prop := messageVeryRow.holds Try.pinned (OpenSpec.ofChange messageVeryWrong)

/-- 'derricklaw06.MessageReply': WHATEVER THE INPUT: true; the input reads as it did. -/
def messageReplySpec : ChangeSpec := { name := "messageReply", fn := fun _ => fun
  | [d1, d2] => { results := [.lit (.bool true)], args := [d1, d2] }
  | _ => none }
def messageReplyRow : OpenClaim := { program := "ytlkpiegllammdaa", sum := "242aceabe6765b82239d2878a9b72aad3bc3cae68b51c11d732db47454fa79f0", func := "derrick/derricklaw06.MessageReply", spec := "messageReply", inPlace := ["internal/abi.NoEscape"], unfollowed := true, recurses := true, apart := false }
def MessageReplySaid : Prop := messageReplyRow.holds Try.pinned (OpenSpec.ofChange messageReplySpec)

/-- ITS FALSE NEIGHBOUR: 'it returns false'. Refute it at one input. -/
def messageReplyWrong : ChangeSpec := { name := "messageReply", fn := fun _ => fun
  | [d1, d2] => { results := [.lit (.bool false)], args := [d1, d2] }
  | _ => none }
def MessageReplyWrongFalsely : Prop := messageReplyRow.holds Try.pinned (OpenSpec.ofChange messageReplyWrong)

/-- 'derricklaw06.MessageCuts': WHATEVER THE INPUT: true; the input reads as it did. -/
def messageCutsSpec : ChangeSpec := { name := "messageCuts", fn := fun _ => fun
  | [d1, d2] => { results := [.lit (.bool true)], args := [d1, d2] }
  | _ => none }
def messageCutsRow : OpenClaim := { program := "ytlkpiegllammdaa", sum := "242aceabe6765b82239d2878a9b72aad3bc3cae68b51c11d732db47454fa79f0", func := "derrick/derricklaw06.MessageCuts", spec := "messageCuts", inPlace := ["internal/abi.NoEscape"], unfollowed := true, recurses := true, apart := false }
def MessageCutsSaid : Prop := messageCutsRow.holds Try.pinned (OpenSpec.ofChange messageCutsSpec)

/-- ITS FALSE NEIGHBOUR: 'it returns false'. Refute it at one input. -/
def messageCutsWrong : ChangeSpec := { name := "messageCuts", fn := fun _ => fun
  | [d1, d2] => { results := [.lit (.bool false)], args := [d1, d2] }
  | _ => none }
def MessageCutsWrongFalsely : Prop := messageCutsRow.holds Try.pinned (OpenSpec.ofChange messageCutsWrong)

/-- 'derricklaw06.MessageFits': WHATEVER THE INPUT: true; the input reads as it did. -/
def messageFitsSpec : ChangeSpec := { name := "messageFits", fn := fun _ => fun
  | [d1, d2] => { results := [.lit (.bool true)], args := [d1, d2] }
  | _ => none }
def messageFitsRow : OpenClaim := { program := "ytlkpiegllammdaa", sum := "242aceabe6765b82239d2878a9b72aad3bc3cae68b51c11d732db47454fa79f0", func := "derrick/derricklaw06.MessageFits", spec := "messageFits", inPlace := ["internal/abi.NoEscape"], unfollowed := true, recurses := true, apart := false }
def MessageFitsSaid : Prop := messageFitsRow.holds Try.pinned (OpenSpec.ofChange messageFitsSpec)

/-- ITS FALSE NEIGHBOUR: 'it returns false'. Refute it at one input. -/
def messageFitsWrong : ChangeSpec := { name := "messageFits", fn := fun _ => fun
  | [d1, d2] => { results := [.lit (.bool false)], args := [d1, d2] }
  | _ => none }
def MessageFitsWrongFalsely : Prop := messageFitsRow.holds Try.pinned (OpenSpec.ofChange messageFitsWrong)

/- THE SECOND FORM. 'bulk': how many values and letters a reading holds, each counted each time it is reached (what is shared counts as often as it is met; a slice's spare places count too). A statement '..UptoSaid' is the law's where the arguments, and the package variables that the reading takes, are together of bulk at most 1048576: NARROWER than '..Said'. Prove '..Said' where nothing that the law and all that it calls make is longer than what came in: it says more and counts as full. Else prove '..UptoSaid'. A law counts once. -/
mutual
def uptoBulk {H : Type} : DataW H → Nat
  | .lit (.string bytes) => bytes.length + 1
  | .lit _ => 1
  | .nil => 1
  | .ptr d => uptoBulk d + 1
  | .slice elems spare => uptoBulkAll elems + uptoBulkAll spare + 1
  | .agg parts => uptoBulkAll parts + 1
  | .iface _ d => uptoBulk d + 1
  | .map entries => uptoBulkEntries entries + 1
  | .held _ => 1
def uptoBulkAll {H : Type} : List (DataW H) → Nat
  | [] => 0
  | d :: r => uptoBulk d + uptoBulkAll r
def uptoBulkEntries {H : Type} : List (Lit × DataW H) → Nat
  | [] => 0
  | x :: r => uptoBulkEntry x + uptoBulkEntries r
def uptoBulkEntry {H : Type} : Lit × DataW H → Nat
  | (.string bytes, d) => bytes.length + uptoBulk d + 1
  | (_, d) => uptoBulk d + 1
 end
def uptoSmall : (H : Type) → List (DataW H) → Bool := fun _ ds => decide (uptoBulkAll ds ≤ 1048576)
def OpenSpec.upto (s : _root_.Go.ChangeSpec) : _root_.Go.OpenSpec := { _root_.Go.OpenSpec.ofChange s with cond := some uptoSmall }

/-- 'derricklaw05.RecordVery', WHERE WHAT IT READS IS OF BULK AT MOST 1048576: true; the input reads as it did. -/
def recordVeryUptoRow : OpenClaim := { program := "ytlkpiegllammdaa", sum := "242aceabe6765b82239d2878a9b72aad3bc3cae68b51c11d732db47454fa79f0", func := "derrick/derricklaw05.RecordVery", spec := "recordVery", inPlace := ["internal/abi.NoEscape"], unfollowed := true, recurses := true, apart := false, narrowed := true }
def RecordVeryUptoSaid : Prop := recordVeryUptoRow.holds Try.pinned (OpenSpec.upto recordVerySpec)

/-- 'derricklaw05.RecordSame', WHERE WHAT IT READS IS OF BULK AT MOST 1048576: true; the input reads as it did. -/
def recordSameUptoRow : OpenClaim := { program := "ytlkpiegllammdaa", sum := "242aceabe6765b82239d2878a9b72aad3bc3cae68b51c11d732db47454fa79f0", func := "derrick/derricklaw05.RecordSame", spec := "recordSame", inPlace := ["internal/abi.NoEscape"], unfollowed := true, recurses := true, apart := false, narrowed := true }
def RecordSameUptoSaid : Prop := recordSameUptoRow.holds Try.pinned (OpenSpec.upto recordSameSpec)

/-- 'derricklaw05.RecordPuts', WHERE WHAT IT READS IS OF BULK AT MOST 1048576: true; the input reads as it did. -/
def recordPutsUptoRow : OpenClaim := { program := "ytlkpiegllammdaa", sum := "242aceabe6765b82239d2878a9b72aad3bc3cae68b51c11d732db47454fa79f0", func := "derrick/derricklaw05.RecordPuts", spec := "recordPuts", inPlace := ["internal/abi.NoEscape"], unfollowed := true, recurses := true, apart := false, narrowed := true }
def RecordPutsUptoSaid : Prop := recordPutsUptoRow.holds Try.pinned (OpenSpec.upto recordPutsSpec)

/-- 'derricklaw05.RecordTells', WHERE WHAT IT READS IS OF BULK AT MOST 1048576: true; the input reads as it did. -/
def recordTellsUptoRow : OpenClaim := { program := "ytlkpiegllammdaa", sum := "242aceabe6765b82239d2878a9b72aad3bc3cae68b51c11d732db47454fa79f0", func := "derrick/derricklaw05.RecordTells", spec := "recordTells", inPlace := ["internal/abi.NoEscape"], unfollowed := true, recurses := true, apart := false, narrowed := true }
def RecordTellsUptoSaid : Prop := recordTellsUptoRow.holds Try.pinned (OpenSpec.upto recordTellsSpec)

/-- 'derricklaw05.RecordBack', WHERE WHAT IT READS IS OF BULK AT MOST 1048576: true; the input reads as it did. -/
def recordBackUptoRow : OpenClaim := { program := "ytlkpiegllammdaa", sum := "242aceabe6765b82239d2878a9b72aad3bc3cae68b51c11d732db47454fa79f0", func := "derrick/derricklaw05.RecordBack", spec := "recordBack", inPlace := ["internal/abi.NoEscape"], unfollowed := true, recurses := true, apart := false, narrowed := true }
def RecordBackUptoSaid : Prop := recordBackUptoRow.holds Try.pinned (OpenSpec.upto recordBackSpec)

/-- 'derricklaw06.MessageTells', WHERE WHAT IT READS IS OF BULK AT MOST 1048576: true; the input reads as it did. -/
def messageTellsUptoRow : OpenClaim := { program := "ytlkpiegllammdaa", sum := "242aceabe6765b82239d2878a9b72aad3bc3cae68b51c11d732db47454fa79f0", func := "derrick/derricklaw06.MessageTells", spec := "messageTells", inPlace := ["internal/abi.NoEscape"], unfollowed := true, recurses := true, apart := false, narrowed := true }
def MessageTellsUptoSaid : Prop := messageTellsUptoRow.holds Try.pinned (OpenSpec.upto messageTellsSpec)

/-- 'derricklaw06.MessageTakes', WHERE WHAT IT READS IS OF BULK AT MOST 1048576: true; the input reads as it did. -/
def messageTakesUptoRow : OpenClaim := { program := "ytlkpiegllammdaa", sum := "242aceabe6765b82239d2878a9b72aad3bc3cae68b51c11d732db47454fa79f0", func := "derrick/derricklaw06.MessageTakes", spec := "messageTakes", inPlace := ["internal/abi.NoEscape"], unfollowed := true, recurses := true, apart := false, narrowed := true }
def MessageTakesUptoSaid : Prop := messageTakesUptoRow.holds Try.pinned (OpenSpec.upto messageTakesSpec)

/-- 'derricklaw06.MessageBack', WHERE WHAT IT READS IS OF BULK AT MOST 1048576: true; the input reads as it did. -/
def messageBackUptoRow : OpenClaim := { program := "ytlkpiegllammdaa", sum := "242aceabe6765b82239d2878a9b72aad3bc3cae68b51c11d732db47454fa79f0", func := "derrick/derricklaw06.MessageBack", spec := "messageBack", inPlace := ["internal/abi.NoEscape"], unfollowed := true, recurses := true, apart := false, narrowed := true }
def MessageBackUptoSaid : Prop := messageBackUptoRow.holds Try.pinned (OpenSpec.upto messageBackSpec)

/-- 'derricklaw06.MessageVery', WHERE WHAT IT READS IS OF BULK AT MOST 1048576: true; the input reads as it did. -/
def messageVeryUptoRow : OpenClaim := { program := "ytlkpiegllammdaa", sum := "242aceabe6765b82239d2878a9b72aad3bc3cae68b51c11d732db47454fa79f0", func := "derrick/derricklaw06.MessageVery", spec := "messageVery", inPlace := ["internal/abi.NoEscape"], unfollowed := true, recurses := true, apart := false, narrowed := true }
def MessageVeryUptoSaid : Prop := messageVeryUptoRow.holds Try.pinned (OpenSpec.upto messageVerySpec)

/-- 'derricklaw06.MessageReply', WHERE WHAT IT READS IS OF BULK AT MOST 1048576: true; the input reads as it did. -/
def messageReplyUptoRow : OpenClaim := { program := "ytlkpiegllammdaa", sum := "242aceabe6765b82239d2878a9b72aad3bc3cae68b51c11d732db47454fa79f0", func := "derrick/derricklaw06.MessageReply", spec := "messageReply", inPlace := ["internal/abi.NoEscape"], unfollowed := true, recurses := true, apart := false, narrowed := true }
def MessageReplyUptoSaid : Prop := messageReplyUptoRow.holds Try.pinned (OpenSpec.upto messageReplySpec)

/-- 'derricklaw06.MessageCuts', WHERE WHAT IT READS IS OF BULK AT MOST 1048576: true; the input reads as it did. -/
def messageCutsUptoRow : OpenClaim := { program := "ytlkpiegllammdaa", sum := "242aceabe6765b82239d2878a9b72aad3bc3cae68b51c11d732db47454fa79f0", func := "derrick/derricklaw06.MessageCuts", spec := "messageCuts", inPlace := ["internal/abi.NoEscape"], unfollowed := true, recurses := true, apart := false, narrowed := true }
def MessageCutsUptoSaid : Prop := messageCutsUptoRow.holds Try.pinned (OpenSpec.upto messageCutsSpec)

/-- 'derricklaw06.MessageFits', WHERE WHAT IT READS IS OF BULK AT MOST 1048576: true; the input reads as it did. -/
def messageFitsUptoRow : OpenClaim := { program := "ytlkpiegllammdaa", sum := "242aceabe6765b82239d2878a9b72aad3bc3cae68b51c11d732db47454fa79f0", func := "derrick/derricklaw06.MessageFits", spec := "messageFits", inPlace := ["internal/abi.NoEscape"], unfollowed := true, recurses := true, apart := false, narrowed := true }
def MessageFitsUptoSaid : Prop := messageFitsUptoRow.holds Try.pinned (OpenSpec.upto messageFitsSpec)

end Rows
end Go.Proofs.Ytlkpiegllammdaa
