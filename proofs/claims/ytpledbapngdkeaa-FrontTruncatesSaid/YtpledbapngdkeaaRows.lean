/-
  No cell of these rows narrows 'for every input' (looked for: loops, veiled, ifaces, maps, wideKeys, modest, calm, conditions, laid).
  DERIVED. THE GIVEN ROWS OF THIS SEAT. 10 by the template 'for every input the law returns true; each argument reads behind the call as it read before'; 0 by the template 'total and deterministic' (their statements: YtpledbapngdkeaaTotals.lean).
  GIVEN WITH THE SEED: the statements are not yours to turn. If you find one false, say at which input.
  Laid BY PROGRAM, IN A SANDBOX (cutbox-rows.mjs): the forced cells as the released guide's own fill.sh prints them over the translation 7fee00ebc4299889… (all of the seat's roots in one cut). By AI agents, Wed Nov 11 2026. No macro, syntax, notation, axiom, sorry.
-/
import Derived.Test.YtpledbapngdkeaaChecked
import GoSem.Claim
import GoSem.ClaimJoined
import GoSem.ClaimMapViews
import Derived.JoinedTies
import Derived.KernelRfl
namespace Go.Proofs.Ytpledbapngdkeaa
/- THE CELL 'sum', in the pinned program and in every row, IS THE sha256 OF THE DUMP (.gsa) THAT YtpledbapngdkeaaProg.lean LOADS. Nothing in Lean hashes anything: it is a label: what it is worth is what the hold of that sum in a sandbox is worth. -/
noncomputable def Try.pinned : Pinned := { name := "ytpledbapngdkeaa", sum := "7fee00ebc42998896e5009c2a16b821cf5fed4442e88ead5aaa486b1b3f6c67e", checked := Try.checked }
namespace Rows
def none {H : Type} : Left H := { results := [], args := [] }

/-- 'derricklaw19.AskPackets': WHATEVER THE INPUT: true; the input reads as it did. -/
def askPacketsSpec : ChangeSpec := { name := "askPackets", fn := fun _ => fun
  | [d1, d2] => { results := [.lit (.bool true)], args := [d1, d2] }
  | _ => none }
def askPacketsRow : OpenClaim := { program := "ytpledbapngdkeaa", sum := "7fee00ebc42998896e5009c2a16b821cf5fed4442e88ead5aaa486b1b3f6c67e", func := "derrick/derricklaw19.AskPackets", spec := "askPackets", unfollowed := true, recurses := true, apart := false }
def AskPacketsSaid : Prop := askPacketsRow.holds Try.pinned (OpenSpec.ofChange askPacketsSpec)

/-- ITS FALSE NEIGHBOUR: 'it returns false'. Refute it at one input. -/
def askPacketsWrong : ChangeSpec := { name := "askPackets", fn := fun _ => fun
  | [d1, d2] => { results := [.lit (.bool false)], args := [d1, d2] }
  | _ => none }
def AskPacketsWrongFalsely : Prop := askPacketsRow.holds Try.pinned (OpenSpec.ofChange askPacketsWrong)

/-- 'derricklaw19.AskOnes': WHATEVER THE INPUT: true; the input reads as it did. -/
def askOnesSpec : ChangeSpec := { name := "askOnes", fn := fun _ => fun
  | [d] => { results := [.lit (.bool true)], args := [d] }
  | _ => none }
def askOnesRow : OpenClaim := { program := "ytpledbapngdkeaa", sum := "7fee00ebc42998896e5009c2a16b821cf5fed4442e88ead5aaa486b1b3f6c67e", func := "derrick/derricklaw19.AskOnes", spec := "askOnes", unfollowed := true, recurses := true, apart := false }
def AskOnesSaid : Prop := askOnesRow.holds Try.pinned (OpenSpec.ofChange askOnesSpec)

/-- ITS FALSE NEIGHBOUR: 'it returns false'. Refute it at one input. -/
def askOnesWrong : ChangeSpec := { name := "askOnes", fn := fun _ => fun
  | [d] => { results := [.lit (.bool false)], args := [d] }
  | _ => none }
def AskOnesWrongFalsely : Prop := askOnesRow.holds Try.pinned (OpenSpec.ofChange askOnesWrong)

/-- 'derricklaw19.AskLate': WHATEVER THE INPUT: true; the input reads as it did. -/
def askLateSpec : ChangeSpec := { name := "askLate", fn := fun _ => fun
  | [d1, d2, d3, d4] => { results := [.lit (.bool true)], args := [d1, d2, d3, d4] }
  | _ => none }
def askLateRow : OpenClaim := { program := "ytpledbapngdkeaa", sum := "7fee00ebc42998896e5009c2a16b821cf5fed4442e88ead5aaa486b1b3f6c67e", func := "derrick/derricklaw19.AskLate", spec := "askLate", unfollowed := true, recurses := true, apart := false }
def AskLateSaid : Prop := askLateRow.holds Try.pinned (OpenSpec.ofChange askLateSpec)

/-- ITS FALSE NEIGHBOUR: 'it returns false'. Refute it at one input. -/
def askLateWrong : ChangeSpec := { name := "askLate", fn := fun _ => fun
  | [d1, d2, d3, d4] => { results := [.lit (.bool false)], args := [d1, d2, d3, d4] }
  | _ => none }
def AskLateWrongFalsely : Prop := askLateRow.holds Try.pinned (OpenSpec.ofChange askLateWrong)

/-- 'derricklaw19.AskOthers': WHATEVER THE INPUT: true; the input reads as it did. -/
def askOthersSpec : ChangeSpec := { name := "askOthers", fn := fun _ => fun
  | [d1, d2, d3, d4] => { results := [.lit (.bool true)], args := [d1, d2, d3, d4] }
  | _ => none }
def askOthersRow : OpenClaim := { program := "ytpledbapngdkeaa", sum := "7fee00ebc42998896e5009c2a16b821cf5fed4442e88ead5aaa486b1b3f6c67e", func := "derrick/derricklaw19.AskOthers", spec := "askOthers", unfollowed := true, recurses := true, apart := false }
def AskOthersSaid : Prop := askOthersRow.holds Try.pinned (OpenSpec.ofChange askOthersSpec)

/-- ITS FALSE NEIGHBOUR: 'it returns false'. Refute it at one input. -/
def askOthersWrong : ChangeSpec := { name := "askOthers", fn := fun _ => fun
  | [d1, d2, d3, d4] => { results := [.lit (.bool false)], args := [d1, d2, d3, d4] }
  | _ => none }
def AskOthersWrongFalsely : Prop := askOthersRow.holds Try.pinned (OpenSpec.ofChange askOthersWrong)

/-- 'derricklaw22.FrontAnswers': WHATEVER THE INPUT: true; the input reads as it did. -/
def frontAnswersSpec : ChangeSpec := { name := "frontAnswers", fn := fun _ => fun
  | [d1, d2, d3] => { results := [.lit (.bool true)], args := [d1, d2, d3] }
  | _ => none }
def frontAnswersRow : OpenClaim := { program := "ytpledbapngdkeaa", sum := "7fee00ebc42998896e5009c2a16b821cf5fed4442e88ead5aaa486b1b3f6c67e", func := "derrick/derricklaw22.FrontAnswers", spec := "frontAnswers", inPlace := ["internal/abi.NoEscape"], unfollowed := true, recurses := true, apart := false }
def FrontAnswersSaid : Prop := frontAnswersRow.holds Try.pinned (OpenSpec.ofChange frontAnswersSpec)

/-- ITS FALSE NEIGHBOUR: 'it returns false'. Refute it at one input. -/
def frontAnswersWrong : ChangeSpec := { name := "frontAnswers", fn := fun _ => fun
  | [d1, d2, d3] => { results := [.lit (.bool false)], args := [d1, d2, d3] }
  | _ => none }
def FrontAnswersWrongFalsely : Prop := frontAnswersRow.holds Try.pinned (OpenSpec.ofChange frontAnswersWrong)

/-- 'derricklaw22.FrontRight': WHATEVER THE INPUT: true; the input reads as it did. -/
def frontRightSpec : ChangeSpec := { name := "frontRight", fn := fun _ => fun
  | [d1, d2, d3] => { results := [.lit (.bool true)], args := [d1, d2, d3] }
  | _ => none }
def frontRightRow : OpenClaim := { program := "ytpledbapngdkeaa", sum := "7fee00ebc42998896e5009c2a16b821cf5fed4442e88ead5aaa486b1b3f6c67e", func := "derrick/derricklaw22.FrontRight", spec := "frontRight", inPlace := ["internal/abi.NoEscape"], unfollowed := true, recurses := true, apart := false }
def FrontRightSaid : Prop := frontRightRow.holds Try.pinned (OpenSpec.ofChange frontRightSpec)

/-- ITS FALSE NEIGHBOUR: 'it returns false'. Refute it at one input. -/
def frontRightWrong : ChangeSpec := { name := "frontRight", fn := fun _ => fun
  | [d1, d2, d3] => { results := [.lit (.bool false)], args := [d1, d2, d3] }
  | _ => none }
def FrontRightWrongFalsely : Prop := frontRightRow.holds Try.pinned (OpenSpec.ofChange frontRightWrong)

/-- 'derricklaw22.FrontNever': WHATEVER THE INPUT: true; the input reads as it did. -/
def frontNeverSpec : ChangeSpec := { name := "frontNever", fn := fun _ => fun
  | [d] => { results := [.lit (.bool true)], args := [d] }
  | _ => none }
def frontNeverRow : OpenClaim := { program := "ytpledbapngdkeaa", sum := "7fee00ebc42998896e5009c2a16b821cf5fed4442e88ead5aaa486b1b3f6c67e", func := "derrick/derricklaw22.FrontNever", spec := "frontNever", inPlace := ["internal/abi.NoEscape"], unfollowed := true, recurses := true, apart := false }
def FrontNeverSaid : Prop := frontNeverRow.holds Try.pinned (OpenSpec.ofChange frontNeverSpec)

/-- ITS FALSE NEIGHBOUR: 'it returns false'. Refute it at one input. -/
def frontNeverWrong : ChangeSpec := { name := "frontNever", fn := fun _ => fun
  | [d] => { results := [.lit (.bool false)], args := [d] }
  | _ => none }
def FrontNeverWrongFalsely : Prop := frontNeverRow.holds Try.pinned (OpenSpec.ofChange frontNeverWrong)

/-- 'derricklaw22.FrontTruncates': WHATEVER THE INPUT: true; the input reads as it did. -/
def frontTruncatesSpec : ChangeSpec := { name := "frontTruncates", fn := fun _ => fun
  | [d1, d2] => { results := [.lit (.bool true)], args := [d1, d2] }
  | _ => none }
def frontTruncatesRow : OpenClaim := { program := "ytpledbapngdkeaa", sum := "7fee00ebc42998896e5009c2a16b821cf5fed4442e88ead5aaa486b1b3f6c67e", func := "derrick/derricklaw22.FrontTruncates", spec := "frontTruncates", inPlace := ["internal/abi.NoEscape"], unfollowed := true, recurses := true, apart := false }
def FrontTruncatesSaid : Prop := frontTruncatesRow.holds Try.pinned (OpenSpec.ofChange frontTruncatesSpec)

/-- ITS FALSE NEIGHBOUR: 'it returns false'. Refute it at one input. -/
def frontTruncatesWrong : ChangeSpec := { name := "frontTruncates", fn := fun _ => fun
  | [d1, d2] => { results := [.lit (.bool false)], args := [d1, d2] }
  | _ => none }
def FrontTruncatesWrongFalsely : Prop := frontTruncatesRow.holds Try.pinned (OpenSpec.ofChange frontTruncatesWrong)

/-- 'derricklaw19.AskForged': WHATEVER THE INPUT: true; the input reads as it did. -/
def askForgedSpec : ChangeSpec := { name := "askForged", fn := fun _ => fun
  | [d1, d2, d3, d4] => { results := [.lit (.bool true)], args := [d1, d2, d3, d4] }
  | _ => none }
def askForgedRow : OpenClaim := { program := "ytpledbapngdkeaa", sum := "7fee00ebc42998896e5009c2a16b821cf5fed4442e88ead5aaa486b1b3f6c67e", func := "derrick/derricklaw19.AskForged", spec := "askForged", inPlace := ["internal/abi.NoEscape"], unfollowed := true, recurses := true, apart := false }
def AskForgedSaid : Prop := askForgedRow.holds Try.pinned (OpenSpec.ofChange askForgedSpec)

/-- ITS FALSE NEIGHBOUR: 'it returns false'. Refute it at one input. -/
def askForgedWrong : ChangeSpec := { name := "askForged", fn := fun _ => fun
  | [d1, d2, d3, d4] => { results := [.lit (.bool false)], args := [d1, d2, d3, d4] }
  | _ => none }
def AskForgedWrongFalsely : Prop := askForgedRow.holds Try.pinned (OpenSpec.ofChange askForgedWrong)

/-- 'derricklaw22.FrontQueues': WHATEVER THE INPUT: true; the input reads as it did. -/
def frontQueuesSpec : ChangeSpec := { name := "frontQueues", fn := fun _ => fun
  | [d1, d2] => { results := [.lit (.bool true)], args := [d1, d2] }
  | _ => none }
def frontQueuesRow : OpenClaim := { program := "ytpledbapngdkeaa", sum := "7fee00ebc42998896e5009c2a16b821cf5fed4442e88ead5aaa486b1b3f6c67e", func := "derrick/derricklaw22.FrontQueues", spec := "frontQueues", inPlace := ["internal/abi.NoEscape"], unfollowed := true, recurses := true, apart := false }
def FrontQueuesSaid : Prop := frontQueuesRow.holds Try.pinned (OpenSpec.ofChange frontQueuesSpec)

/-- ITS FALSE NEIGHBOUR: 'it returns false'. Refute it at one input. -/
def frontQueuesWrong : ChangeSpec := { name := "frontQueues", fn := fun _ => fun
  | [d1, d2] => { results := [.lit (.bool false)], args := [d1, d2] }
  | _ => none }
def FrontQueuesWrongFalsely : Prop := frontQueuesRow.holds Try.pinned (OpenSpec.ofChange frontQueuesWrong)

/- THE SECOND FORM. 'bulk': how many values and letters a reading holds, each counted each time it is reached (what is shared counts as often as it is met; a slice's spare places count too). A statement '..UptoSaid' is the law's where the arguments, and the package variables that the reading takes, are together of bulk at most 1048576: NARROWER than '..Said'. Prove '..Said' where nothing that the law and all that it calls make is longer than what came in: it says more and counts as full. Else prove '..UptoSaid'. A law counts once. -/
mutual
def uptoBulk {H : Type} : DataW H → Nat
  | .lit (.string bytes) => bytes.length + 1
  | .lit _ => 1
  | .nil => 1
  | .ptr d => uptoBulk d + 1
  | .slice elems spare => uptoBulkAll elems + uptoBulkAll spare + 1
  | .agg parts => uptoBulkAll parts + 1
  | .iface _ d => uptoBulk d + 1
  | .map entries => uptoBulkEntries entries + 1
  | .held _ => 1
def uptoBulkAll {H : Type} : List (DataW H) → Nat
  | [] => 0
  | d :: r => uptoBulk d + uptoBulkAll r
def uptoBulkEntries {H : Type} : List (Lit × DataW H) → Nat
  | [] => 0
  | x :: r => uptoBulkEntry x + uptoBulkEntries r
def uptoBulkEntry {H : Type} : Lit × DataW H → Nat
  | (.string bytes, d) => bytes.length + uptoBulk d + 1
  | (_, d) => uptoBulk d + 1
 end
def uptoSmall : (H : Type) → List (DataW H) → Bool := fun _ ds => decide (uptoBulkAll ds ≤ 1048576)
def OpenSpec.upto (s : _root_.Go.ChangeSpec) : _root_.Go.OpenSpec := { _root_.Go.OpenSpec.ofChange s with cond := some uptoSmall }

/-- 'derricklaw19.AskPackets', WHERE WHAT IT READS IS OF BULK AT MOST 1048576: true; the input reads as it did. -/
def askPacketsUptoRow : OpenClaim := { program := "ytpledbapngdkeaa", sum := "7fee00ebc42998896e5009c2a16b821cf5fed4442e88ead5aaa486b1b3f6c67e", func := "derrick/derricklaw19.AskPackets", spec := "askPackets", unfollowed := true, recurses := true, apart := false, narrowed := true }
def AskPacketsUptoSaid : Prop := askPacketsUptoRow.holds Try.pinned (OpenSpec.upto askPacketsSpec)

/-- 'derricklaw19.AskOnes', WHERE WHAT IT READS IS OF BULK AT MOST 1048576: true; the input reads as it did. -/
def askOnesUptoRow : OpenClaim := { program := "ytpledbapngdkeaa", sum := "7fee00ebc42998896e5009c2a16b821cf5fed4442e88ead5aaa486b1b3f6c67e", func := "derrick/derricklaw19.AskOnes", spec := "askOnes", unfollowed := true, recurses := true, apart := false, narrowed := true }
def AskOnesUptoSaid : Prop := askOnesUptoRow.holds Try.pinned (OpenSpec.upto askOnesSpec)

/-- 'derricklaw19.AskLate', WHERE WHAT IT READS IS OF BULK AT MOST 1048576: true; the input reads as it did. -/
def askLateUptoRow : OpenClaim := { program := "ytpledbapngdkeaa", sum := "7fee00ebc42998896e5009c2a16b821cf5fed4442e88ead5aaa486b1b3f6c67e", func := "derrick/derricklaw19.AskLate", spec := "askLate", unfollowed := true, recurses := true, apart := false, narrowed := true }
def AskLateUptoSaid : Prop := askLateUptoRow.holds Try.pinned (OpenSpec.upto askLateSpec)

/-- 'derricklaw19.AskOthers', WHERE WHAT IT READS IS OF BULK AT MOST 1048576: true; the input reads as it did. -/
def askOthersUptoRow : OpenClaim := { program := "ytpledbapngdkeaa", sum := "7fee00ebc42998896e5009c2a16b821cf5fed4442e88ead5aaa486b1b3f6c67e", func := "derrick/derricklaw19.AskOthers", spec := "askOthers", unfollowed := true, recurses := true, apart := false, narrowed := true }
def AskOthersUptoSaid : Prop := askOthersUptoRow.holds Try.pinned (OpenSpec.upto askOthersSpec)

/-- 'derricklaw22.FrontAnswers', WHERE WHAT IT READS IS OF BULK AT MOST 1048576: true; the input reads as it did. -/
def frontAnswersUptoRow : OpenClaim := { program := "ytpledbapngdkeaa", sum := "7fee00ebc42998896e5009c2a16b821cf5fed4442e88ead5aaa486b1b3f6c67e", func := "derrick/derricklaw22.FrontAnswers", spec := "frontAnswers", inPlace := ["internal/abi.NoEscape"], unfollowed := true, recurses := true, apart := false, narrowed := true }
def FrontAnswersUptoSaid : Prop := frontAnswersUptoRow.holds Try.pinned (OpenSpec.upto frontAnswersSpec)

/-- 'derricklaw22.FrontRight', WHERE WHAT IT READS IS OF BULK AT MOST 1048576: true; the input reads as it did. -/
def frontRightUptoRow : OpenClaim := { program := "ytpledbapngdkeaa", sum := "7fee00ebc42998896e5009c2a16b821cf5fed4442e88ead5aaa486b1b3f6c67e", func := "derrick/derricklaw22.FrontRight", spec := "frontRight", inPlace := ["internal/abi.NoEscape"], unfollowed := true, recurses := true, apart := false, narrowed := true }
def FrontRightUptoSaid : Prop := frontRightUptoRow.holds Try.pinned (OpenSpec.upto frontRightSpec)

/-- 'derricklaw22.FrontNever', WHERE WHAT IT READS IS OF BULK AT MOST 1048576: true; the input reads as it did. -/
def frontNeverUptoRow : OpenClaim := { program := "ytpledbapngdkeaa", sum := "7fee00ebc42998896e5009c2a16b821cf5fed4442e88ead5aaa486b1b3f6c67e", func := "derrick/derricklaw22.FrontNever", spec := "frontNever", inPlace := ["internal/abi.NoEscape"], unfollowed := true, recurses := true, apart := false, narrowed := true }
def FrontNeverUptoSaid : Prop := frontNeverUptoRow.holds Try.pinned (OpenSpec.upto frontNeverSpec)

/-- 'derricklaw22.FrontTruncates', WHERE WHAT IT READS IS OF BULK AT MOST 1048576: true; the input reads as it did. -/
def frontTruncatesUptoRow : OpenClaim := { program := "ytpledbapngdkeaa", sum := "7fee00ebc42998896e5009c2a16b821cf5fed4442e88ead5aaa486b1b3f6c67e", func := "derrick/derricklaw22.FrontTruncates", spec := "frontTruncates", inPlace := ["internal/abi.NoEscape"], unfollowed := true, recurses := true, apart := false, narrowed := true }
def FrontTruncatesUptoSaid : Prop := frontTruncatesUptoRow.holds Try.pinned (OpenSpec.upto frontTruncatesSpec)

/-- 'derricklaw19.AskForged', WHERE WHAT IT READS IS OF BULK AT MOST 1048576: true; the input reads as it did. -/
def askForgedUptoRow : OpenClaim := { program := "ytpledbapngdkeaa", sum := "7fee00ebc42998896e5009c2a16b821cf5fed4442e88ead5aaa486b1b3f6c67e", func := "derrick/derricklaw19.AskForged", spec := "askForged", inPlace := ["internal/abi.NoEscape"], unfollowed := true, recurses := true, apart := false, narrowed := true }
def AskForgedUptoSaid : Prop := askForgedUptoRow.holds Try.pinned (OpenSpec.upto askForgedSpec)

/-- 'derricklaw22.FrontQueues', WHERE WHAT IT READS IS OF BULK AT MOST 1048576: true; the input reads as it did. -/
def frontQueuesUptoRow : OpenClaim := { program := "ytpledbapngdkeaa", sum := "7fee00ebc42998896e5009c2a16b821cf5fed4442e88ead5aaa486b1b3f6c67e", func := "derrick/derricklaw22.FrontQueues", spec := "frontQueues", inPlace := ["internal/abi.NoEscape"], unfollowed := true, recurses := true, apart := false, narrowed := true }
def FrontQueuesUptoSaid : Prop := frontQueuesUptoRow.holds Try.pinned (OpenSpec.upto frontQueuesSpec)

end Rows
end Go.Proofs.Ytpledbapngdkeaa
