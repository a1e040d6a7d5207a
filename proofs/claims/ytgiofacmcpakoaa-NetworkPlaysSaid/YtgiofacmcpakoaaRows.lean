/-
  No cell of these rows narrows 'for every input' (looked for: loops, veiled, ifaces, maps, wideKeys, modest, calm, conditions, laid).
  DERIVED. THE GIVEN ROWS OF THIS SEAT. 11 by the template 'for every input the law returns true; each argument reads behind the call as it read before'; 0 by the template 'total and deterministic' (their statements: YtgiofacmcpakoaaTotals.lean).
  GIVEN WITH THE SEED: the statements are not yours to turn. If you find one false, say at which input.
  Laid BY PROGRAM, IN A SANDBOX (cutbox-rows.mjs): the forced cells as the released guide's own fill.sh prints them over the translation e34eb4abda605b53… (all of the seat's roots in one cut). By AI agents, Wed Nov 11 2026. No macro, syntax, notation, axiom, sorry.
-/
import Derived.Test.YtgiofacmcpakoaaChecked
import GoSem.Claim
import GoSem.ClaimJoined
import GoSem.ClaimMapViews
import Derived.JoinedTies
import Derived.KernelRfl
namespace Go.Proofs.Ytgiofacmcpakoaa
/- THE CELL 'sum', in the pinned program and in every row, IS THE sha256 OF THE DUMP (.gsa) THAT YtgiofacmcpakoaaProg.lean LOADS. Nothing in Lean hashes anything: it is a label: what it is worth is what the hold of that sum in a sandbox is worth. -/
noncomputable def Try.pinned : Pinned := { name := "ytgiofacmcpakoaa", sum := "e34eb4abda605b532581d96fd0e24f5704e73813db0216b1710d16d0aa1d00eb", checked := Try.checked }
namespace Rows
def none {H : Type} : Left H := { results := [], args := [] }

/-- 'derricklaw07.TtlFalls': WHATEVER THE INPUT: true; the input reads as it did. -/
def ttlFallsSpec : ChangeSpec := { name := "ttlFalls", fn := fun _ => fun
  | [d1, d2, d3] => { results := [.lit (.bool true)], args := [d1, d2, d3] }
  | _ => none }
def ttlFallsRow : OpenClaim := { program := "ytgiofacmcpakoaa", sum := "e34eb4abda605b532581d96fd0e24f5704e73813db0216b1710d16d0aa1d00eb", func := "derrick/derricklaw07.TtlFalls", spec := "ttlFalls", apart := false }
def TtlFallsSaid : Prop := ttlFallsRow.holds Try.pinned (OpenSpec.ofChange ttlFallsSpec)

/-- ITS FALSE NEIGHBOUR: 'it returns false'. Refute it at one input. -/
def ttlFallsWrong : ChangeSpec := { name := "ttlFalls", fn := fun _ => fun
  | [d1, d2, d3] => { results := [.lit (.bool false)], args := [d1, d2, d3] }
  | _ => none }
def TtlFallsWrongFalsely : Prop := ttlFallsRow.holds Try.pinned (OpenSpec.ofChange ttlFallsWrong)

/-- 'derricklaw07.TtlNever': WHATEVER THE INPUT: true; the input reads as it did. -/
def ttlNeverSpec : ChangeSpec := { name := "ttlNever", fn := fun _ => fun
  | [d1, d2, d3, d4] => { results := [.lit (.bool true)], args := [d1, d2, d3, d4] }
  | _ => none }
def ttlNeverRow : OpenClaim := { program := "ytgiofacmcpakoaa", sum := "e34eb4abda605b532581d96fd0e24f5704e73813db0216b1710d16d0aa1d00eb", func := "derrick/derricklaw07.TtlNever", spec := "ttlNever", apart := false }
def TtlNeverSaid : Prop := ttlNeverRow.holds Try.pinned (OpenSpec.ofChange ttlNeverSpec)

/-- ITS FALSE NEIGHBOUR: 'it returns false'. Refute it at one input. -/
def ttlNeverWrong : ChangeSpec := { name := "ttlNever", fn := fun _ => fun
  | [d1, d2, d3, d4] => { results := [.lit (.bool false)], args := [d1, d2, d3, d4] }
  | _ => none }
def TtlNeverWrongFalsely : Prop := ttlNeverRow.holds Try.pinned (OpenSpec.ofChange ttlNeverWrong)

/-- 'derricklaw07.TtlTells': WHATEVER THE INPUT: true; the input reads as it did. -/
def ttlTellsSpec : ChangeSpec := { name := "ttlTells", fn := fun _ => fun
  | [d1, d2, d3, d4] => { results := [.lit (.bool true)], args := [d1, d2, d3, d4] }
  | _ => none }
def ttlTellsRow : OpenClaim := { program := "ytgiofacmcpakoaa", sum := "e34eb4abda605b532581d96fd0e24f5704e73813db0216b1710d16d0aa1d00eb", func := "derrick/derricklaw07.TtlTells", spec := "ttlTells", apart := false }
def TtlTellsSaid : Prop := ttlTellsRow.holds Try.pinned (OpenSpec.ofChange ttlTellsSpec)

/-- ITS FALSE NEIGHBOUR: 'it returns false'. Refute it at one input. -/
def ttlTellsWrong : ChangeSpec := { name := "ttlTells", fn := fun _ => fun
  | [d1, d2, d3, d4] => { results := [.lit (.bool false)], args := [d1, d2, d3, d4] }
  | _ => none }
def TtlTellsWrongFalsely : Prop := ttlTellsRow.holds Try.pinned (OpenSpec.ofChange ttlTellsWrong)

/-- 'derricklaw07.TtlClamps': WHATEVER THE INPUT: true; the input reads as it did. -/
def ttlClampsSpec : ChangeSpec := { name := "ttlClamps", fn := fun _ => fun
  | [d1, d2] => { results := [.lit (.bool true)], args := [d1, d2] }
  | _ => none }
def ttlClampsRow : OpenClaim := { program := "ytgiofacmcpakoaa", sum := "e34eb4abda605b532581d96fd0e24f5704e73813db0216b1710d16d0aa1d00eb", func := "derrick/derricklaw07.TtlClamps", spec := "ttlClamps", apart := false }
def TtlClampsSaid : Prop := ttlClampsRow.holds Try.pinned (OpenSpec.ofChange ttlClampsSpec)

/-- ITS FALSE NEIGHBOUR: 'it returns false'. Refute it at one input. -/
def ttlClampsWrong : ChangeSpec := { name := "ttlClamps", fn := fun _ => fun
  | [d1, d2] => { results := [.lit (.bool false)], args := [d1, d2] }
  | _ => none }
def TtlClampsWrongFalsely : Prop := ttlClampsRow.holds Try.pinned (OpenSpec.ofChange ttlClampsWrong)

/-- 'derricklaw07.TtlLeast': WHATEVER THE INPUT: true; the input reads as it did. -/
def ttlLeastSpec : ChangeSpec := { name := "ttlLeast", fn := fun _ => fun
  | [d1, d2] => { results := [.lit (.bool true)], args := [d1, d2] }
  | _ => none }
def ttlLeastRow : OpenClaim := { program := "ytgiofacmcpakoaa", sum := "e34eb4abda605b532581d96fd0e24f5704e73813db0216b1710d16d0aa1d00eb", func := "derrick/derricklaw07.TtlLeast", spec := "ttlLeast", apart := false }
def TtlLeastSaid : Prop := ttlLeastRow.holds Try.pinned (OpenSpec.ofChange ttlLeastSpec)

/-- ITS FALSE NEIGHBOUR: 'it returns false'. Refute it at one input. -/
def ttlLeastWrong : ChangeSpec := { name := "ttlLeast", fn := fun _ => fun
  | [d1, d2] => { results := [.lit (.bool false)], args := [d1, d2] }
  | _ => none }
def TtlLeastWrongFalsely : Prop := ttlLeastRow.holds Try.pinned (OpenSpec.ofChange ttlLeastWrong)

/-- 'derricklaw07.TtlLists': WHATEVER THE INPUT: true; the input reads as it did. -/
def ttlListsSpec : ChangeSpec := { name := "ttlLists", fn := fun _ => fun
  | [d1, d2] => { results := [.lit (.bool true)], args := [d1, d2] }
  | _ => none }
def ttlListsRow : OpenClaim := { program := "ytgiofacmcpakoaa", sum := "e34eb4abda605b532581d96fd0e24f5704e73813db0216b1710d16d0aa1d00eb", func := "derrick/derricklaw07.TtlLists", spec := "ttlLists", apart := false }
def TtlListsSaid : Prop := ttlListsRow.holds Try.pinned (OpenSpec.ofChange ttlListsSpec)

/-- ITS FALSE NEIGHBOUR: 'it returns false'. Refute it at one input. -/
def ttlListsWrong : ChangeSpec := { name := "ttlLists", fn := fun _ => fun
  | [d1, d2] => { results := [.lit (.bool false)], args := [d1, d2] }
  | _ => none }
def TtlListsWrongFalsely : Prop := ttlListsRow.holds Try.pinned (OpenSpec.ofChange ttlListsWrong)

/-- 'derricklaw18.NetworkOrder': WHATEVER THE INPUT: true; the input reads as it did. -/
def networkOrderSpec : ChangeSpec := { name := "networkOrder", fn := fun _ => fun
  | [d1, d2] => { results := [.lit (.bool true)], args := [d1, d2] }
  | _ => none }
def networkOrderRow : OpenClaim := { program := "ytgiofacmcpakoaa", sum := "e34eb4abda605b532581d96fd0e24f5704e73813db0216b1710d16d0aa1d00eb", func := "derrick/derricklaw18.NetworkOrder", spec := "networkOrder", apart := false }
def NetworkOrderSaid : Prop := networkOrderRow.holds Try.pinned (OpenSpec.ofChange networkOrderSpec)

/-- ITS FALSE NEIGHBOUR: 'it returns false'. Refute it at one input. -/
def networkOrderWrong : ChangeSpec := { name := "networkOrder", fn := fun _ => fun
  | [d1, d2] => { results := [.lit (.bool false)], args := [d1, d2] }
  | _ => none }
def NetworkOrderWrongFalsely : Prop := networkOrderRow.holds Try.pinned (OpenSpec.ofChange networkOrderWrong)

/-- 'derricklaw18.NetworkTurn': WHATEVER THE INPUT: true; the input reads as it did. -/
def networkTurnSpec : ChangeSpec := { name := "networkTurn", fn := fun _ => fun
  | [d1, d2] => { results := [.lit (.bool true)], args := [d1, d2] }
  | _ => none }
def networkTurnRow : OpenClaim := { program := "ytgiofacmcpakoaa", sum := "e34eb4abda605b532581d96fd0e24f5704e73813db0216b1710d16d0aa1d00eb", func := "derrick/derricklaw18.NetworkTurn", spec := "networkTurn", apart := false }
def NetworkTurnSaid : Prop := networkTurnRow.holds Try.pinned (OpenSpec.ofChange networkTurnSpec)

/-- ITS FALSE NEIGHBOUR: 'it returns false'. Refute it at one input. -/
def networkTurnWrong : ChangeSpec := { name := "networkTurn", fn := fun _ => fun
  | [d1, d2] => { results := [.lit (.bool false)], args := [d1, d2] }
  | _ => none }
def NetworkTurnWrongFalsely : Prop := networkTurnRow.holds Try.pinned (OpenSpec.ofChange networkTurnWrong)

/-- 'derricklaw18.NetworkSums': WHATEVER THE INPUT: true; the input reads as it did. -/
def networkSumsSpec : ChangeSpec := { name := "networkSums", fn := fun _ => fun
  | [d1, d2] => { results := [.lit (.bool true)], args := [d1, d2] }
  | _ => none }
def networkSumsRow : OpenClaim := { program := "ytgiofacmcpakoaa", sum := "e34eb4abda605b532581d96fd0e24f5704e73813db0216b1710d16d0aa1d00eb", func := "derrick/derricklaw18.NetworkSums", spec := "networkSums", apart := false }
def NetworkSumsSaid : Prop := networkSumsRow.holds Try.pinned (OpenSpec.ofChange networkSumsSpec)

/-- ITS FALSE NEIGHBOUR: 'it returns false'. Refute it at one input. -/
def networkSumsWrong : ChangeSpec := { name := "networkSums", fn := fun _ => fun
  | [d1, d2] => { results := [.lit (.bool false)], args := [d1, d2] }
  | _ => none }
def NetworkSumsWrongFalsely : Prop := networkSumsRow.holds Try.pinned (OpenSpec.ofChange networkSumsWrong)

/-- 'derricklaw18.NetworkPlays': WHATEVER THE INPUT: true; the input reads as it did. -/
def networkPlaysSpec : ChangeSpec := { name := "networkPlays", fn := fun _ => fun
  | [d1, d2, d3] => { results := [.lit (.bool true)], args := [d1, d2, d3] }
  | _ => none }
def networkPlaysRow : OpenClaim := { program := "ytgiofacmcpakoaa", sum := "e34eb4abda605b532581d96fd0e24f5704e73813db0216b1710d16d0aa1d00eb", func := "derrick/derricklaw18.NetworkPlays", spec := "networkPlays", apart := false }
def NetworkPlaysSaid : Prop := networkPlaysRow.holds Try.pinned (OpenSpec.ofChange networkPlaysSpec)

/-- ITS FALSE NEIGHBOUR: 'it returns false'. Refute it at one input. -/
def networkPlaysWrong : ChangeSpec := { name := "networkPlays", fn := fun _ => fun
  | [d1, d2, d3] => { results := [.lit (.bool false)], args := [d1, d2, d3] }
  | _ => none }
def NetworkPlaysWrongFalsely : Prop := networkPlaysRow.holds Try.pinned (OpenSpec.ofChange networkPlaysWrong)

/-- 'derricklaw18.NetworkNobody': WHATEVER THE INPUT: true; the input reads as it did. -/
def networkNobodySpec : ChangeSpec := { name := "networkNobody", fn := fun _ => fun
  | [d1, d2] => { results := [.lit (.bool true)], args := [d1, d2] }
  | _ => none }
def networkNobodyRow : OpenClaim := { program := "ytgiofacmcpakoaa", sum := "e34eb4abda605b532581d96fd0e24f5704e73813db0216b1710d16d0aa1d00eb", func := "derrick/derricklaw18.NetworkNobody", spec := "networkNobody", apart := false }
def NetworkNobodySaid : Prop := networkNobodyRow.holds Try.pinned (OpenSpec.ofChange networkNobodySpec)

/-- ITS FALSE NEIGHBOUR: 'it returns false'. Refute it at one input. -/
def networkNobodyWrong : ChangeSpec := { name := "networkNobody", fn := fun _ => fun
  | [d1, d2] => { results := [.lit (.bool false)], args := [d1, d2] }
  | _ => none }
def NetworkNobodyWrongFalsely : Prop := networkNobodyRow.holds Try.pinned (OpenSpec.ofChange networkNobodyWrong)

/- THE SECOND FORM. 'bulk': how many values and letters a reading holds, each counted each time it is reached (what is shared counts as often as it is met; a slice's spare places count too). A statement '..UptoSaid' is the law's where the arguments, and the package variables that the reading takes, are together of bulk at most 1048576: NARROWER than '..Said'. Prove '..Said' where nothing that the law and all that it calls make is longer than what came in: it says more and counts as full. Else prove '..UptoSaid'. A law counts once. -/
mutual
def uptoBulk {H : Type} : DataW H → Nat
  | .lit (.string bytes) => bytes.length + 1
  | .lit _ => 1
  | .nil => 1
  | .ptr d => uptoBulk d + 1
  | .slice elems spare => uptoBulkAll elems + uptoBulkAll spare + 1
  | .agg parts => uptoBulkAll parts + 1
  | .iface _ d => uptoBulk d + 1
  | .map entries => uptoBulkEntries entries + 1
  | .held _ => 1
def uptoBulkAll {H : Type} : List (DataW H) → Nat
  | [] => 0
  | d :: r => uptoBulk d + uptoBulkAll r
def uptoBulkEntries {H : Type} : List (Lit × DataW H) → Nat
  | [] => 0
  | x :: r => uptoBulkEntry x + uptoBulkEntries r
def uptoBulkEntry {H : Type} : Lit × DataW H → Nat
  | (.string bytes, d) => bytes.length + uptoBulk d + 1
  | (_, d) => uptoBulk d + 1
 end
def uptoSmall : (H : Type) → List (DataW H) → Bool := fun _ ds => decide (uptoBulkAll ds ≤ 1048576)
def OpenSpec.upto (s : _root_.Go.ChangeSpec) : _root_.Go.OpenSpec := { _root_.Go.OpenSpec.ofChange s with cond := some uptoSmall }

/-- 'derricklaw07.TtlFalls', WHERE WHAT IT READS IS OF BULK AT MOST 1048576: true; the input reads as it did. -/
def ttlFallsUptoRow : OpenClaim := { program := "ytgiofacmcpakoaa", sum := "e34eb4abda605b532581d96fd0e24f5704e73813db0216b1710d16d0aa1d00eb", func := "derrick/derricklaw07.TtlFalls", spec := "ttlFalls", apart := false, narrowed := true }
def TtlFallsUptoSaid : Prop := ttlFallsUptoRow.holds Try.pinned (OpenSpec.upto ttlFallsSpec)

/-- 'derricklaw07.TtlNever', WHERE WHAT IT READS IS OF BULK AT MOST 1048576: true; the input reads as it did. -/
def ttlNeverUptoRow : OpenClaim := { program := "ytgiofacmcpakoaa", sum := "e34eb4abda605b532581d96fd0e24f5704e73813db0216b1710d16d0aa1d00eb", func := "derrick/derricklaw07.TtlNever", spec := "ttlNever", apart := false, narrowed := true }
def TtlNeverUptoSaid : Prop := ttlNeverUptoRow.holds Try.pinned (OpenSpec.upto ttlNeverSpec)

/-- 'derricklaw07.TtlTells', WHERE WHAT IT READS IS OF BULK AT MOST 1048576: true; the input reads as it did. -/
def ttlTellsUptoRow : OpenClaim := { program := "ytgiofacmcpakoaa", sum := "e34eb4abda605b532581d96fd0e24f5704e73813db0216b1710d16d0aa1d00eb", func := "derrick/derricklaw07.TtlTells", spec := "ttlTells", apart := false, narrowed := true }
def TtlTellsUptoSaid : Prop := ttlTellsUptoRow.holds Try.pinned (OpenSpec.upto ttlTellsSpec)

/-- 'derricklaw07.TtlClamps', WHERE WHAT IT READS IS OF BULK AT MOST 1048576: true; the input reads as it did. -/
def ttlClampsUptoRow : OpenClaim := { program := "ytgiofacmcpakoaa", sum := "e34eb4abda605b532581d96fd0e24f5704e73813db0216b1710d16d0aa1d00eb", func := "derrick/derricklaw07.TtlClamps", spec := "ttlClamps", apart := false, narrowed := true }
def TtlClampsUptoSaid : Prop := ttlClampsUptoRow.holds Try.pinned (OpenSpec.upto ttlClampsSpec)

/-- 'derricklaw07.TtlLeast', WHERE WHAT IT READS IS OF BULK AT MOST 1048576: true; the input reads as it did. -/
def ttlLeastUptoRow : OpenClaim := { program := "ytgiofacmcpakoaa", sum := "e34eb4abda605b532581d96fd0e24f5704e73813db0216b1710d16d0aa1d00eb", func := "derrick/derricklaw07.TtlLeast", spec := "ttlLeast", apart := false, narrowed := true }
def TtlLeastUptoSaid : Prop := ttlLeastUptoRow.holds Try.pinned (OpenSpec.upto ttlLeastSpec)

/-- 'derricklaw07.TtlLists', WHERE WHAT IT READS IS OF BULK AT MOST 1048576: true; the input reads as it did. -/
def ttlListsUptoRow : OpenClaim := { program := "ytgiofacmcpakoaa", sum := "e34eb4abda605b532581d96fd0e24f5704e73813db0216b1710d16d0aa1d00eb", func := "derrick/derricklaw07.TtlLists", spec := "ttlLists", apart := false, narrowed := true }
def TtlListsUptoSaid : Prop := ttlListsUptoRow.holds Try.pinned (OpenSpec.upto ttlListsSpec)

/-- 'derricklaw18.NetworkOrder', WHERE WHAT IT READS IS OF BULK AT MOST 1048576: true; the input reads as it did. -/
def networkOrderUptoRow : OpenClaim := { program := "ytgiofacmcpakoaa", sum := "e34eb4abda605b532581d96fd0e24f5704e73813db0216b1710d16d0aa1d00eb", func := "derrick/derricklaw18.NetworkOrder", spec := "networkOrder", apart := false, narrowed := true }
def NetworkOrderUptoSaid : Prop := networkOrderUptoRow.holds Try.pinned (OpenSpec.upto networkOrderSpec)

/-- 'derricklaw18.NetworkTurn', WHERE WHAT IT READS IS OF BULK AT MOST 1048576: true; the input reads as it did. -/
def networkTurnUptoRow : OpenClaim := { program := "ytgiofacmcpakoaa", sum := "e34eb4abda605b532581d96fd0e24f5704e73813db0216b1710d16d0aa1d00eb", func := "derrick/derricklaw18.NetworkTurn", spec := "networkTurn", apart := false, narrowed := true }
def NetworkTurnUptoSaid : Prop := networkTurnUptoRow.holds Try.pinned (OpenSpec.upto networkTurnSpec)

/-- 'derricklaw18.NetworkSums', WHERE WHAT IT READS IS OF BULK AT MOST 1048576: true; the input reads as it did. -/
def networkSumsUptoRow : OpenClaim := { program := "ytgiofacmcpakoaa", sum := "e34eb4abda605b532581d96fd0e24f5704e73813db0216b1710d16d0aa1d00eb", func := "derrick/derricklaw18.NetworkSums", spec := "networkSums", apart := false, narrowed := true }
def NetworkSumsUptoSaid : Prop := networkSumsUptoRow.holds Try.pinned (OpenSpec.upto networkSumsSpec)

/-- 'derricklaw18.NetworkPlays', WHERE WHAT IT READS IS OF BULK AT MOST 1048576: true; the input reads as it did. -/
def networkPlaysUptoRow : OpenClaim := { program := "ytgiofacmcpakoaa", sum := "e34eb4abda605b532581d96fd0e24f5704e73813db0216b1710d16d0aa1d00eb", func := "derrick/derricklaw18.NetworkPlays", spec := "networkPlays", apart := false, narrowed := true }
def NetworkPlaysUptoSaid : Prop := networkPlaysUptoRow.holds Try.pinned (OpenSpec.upto networkPlaysSpec)

/-- 'derricklaw18.NetworkNobody', WHERE WHAT IT READS IS OF BULK AT MOST 1048576: true; the input reads as it did. -/
def networkNobodyUptoRow : OpenClaim := { program := "ytgiofacmcpakoaa", sum := "e34eb4abda605b532581d96fd0e24f5704e73813db0216b1710d16d0aa1d00eb", func := "derrick/derricklaw18.NetworkNobody", spec := "networkNobody", apart := false, narrowed := true }
def NetworkNobodyUptoSaid : Prop := networkNobodyUptoRow.holds Try.pinned (OpenSpec.upto networkNobodySpec)

end Rows
end Go.Proofs.Ytgiofacmcpakoaa
