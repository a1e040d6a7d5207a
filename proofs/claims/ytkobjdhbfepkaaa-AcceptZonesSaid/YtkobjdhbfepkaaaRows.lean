/-
  No cell of these rows narrows 'for every input' (looked for: loops, veiled, ifaces, maps, wideKeys, modest, calm, conditions, laid).
  DERIVED. THE GIVEN ROWS OF THIS SEAT. 11 by the template 'for every input the law returns true; each argument reads behind the call as it read before'; 0 by the template 'total and deterministic' (their statements: YtkobjdhbfepkaaaTotals.lean).
  GIVEN WITH THE SEED: the statements are not yours to turn. If you find one false, say at which input.
  Laid BY PROGRAM, IN A SANDBOX (cutbox-rows.mjs): the forced cells as the released guide's own fill.sh prints them over the translation 55a2ccc90599acae… (all of the seat's roots in one cut). By AI agents, Wed Nov 11 2026. No macro, syntax, notation, axiom, sorry.
-/
import Derived.Test.YtkobjdhbfepkaaaChecked
import GoSem.Claim
import GoSem.ClaimJoined
import GoSem.ClaimMapViews
import Derived.JoinedTies
import Derived.KernelRfl
namespace Go.Proofs.Ytkobjdhbfepkaaa
/- THE CELL 'sum', in the pinned program and in every row, IS THE sha256 OF THE DUMP (.gsa) THAT YtkobjdhbfepkaaaProg.lean LOADS. Nothing in Lean hashes anything: it is a label: what it is worth is what the hold of that sum in a sandbox is worth. -/
noncomputable def Try.pinned : Pinned := { name := "ytkobjdhbfepkaaa", sum := "55a2ccc90599acae7e927c43f2ee7bba085b5e7fe3f01dcf1876d9c80a6d9985", checked := Try.checked }
namespace Rows
def none {H : Type} : Left H := { results := [], args := [] }

/-- 'derricklaw17.ZoneTells': WHATEVER THE INPUT: true; the input reads as it did. -/
def zoneTellsSpec : ChangeSpec := { name := "zoneTells", fn := fun _ => fun
  | [d1, d2, d3] => { results := [.lit (.bool true)], args := [d1, d2, d3] }
  | _ => none }
def zoneTellsRow : OpenClaim := { program := "ytkobjdhbfepkaaa", sum := "55a2ccc90599acae7e927c43f2ee7bba085b5e7fe3f01dcf1876d9c80a6d9985", func := "derrick/derricklaw17.ZoneTells", spec := "zoneTells", unfollowed := true, recurses := true, plainKeys := false, apart := false }
def ZoneTellsSaid : Prop := zoneTellsRow.holds Try.pinned (OpenSpec.ofChange zoneTellsSpec)

/-- ITS FALSE NEIGHBOUR: 'it returns false'. Refute it at one input. -/
def zoneTellsWrong : ChangeSpec := { name := "zoneTells", fn := fun _ => fun
  | [d1, d2, d3] => { results := [.lit (.bool false)], args := [d1, d2, d3] }
  | _ => none }
def ZoneTellsWrongFalsely : Prop := zoneTellsRow.holds Try.pinned (OpenSpec.ofChange zoneTellsWrong)

/-- 'derricklaw17.ZoneAnswers': WHATEVER THE INPUT: true; the input reads as it did. -/
def zoneAnswersSpec : ChangeSpec := { name := "zoneAnswers", fn := fun _ => fun
  | [d1, d2] => { results := [.lit (.bool true)], args := [d1, d2] }
  | _ => none }
def zoneAnswersRow : OpenClaim := { program := "ytkobjdhbfepkaaa", sum := "55a2ccc90599acae7e927c43f2ee7bba085b5e7fe3f01dcf1876d9c80a6d9985", func := "derrick/derricklaw17.ZoneAnswers", spec := "zoneAnswers", unfollowed := true, recurses := true, plainKeys := false, apart := false }
def ZoneAnswersSaid : Prop := zoneAnswersRow.holds Try.pinned (OpenSpec.ofChange zoneAnswersSpec)

/-- ITS FALSE NEIGHBOUR: 'it returns false'. Refute it at one input. -/
def zoneAnswersWrong : ChangeSpec := { name := "zoneAnswers", fn := fun _ => fun
  | [d1, d2] => { results := [.lit (.bool false)], args := [d1, d2] }
  | _ => none }
def ZoneAnswersWrongFalsely : Prop := zoneAnswersRow.holds Try.pinned (OpenSpec.ofChange zoneAnswersWrong)

/-- 'derricklaw17.ZoneAbout': WHATEVER THE INPUT: true; the input reads as it did. -/
def zoneAboutSpec : ChangeSpec := { name := "zoneAbout", fn := fun _ => fun
  | [d1, d2] => { results := [.lit (.bool true)], args := [d1, d2] }
  | _ => none }
def zoneAboutRow : OpenClaim := { program := "ytkobjdhbfepkaaa", sum := "55a2ccc90599acae7e927c43f2ee7bba085b5e7fe3f01dcf1876d9c80a6d9985", func := "derrick/derricklaw17.ZoneAbout", spec := "zoneAbout", unfollowed := true, recurses := true, plainKeys := false, apart := false }
def ZoneAboutSaid : Prop := zoneAboutRow.holds Try.pinned (OpenSpec.ofChange zoneAboutSpec)

/-- ITS FALSE NEIGHBOUR: 'it returns false'. Refute it at one input. -/
def zoneAboutWrong : ChangeSpec := { name := "zoneAbout", fn := fun _ => fun
  | [d1, d2] => { results := [.lit (.bool false)], args := [d1, d2] }
  | _ => none }
def ZoneAboutWrongFalsely : Prop := zoneAboutRow.holds Try.pinned (OpenSpec.ofChange zoneAboutWrong)

/-- 'derricklaw17.ZoneRefers': WHATEVER THE INPUT: true; the input reads as it did. -/
def zoneRefersSpec : ChangeSpec := { name := "zoneRefers", fn := fun _ => fun
  | [d1, d2] => { results := [.lit (.bool true)], args := [d1, d2] }
  | _ => none }
def zoneRefersRow : OpenClaim := { program := "ytkobjdhbfepkaaa", sum := "55a2ccc90599acae7e927c43f2ee7bba085b5e7fe3f01dcf1876d9c80a6d9985", func := "derrick/derricklaw17.ZoneRefers", spec := "zoneRefers", unfollowed := true, recurses := true, plainKeys := false, apart := false }
def ZoneRefersSaid : Prop := zoneRefersRow.holds Try.pinned (OpenSpec.ofChange zoneRefersSpec)

/-- ITS FALSE NEIGHBOUR: 'it returns false'. Refute it at one input. -/
def zoneRefersWrong : ChangeSpec := { name := "zoneRefers", fn := fun _ => fun
  | [d1, d2] => { results := [.lit (.bool false)], args := [d1, d2] }
  | _ => none }
def ZoneRefersWrongFalsely : Prop := zoneRefersRow.holds Try.pinned (OpenSpec.ofChange zoneRefersWrong)

/-- 'derricklaw17.ZoneBest': WHATEVER THE INPUT: true; the input reads as it did. -/
def zoneBestSpec : ChangeSpec := { name := "zoneBest", fn := fun _ => fun
  | [d1, d2, d3] => { results := [.lit (.bool true)], args := [d1, d2, d3] }
  | _ => none }
def zoneBestRow : OpenClaim := { program := "ytkobjdhbfepkaaa", sum := "55a2ccc90599acae7e927c43f2ee7bba085b5e7fe3f01dcf1876d9c80a6d9985", func := "derrick/derricklaw17.ZoneBest", spec := "zoneBest", unfollowed := true, recurses := true, plainKeys := false, apart := false }
def ZoneBestSaid : Prop := zoneBestRow.holds Try.pinned (OpenSpec.ofChange zoneBestSpec)

/-- ITS FALSE NEIGHBOUR: 'it returns false'. Refute it at one input. -/
def zoneBestWrong : ChangeSpec := { name := "zoneBest", fn := fun _ => fun
  | [d1, d2, d3] => { results := [.lit (.bool false)], args := [d1, d2, d3] }
  | _ => none }
def ZoneBestWrongFalsely : Prop := zoneBestRow.holds Try.pinned (OpenSpec.ofChange zoneBestWrong)

/-- 'derricklaw17.ZoneGlue': WHATEVER THE INPUT: true; the input reads as it did. -/
def zoneGlueSpec : ChangeSpec := { name := "zoneGlue", fn := fun _ => fun
  | [d1, d2, d3] => { results := [.lit (.bool true)], args := [d1, d2, d3] }
  | _ => none }
def zoneGlueRow : OpenClaim := { program := "ytkobjdhbfepkaaa", sum := "55a2ccc90599acae7e927c43f2ee7bba085b5e7fe3f01dcf1876d9c80a6d9985", func := "derrick/derricklaw17.ZoneGlue", spec := "zoneGlue", unfollowed := true, recurses := true, plainKeys := false, apart := false }
def ZoneGlueSaid : Prop := zoneGlueRow.holds Try.pinned (OpenSpec.ofChange zoneGlueSpec)

/-- ITS FALSE NEIGHBOUR: 'it returns false'. Refute it at one input. -/
def zoneGlueWrong : ChangeSpec := { name := "zoneGlue", fn := fun _ => fun
  | [d1, d2, d3] => { results := [.lit (.bool false)], args := [d1, d2, d3] }
  | _ => none }
def ZoneGlueWrongFalsely : Prop := zoneGlueRow.holds Try.pinned (OpenSpec.ofChange zoneGlueWrong)

/-- 'derricklaw20.AcceptBailiwick': WHATEVER THE INPUT: true; the input reads as it did. -/
def acceptBailiwickSpec : ChangeSpec := { name := "acceptBailiwick", fn := fun _ => fun
  | [d1, d2, d3, d4] => { results := [.lit (.bool true)], args := [d1, d2, d3, d4] }
  | _ => none }
def acceptBailiwickRow : OpenClaim := { program := "ytkobjdhbfepkaaa", sum := "55a2ccc90599acae7e927c43f2ee7bba085b5e7fe3f01dcf1876d9c80a6d9985", func := "derrick/derricklaw20.AcceptBailiwick", spec := "acceptBailiwick", unfollowed := true, recurses := true, plainKeys := false, apart := false }
def AcceptBailiwickSaid : Prop := acceptBailiwickRow.holds Try.pinned (OpenSpec.ofChange acceptBailiwickSpec)

/-- ITS FALSE NEIGHBOUR: 'it returns false'. Refute it at one input. -/
def acceptBailiwickWrong : ChangeSpec := { name := "acceptBailiwick", fn := fun _ => fun
  | [d1, d2, d3, d4] => { results := [.lit (.bool false)], args := [d1, d2, d3, d4] }
  | _ => none }
def AcceptBailiwickWrongFalsely : Prop := acceptBailiwickRow.holds Try.pinned (OpenSpec.ofChange acceptBailiwickWrong)

/-- 'derricklaw20.AcceptMore': WHATEVER THE INPUT: true; the input reads as it did. -/
def acceptMoreSpec : ChangeSpec := { name := "acceptMore", fn := fun _ => fun
  | [d1, d2, d3, d4] => { results := [.lit (.bool true)], args := [d1, d2, d3, d4] }
  | _ => none }
def acceptMoreRow : OpenClaim := { program := "ytkobjdhbfepkaaa", sum := "55a2ccc90599acae7e927c43f2ee7bba085b5e7fe3f01dcf1876d9c80a6d9985", func := "derrick/derricklaw20.AcceptMore", spec := "acceptMore", unfollowed := true, recurses := true, plainKeys := false, apart := false }
def AcceptMoreSaid : Prop := acceptMoreRow.holds Try.pinned (OpenSpec.ofChange acceptMoreSpec)

/-- ITS FALSE NEIGHBOUR: 'it returns false'. Refute it at one input. -/
def acceptMoreWrong : ChangeSpec := { name := "acceptMore", fn := fun _ => fun
  | [d1, d2, d3, d4] => { results := [.lit (.bool false)], args := [d1, d2, d3, d4] }
  | _ => none }
def AcceptMoreWrongFalsely : Prop := acceptMoreRow.holds Try.pinned (OpenSpec.ofChange acceptMoreWrong)

/-- 'derricklaw20.AcceptNothing': WHATEVER THE INPUT: true; the input reads as it did. -/
def acceptNothingSpec : ChangeSpec := { name := "acceptNothing", fn := fun _ => fun
  | [d1, d2, d3, d4, d5] => { results := [.lit (.bool true)], args := [d1, d2, d3, d4, d5] }
  | _ => none }
def acceptNothingRow : OpenClaim := { program := "ytkobjdhbfepkaaa", sum := "55a2ccc90599acae7e927c43f2ee7bba085b5e7fe3f01dcf1876d9c80a6d9985", func := "derrick/derricklaw20.AcceptNothing", spec := "acceptNothing", unfollowed := true, recurses := true, plainKeys := false, apart := false }
def AcceptNothingSaid : Prop := acceptNothingRow.holds Try.pinned (OpenSpec.ofChange acceptNothingSpec)

/-- ITS FALSE NEIGHBOUR: 'it returns false'. Refute it at one input. -/
def acceptNothingWrong : ChangeSpec := { name := "acceptNothing", fn := fun _ => fun
  | [d1, d2, d3, d4, d5] => { results := [.lit (.bool false)], args := [d1, d2, d3, d4, d5] }
  | _ => none }
def AcceptNothingWrongFalsely : Prop := acceptNothingRow.holds Try.pinned (OpenSpec.ofChange acceptNothingWrong)

/-- 'derricklaw20.AcceptLeads': WHATEVER THE INPUT: true; the input reads as it did. -/
def acceptLeadsSpec : ChangeSpec := { name := "acceptLeads", fn := fun _ => fun
  | [d1, d2, d3] => { results := [.lit (.bool true)], args := [d1, d2, d3] }
  | _ => none }
def acceptLeadsRow : OpenClaim := { program := "ytkobjdhbfepkaaa", sum := "55a2ccc90599acae7e927c43f2ee7bba085b5e7fe3f01dcf1876d9c80a6d9985", func := "derrick/derricklaw20.AcceptLeads", spec := "acceptLeads", unfollowed := true, recurses := true, plainKeys := false, apart := false }
def AcceptLeadsSaid : Prop := acceptLeadsRow.holds Try.pinned (OpenSpec.ofChange acceptLeadsSpec)

/-- ITS FALSE NEIGHBOUR: 'it returns false'. Refute it at one input. -/
def acceptLeadsWrong : ChangeSpec := { name := "acceptLeads", fn := fun _ => fun
  | [d1, d2, d3] => { results := [.lit (.bool false)], args := [d1, d2, d3] }
  | _ => none }
def AcceptLeadsWrongFalsely : Prop := acceptLeadsRow.holds Try.pinned (OpenSpec.ofChange acceptLeadsWrong)

/-- 'derricklaw20.AcceptZones': WHATEVER THE INPUT: true; the input reads as it did. -/
def acceptZonesSpec : ChangeSpec := { name := "acceptZones", fn := fun _ => fun
  | [d1, d2] => { results := [.lit (.bool true)], args := [d1, d2] }
  | _ => none }
def acceptZonesRow : OpenClaim := { program := "ytkobjdhbfepkaaa", sum := "55a2ccc90599acae7e927c43f2ee7bba085b5e7fe3f01dcf1876d9c80a6d9985", func := "derrick/derricklaw20.AcceptZones", spec := "acceptZones", unfollowed := true, recurses := true, plainKeys := false, apart := false }
def AcceptZonesSaid : Prop := acceptZonesRow.holds Try.pinned (OpenSpec.ofChange acceptZonesSpec)

/-- ITS FALSE NEIGHBOUR: 'it returns false'. Refute it at one input. -/
def acceptZonesWrong : ChangeSpec := { name := "acceptZones", fn := fun _ => fun
  | [d1, d2] => { results := [.lit (.bool false)], args := [d1, d2] }
  | _ => none }
def AcceptZonesWrongFalsely : Prop := acceptZonesRow.holds Try.pinned (OpenSpec.ofChange acceptZonesWrong)

/- THE SECOND FORM. 'bulk': how many values and letters a reading holds, each counted each time it is reached (what is shared counts as often as it is met; a slice's spare places count too). A statement '..UptoSaid' is the law's where the arguments, and the package variables that the reading takes, are together of bulk at most 1048576: NARROWER than '..Said'. Prove '..Said' where nothing that the law and all that it calls make is longer than what came in: it says more and counts as full. Else prove '..UptoSaid'. A law counts once. -/
mutual
def uptoBulk {H : Type} : DataW H → Nat
  | .lit (.string bytes) => bytes.length + 1
  | .lit _ => 1
  | .nil => 1
  | .ptr d => uptoBulk d + 1
  | .slice elems spare => uptoBulkAll elems + uptoBulkAll spare + 1
  | .agg parts => uptoBulkAll parts + 1
  | .iface _ d => uptoBulk d + 1
  | .map entries => uptoBulkEntries entries + 1
  | .held _ => 1
def uptoBulkAll {H : Type} : List (DataW H) → Nat
  | [] => 0
  | d :: r => uptoBulk d + uptoBulkAll r
def uptoBulkEntries {H : Type} : List (Lit × DataW H) → Nat
  | [] => 0
  | x :: r => uptoBulkEntry x + uptoBulkEntries r
def uptoBulkEntry {H : Type} : Lit × DataW H → Nat
  | (.string bytes, d) => bytes.length + uptoBulk d + 1
  | (_, d) => uptoBulk d + 1
 end
def uptoSmall : (H : Type) → List (DataW H) → Bool := fun _ ds => decide (uptoBulkAll ds ≤ 1048576)
def OpenSpec.upto (s : _root_.Go.ChangeSpec) : _root_.Go.OpenSpec := { _root_.Go.OpenSpec.ofChange s with cond := some uptoSmall }

/-- 'derricklaw17.ZoneTells', WHERE WHAT IT READS IS OF BULK AT MOST 1048576: true; the input reads as it did. -/
def zoneTellsUptoRow : OpenClaim := { program := "ytkobjdhbfepkaaa", sum := "55a2ccc90599acae7e927c43f2ee7bba085b5e7fe3f01dcf1876d9c80a6d9985", func := "derrick/derricklaw17.ZoneTells", spec := "zoneTells", unfollowed := true, recurses := true, plainKeys := false, apart := false, narrowed := true }
def ZoneTellsUptoSaid : Prop := zoneTellsUptoRow.holds Try.pinned (OpenSpec.upto zoneTellsSpec)

/-- 'derricklaw17.ZoneAnswers', WHERE WHAT IT READS IS OF BULK AT MOST 1048576: true; the input reads as it did. -/
def zoneAnswersUptoRow : OpenClaim := { program := "ytkobjdhbfepkaaa", sum := "55a2ccc90599acae7e927c43f2ee7bba085b5e7fe3f01dcf1876d9c80a6d9985", func := "derrick/derricklaw17.ZoneAnswers", spec := "zoneAnswers", unfollowed := true, recurses := true, plainKeys := false, apart := false, narrowed := true }
def ZoneAnswersUptoSaid : Prop := zoneAnswersUptoRow.holds Try.pinned (OpenSpec.upto zoneAnswersSpec)

/-- 'derricklaw17.ZoneAbout', WHERE WHAT IT READS IS OF BULK AT MOST 1048576: true; the input reads as it did. -/
def zoneAboutUptoRow : OpenClaim := { program := "ytkobjdhbfepkaaa", sum := "55a2ccc90599acae7e927c43f2ee7bba085b5e7fe3f01dcf1876d9c80a6d9985", func := "derrick/derricklaw17.ZoneAbout", spec := "zoneAbout", unfollowed := true, recurses := true, plainKeys := false, apart := false, narrowed := true }
def ZoneAboutUptoSaid : Prop := zoneAboutUptoRow.holds Try.pinned (OpenSpec.upto zoneAboutSpec)

/-- 'derricklaw17.ZoneRefers', WHERE WHAT IT READS IS OF BULK AT MOST 1048576: true; the input reads as it did. -/
def zoneRefersUptoRow : OpenClaim := { program := "ytkobjdhbfepkaaa", sum := "55a2ccc90599acae7e927c43f2ee7bba085b5e7fe3f01dcf1876d9c80a6d9985", func := "derrick/derricklaw17.ZoneRefers", spec := "zoneRefers", unfollowed := true, recurses := true, plainKeys := false, apart := false, narrowed := true }
def ZoneRefersUptoSaid : Prop := zoneRefersUptoRow.holds Try.pinned (OpenSpec.upto zoneRefersSpec)

/-- 'derricklaw17.ZoneBest', WHERE WHAT IT READS IS OF BULK AT MOST 1048576: true; the input reads as it did. -/
def zoneBestUptoRow : OpenClaim := { program := "ytkobjdhbfepkaaa", sum := "55a2ccc90599acae7e927c43f2ee7bba085b5e7fe3f01dcf1876d9c80a6d9985", func := "derrick/derricklaw17.ZoneBest", spec := "zoneBest", unfollowed := true, recurses := true, plainKeys := false, apart := false, narrowed := true }
def ZoneBestUptoSaid : Prop := zoneBestUptoRow.holds Try.pinned (OpenSpec.upto zoneBestSpec)

/-- 'derricklaw17.ZoneGlue', WHERE WHAT IT READS IS OF BULK AT MOST 1048576: true; the input reads as it did. -/
def zoneGlueUptoRow : OpenClaim := { program := "ytkobjdhbfepkaaa", sum := "55a2ccc90599acae7e927c43f2ee7bba085b5e7fe3f01dcf1876d9c80a6d9985", func := "derrick/derricklaw17.ZoneGlue", spec := "zoneGlue", unfollowed := true, recurses := true, plainKeys := false, apart := false, narrowed := true }
def ZoneGlueUptoSaid : Prop := zoneGlueUptoRow.holds Try.pinned (OpenSpec.upto zoneGlueSpec)

/-- 'derricklaw20.AcceptBailiwick', WHERE WHAT IT READS IS OF BULK AT MOST 1048576: true; the input reads as it did. -/
def acceptBailiwickUptoRow : OpenClaim := { program := "ytkobjdhbfepkaaa", sum := "55a2ccc90599acae7e927c43f2ee7bba085b5e7fe3f01dcf1876d9c80a6d9985", func := "derrick/derricklaw20.AcceptBailiwick", spec := "acceptBailiwick", unfollowed := true, recurses := true, plainKeys := false, apart := false, narrowed := true }
def AcceptBailiwickUptoSaid : Prop := acceptBailiwickUptoRow.holds Try.pinned (OpenSpec.upto acceptBailiwickSpec)

/-- 'derricklaw20.AcceptMore', WHERE WHAT IT READS IS OF BULK AT MOST 1048576: true; the input reads as it did. -/
def acceptMoreUptoRow : OpenClaim := { program := "ytkobjdhbfepkaaa", sum := "55a2ccc90599acae7e927c43f2ee7bba085b5e7fe3f01dcf1876d9c80a6d9985", func := "derrick/derricklaw20.AcceptMore", spec := "acceptMore", unfollowed := true, recurses := true, plainKeys := false, apart := false, narrowed := true }
def AcceptMoreUptoSaid : Prop := acceptMoreUptoRow.holds Try.pinned (OpenSpec.upto acceptMoreSpec)

/-- 'derricklaw20.AcceptNothing', WHERE WHAT IT READS IS OF BULK AT MOST 1048576: true; the input reads as it did. -/
def acceptNothingUptoRow : OpenClaim := { program := "ytkobjdhbfepkaaa", sum := "55a2ccc90599acae7e927c43f2ee7bba085b5e7fe3f01dcf1876d9c80a6d9985", func := "derrick/derricklaw20.AcceptNothing", spec := "acceptNothing", unfollowed := true, recurses := true, plainKeys := false, apart := false, narrowed := true }
def AcceptNothingUptoSaid : Prop := acceptNothingUptoRow.holds Try.pinned (OpenSpec.upto acceptNothingSpec)

/-- 'derricklaw20.AcceptLeads', WHERE WHAT IT READS IS OF BULK AT MOST 1048576: true; the input reads as it did. -/
def acceptLeadsUptoRow : OpenClaim := { program := "ytkobjdhbfepkaaa", sum := "55a2ccc90599acae7e927c43f2ee7bba085b5e7fe3f01dcf1876d9c80a6d9985", func := "derrick/derricklaw20.AcceptLeads", spec := "acceptLeads", unfollowed := true, recurses := true, plainKeys := false, apart := false, narrowed := true }
def AcceptLeadsUptoSaid : Prop := acceptLeadsUptoRow.holds Try.pinned (OpenSpec.upto acceptLeadsSpec)

/-- 'derricklaw20.AcceptZones', WHERE WHAT IT READS IS OF BULK AT MOST 1048576: true; the input reads as it did. -/
def acceptZonesUptoRow : OpenClaim := { program := "ytkobjdhbfepkaaa", sum := "55a2ccc90599acae7e927c43f2ee7bba085b5e7fe3f01dcf1876d9c80a6d9985", func := "derrick/derricklaw20.AcceptZones", spec := "acceptZones", unfollowed := true, recurses := true, plainKeys := false, apart := false, narrowed := true }
def AcceptZonesUptoSaid : Prop := acceptZonesUptoRow.holds Try.pinned (OpenSpec.upto acceptZonesSpec)

end Rows
end Go.Proofs.Ytkobjdhbfepkaaa
