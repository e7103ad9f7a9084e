/-
  No cell of these rows narrows 'for every input' (looked for: loops, veiled, ifaces, maps, wideKeys, modest, calm, conditions, laid).
  DERIVED. THE GIVEN ROWS OF THIS SEAT. 12 by the template 'for every input the law returns true; each argument reads behind the call as it read before'; 0 by the template 'total and deterministic' (their statements: YtjlmgjpnfppkoaaTotals.lean).
  GIVEN WITH THE SEED: the statements are not yours to turn. If you find one false, say at which input.
  Laid BY PROGRAM, IN A SANDBOX (cutbox-rows.mjs): the forced cells as the released guide's own fill.sh prints them over the translation 98abddc6b3649307… (all of the seat's roots in one cut). By AI agents, Wed Nov 11 2026. No macro, syntax, notation, axiom, sorry.
-/
import Derived.Test.YtjlmgjpnfppkoaaChecked
import GoSem.Claim
import GoSem.ClaimJoined
import GoSem.ClaimMapViews
import Derived.JoinedTies
import Derived.KernelRfl
namespace Go.Proofs.Ytjlmgjpnfppkoaa
/- THE CELL 'sum', in the pinned program and in every row, IS THE sha256 OF THE DUMP (.gsa) THAT YtjlmgjpnfppkoaaProg.lean LOADS. Nothing in Lean hashes anything: it is a label: what it is worth is what the hold of that sum in a sandbox is worth. -/
noncomputable def Try.pinned : Pinned := { name := "ytjlmgjpnfppkoaa", sum := "98abddc6b3649307e87d1b56b07e4b6f6b763ddb95e30083e458bb56ad33e1bd", checked := Try.checked }
namespace Rows
def none {H : Type} : Left H := { results := [], args := [] }

/-- 'memfaultlaw35.MigrateMoves': WHATEVER THE INPUT: true; the input reads as it did. -/
def migrateMovesSpec : ChangeSpec := { name := "migrateMoves", fn := fun _ => fun
  | [d1, d2, d3, d4, d5, d6] => { results := [.lit (.bool true)], args := [d1, d2, d3, d4, d5, d6] }
  | _ => none }
def migrateMovesRow : OpenClaim := { program := "ytjlmgjpnfppkoaa", sum := "98abddc6b3649307e87d1b56b07e4b6f6b763ddb95e30083e458bb56ad33e1bd", func := "memfault/memfaultlaw35.MigrateMoves", spec := "migrateMoves", unfollowed := true, recurses := true, apart := false }
def MigrateMovesSaid : Prop := migrateMovesRow.holds Try.pinned (OpenSpec.ofChange migrateMovesSpec)

/-- ITS FALSE NEIGHBOUR: 'it returns false'. Refute it at one input. -/
def migrateMovesWrong : ChangeSpec := { name := "migrateMoves", fn := fun _ => fun
  | [d1, d2, d3, d4, d5, d6] => { results := [.lit (.bool false)], args := [d1, d2, d3, d4, d5, d6] }
  | _ => none }
def MigrateMovesWrongFalsely : Prop := migrateMovesRow.holds Try.pinned (OpenSpec.ofChange migrateMovesWrong)

/-- 'memfaultlaw35.MigrateBack': WHATEVER THE INPUT: true; the input reads as it did. -/
def migrateBackSpec : ChangeSpec := { name := "migrateBack", fn := fun _ => fun
  | [d1, d2] => { results := [.lit (.bool true)], args := [d1, d2] }
  | _ => none }
def migrateBackRow : OpenClaim := { program := "ytjlmgjpnfppkoaa", sum := "98abddc6b3649307e87d1b56b07e4b6f6b763ddb95e30083e458bb56ad33e1bd", func := "memfault/memfaultlaw35.MigrateBack", spec := "migrateBack", unfollowed := true, recurses := true, apart := false }
def MigrateBackSaid : Prop := migrateBackRow.holds Try.pinned (OpenSpec.ofChange migrateBackSpec)

/-- ITS FALSE NEIGHBOUR: 'it returns false'. Refute it at one input. -/
def migrateBackWrong : ChangeSpec := { name := "migrateBack", fn := fun _ => fun
  | [d1, d2] => { results := [.lit (.bool false)], args := [d1, d2] }
  | _ => none }
def MigrateBackWrongFalsely : Prop := migrateBackRow.holds Try.pinned (OpenSpec.ofChange migrateBackWrong)

/-- 'memfaultlaw32.DeviceSteps': WHATEVER THE INPUT: true; the input reads as it did. -/
def deviceStepsSpec : ChangeSpec := { name := "deviceSteps", fn := fun _ => fun
  | [d1, d2, d3, d4, d5, d6, d7] => { results := [.lit (.bool true)], args := [d1, d2, d3, d4, d5, d6, d7] }
  | _ => none }
def deviceStepsRow : OpenClaim := { program := "ytjlmgjpnfppkoaa", sum := "98abddc6b3649307e87d1b56b07e4b6f6b763ddb95e30083e458bb56ad33e1bd", func := "memfault/memfaultlaw32.DeviceSteps", spec := "deviceSteps", apart := false }
def DeviceStepsSaid : Prop := deviceStepsRow.holds Try.pinned (OpenSpec.ofChange deviceStepsSpec)

/-- ITS FALSE NEIGHBOUR: 'it returns false'. Refute it at one input. -/
def deviceStepsWrong : ChangeSpec := { name := "deviceSteps", fn := fun _ => fun
  | [d1, d2, d3, d4, d5, d6, d7] => { results := [.lit (.bool false)], args := [d1, d2, d3, d4, d5, d6, d7] }
  | _ => none }
def DeviceStepsWrongFalsely : Prop := deviceStepsRow.holds Try.pinned (OpenSpec.ofChange deviceStepsWrong)

/-- 'memfaultlaw32.DeviceWhole': WHATEVER THE INPUT: true; the input reads as it did. -/
def deviceWholeSpec : ChangeSpec := { name := "deviceWhole", fn := fun _ => fun
  | [d1, d2, d3, d4, d5] => { results := [.lit (.bool true)], args := [d1, d2, d3, d4, d5] }
  | _ => none }
def deviceWholeRow : OpenClaim := { program := "ytjlmgjpnfppkoaa", sum := "98abddc6b3649307e87d1b56b07e4b6f6b763ddb95e30083e458bb56ad33e1bd", func := "memfault/memfaultlaw32.DeviceWhole", spec := "deviceWhole", apart := false }
def DeviceWholeSaid : Prop := deviceWholeRow.holds Try.pinned (OpenSpec.ofChange deviceWholeSpec)

/-- ITS FALSE NEIGHBOUR: 'it returns false'. Refute it at one input. -/
def deviceWholeWrong : ChangeSpec := { name := "deviceWhole", fn := fun _ => fun
  | [d1, d2, d3, d4, d5] => { results := [.lit (.bool false)], args := [d1, d2, d3, d4, d5] }
  | _ => none }
def DeviceWholeWrongFalsely : Prop := deviceWholeRow.holds Try.pinned (OpenSpec.ofChange deviceWholeWrong)

/-- 'memfaultlaw32.DeviceRanges': WHATEVER THE INPUT: true; the input reads as it did. -/
def deviceRangesSpec : ChangeSpec := { name := "deviceRanges", fn := fun _ => fun
  | [d1, d2, d3] => { results := [.lit (.bool true)], args := [d1, d2, d3] }
  | _ => none }
def deviceRangesRow : OpenClaim := { program := "ytjlmgjpnfppkoaa", sum := "98abddc6b3649307e87d1b56b07e4b6f6b763ddb95e30083e458bb56ad33e1bd", func := "memfault/memfaultlaw32.DeviceRanges", spec := "deviceRanges", apart := false }
def DeviceRangesSaid : Prop := deviceRangesRow.holds Try.pinned (OpenSpec.ofChange deviceRangesSpec)

/-- ITS FALSE NEIGHBOUR: 'it returns false'. Refute it at one input. -/
def deviceRangesWrong : ChangeSpec := { name := "deviceRanges", fn := fun _ => fun
  | [d1, d2, d3] => { results := [.lit (.bool false)], args := [d1, d2, d3] }
  | _ => none }
def DeviceRangesWrongFalsely : Prop := deviceRangesRow.holds Try.pinned (OpenSpec.ofChange deviceRangesWrong)

/-- 'memfaultlaw32.DeviceOver': WHATEVER THE INPUT: true; the input reads as it did. -/
def deviceOverSpec : ChangeSpec := { name := "deviceOver", fn := fun _ => fun
  | [d1, d2] => { results := [.lit (.bool true)], args := [d1, d2] }
  | _ => none }
def deviceOverRow : OpenClaim := { program := "ytjlmgjpnfppkoaa", sum := "98abddc6b3649307e87d1b56b07e4b6f6b763ddb95e30083e458bb56ad33e1bd", func := "memfault/memfaultlaw32.DeviceOver", spec := "deviceOver", apart := false }
def DeviceOverSaid : Prop := deviceOverRow.holds Try.pinned (OpenSpec.ofChange deviceOverSpec)

/-- ITS FALSE NEIGHBOUR: 'it returns false'. Refute it at one input. -/
def deviceOverWrong : ChangeSpec := { name := "deviceOver", fn := fun _ => fun
  | [d1, d2] => { results := [.lit (.bool false)], args := [d1, d2] }
  | _ => none }
def DeviceOverWrongFalsely : Prop := deviceOverRow.holds Try.pinned (OpenSpec.ofChange deviceOverWrong)

/-- 'memfaultlaw35.MigratePlaces': WHATEVER THE INPUT: true; the input reads as it did. -/
def migratePlacesSpec : ChangeSpec := { name := "migratePlaces", fn := fun _ => fun
  | [d] => { results := [.lit (.bool true)], args := [d] }
  | _ => none }
def migratePlacesRow : OpenClaim := { program := "ytjlmgjpnfppkoaa", sum := "98abddc6b3649307e87d1b56b07e4b6f6b763ddb95e30083e458bb56ad33e1bd", func := "memfault/memfaultlaw35.MigratePlaces", spec := "migratePlaces", apart := false }
def MigratePlacesSaid : Prop := migratePlacesRow.holds Try.pinned (OpenSpec.ofChange migratePlacesSpec)

/-- ITS FALSE NEIGHBOUR: 'it returns false'. Refute it at one input. -/
def migratePlacesWrong : ChangeSpec := { name := "migratePlaces", fn := fun _ => fun
  | [d] => { results := [.lit (.bool false)], args := [d] }
  | _ => none }
def MigratePlacesWrongFalsely : Prop := migratePlacesRow.holds Try.pinned (OpenSpec.ofChange migratePlacesWrong)

/-- 'memfaultlaw28.FrameFits': WHATEVER THE INPUT: true; the input reads as it did. -/
def frameFitsSpec : ChangeSpec := { name := "frameFits", fn := fun _ => fun
  | [d1, d2] => { results := [.lit (.bool true)], args := [d1, d2] }
  | _ => none }
def frameFitsRow : OpenClaim := { program := "ytjlmgjpnfppkoaa", sum := "98abddc6b3649307e87d1b56b07e4b6f6b763ddb95e30083e458bb56ad33e1bd", func := "memfault/memfaultlaw28.FrameFits", spec := "frameFits", unfollowed := true, recurses := true, apart := false }
def FrameFitsSaid : Prop := frameFitsRow.holds Try.pinned (OpenSpec.ofChange frameFitsSpec)

/-- ITS FALSE NEIGHBOUR: 'it returns false'. Refute it at one input. -/
def frameFitsWrong : ChangeSpec := { name := "frameFits", fn := fun _ => fun
  | [d1, d2] => { results := [.lit (.bool false)], args := [d1, d2] }
  | _ => none }
def FrameFitsWrongFalsely : Prop := frameFitsRow.holds Try.pinned (OpenSpec.ofChange frameFitsWrong)

/-- 'memfaultlaw28.FrameFull': WHATEVER THE INPUT: true; the input reads as it did. -/
def frameFullSpec : ChangeSpec := { name := "frameFull", fn := fun _ => fun
  | [d] => { results := [.lit (.bool true)], args := [d] }
  | _ => none }
def frameFullRow : OpenClaim := { program := "ytjlmgjpnfppkoaa", sum := "98abddc6b3649307e87d1b56b07e4b6f6b763ddb95e30083e458bb56ad33e1bd", func := "memfault/memfaultlaw28.FrameFull", spec := "frameFull", unfollowed := true, recurses := true, apart := false }
def FrameFullSaid : Prop := frameFullRow.holds Try.pinned (OpenSpec.ofChange frameFullSpec)

/-- ITS FALSE NEIGHBOUR: 'it returns false'. Refute it at one input. -/
def frameFullWrong : ChangeSpec := { name := "frameFull", fn := fun _ => fun
  | [d] => { results := [.lit (.bool false)], args := [d] }
  | _ => none }
def FrameFullWrongFalsely : Prop := frameFullRow.holds Try.pinned (OpenSpec.ofChange frameFullWrong)

/-- 'memfaultlaw28.FrameStates': WHATEVER THE INPUT: true; the input reads as it did. -/
def frameStatesSpec : ChangeSpec := { name := "frameStates", fn := fun _ => fun
  | [d1, d2] => { results := [.lit (.bool true)], args := [d1, d2] }
  | _ => none }
def frameStatesRow : OpenClaim := { program := "ytjlmgjpnfppkoaa", sum := "98abddc6b3649307e87d1b56b07e4b6f6b763ddb95e30083e458bb56ad33e1bd", func := "memfault/memfaultlaw28.FrameStates", spec := "frameStates", unfollowed := true, recurses := true, apart := false }
def FrameStatesSaid : Prop := frameStatesRow.holds Try.pinned (OpenSpec.ofChange frameStatesSpec)

/-- ITS FALSE NEIGHBOUR: 'it returns false'. Refute it at one input. -/
def frameStatesWrong : ChangeSpec := { name := "frameStates", fn := fun _ => fun
  | [d1, d2] => { results := [.lit (.bool false)], args := [d1, d2] }
  | _ => none }
def FrameStatesWrongFalsely : Prop := frameStatesRow.holds Try.pinned (OpenSpec.ofChange frameStatesWrong)

/-- 'memfaultlaw28.FrameChanges': WHATEVER THE INPUT: true; the input reads as it did. -/
def frameChangesSpec : ChangeSpec := { name := "frameChanges", fn := fun _ => fun
  | [d1, d2, d3, d4, d5, d6] => { results := [.lit (.bool true)], args := [d1, d2, d3, d4, d5, d6] }
  | _ => none }
def frameChangesRow : OpenClaim := { program := "ytjlmgjpnfppkoaa", sum := "98abddc6b3649307e87d1b56b07e4b6f6b763ddb95e30083e458bb56ad33e1bd", func := "memfault/memfaultlaw28.FrameChanges", spec := "frameChanges", unfollowed := true, recurses := true, apart := false }
def FrameChangesSaid : Prop := frameChangesRow.holds Try.pinned (OpenSpec.ofChange frameChangesSpec)

/-- ITS FALSE NEIGHBOUR: 'it returns false'. Refute it at one input. -/
def frameChangesWrong : ChangeSpec := { name := "frameChanges", fn := fun _ => fun
  | [d1, d2, d3, d4, d5, d6] => { results := [.lit (.bool false)], args := [d1, d2, d3, d4, d5, d6] }
  | _ => none }
def FrameChangesWrongFalsely : Prop := frameChangesRow.holds Try.pinned (OpenSpec.ofChange frameChangesWrong)

/-- 'memfaultlaw28.FrameRuns': WHATEVER THE INPUT: true; the input reads as it did. -/
def frameRunsSpec : ChangeSpec := { name := "frameRuns", fn := fun _ => fun
  | [d] => { results := [.lit (.bool true)], args := [d] }
  | _ => none }
def frameRunsRow : OpenClaim := { program := "ytjlmgjpnfppkoaa", sum := "98abddc6b3649307e87d1b56b07e4b6f6b763ddb95e30083e458bb56ad33e1bd", func := "memfault/memfaultlaw28.FrameRuns", spec := "frameRuns", unfollowed := true, recurses := true, apart := false }
def FrameRunsSaid : Prop := frameRunsRow.holds Try.pinned (OpenSpec.ofChange frameRunsSpec)

/-- ITS FALSE NEIGHBOUR: 'it returns false'. Refute it at one input. -/
def frameRunsWrong : ChangeSpec := { name := "frameRuns", fn := fun _ => fun
  | [d] => { results := [.lit (.bool false)], args := [d] }
  | _ => none }
def FrameRunsWrongFalsely : Prop := frameRunsRow.holds Try.pinned (OpenSpec.ofChange frameRunsWrong)

/- THE SECOND FORM. 'bulk': how many values and letters a reading holds, each counted each time it is reached (what is shared counts as often as it is met; a slice's spare places count too). A statement '..UptoSaid' is the law's where the arguments, and the package variables that the reading takes, are together of bulk at most 1048576: NARROWER than '..Said'. Prove '..Said' where nothing that the law and all that it calls make is longer than what came in: it says more and counts as full. Else prove '..UptoSaid'. A law counts once. -/
mutual
def uptoBulk {H : Type} : DataW H → Nat
  | .lit (.string bytes) => bytes.length + 1
  | .lit _ => 1
  | .nil => 1
  | .ptr d => uptoBulk d + 1
  | .slice elems spare => uptoBulkAll elems + uptoBulkAll spare + 1
  | .agg parts => uptoBulkAll parts + 1
  | .iface _ d => uptoBulk d + 1
  | .map entries => uptoBulkEntries entries + 1
  | .held _ => 1
def uptoBulkAll {H : Type} : List (DataW H) → Nat
  | [] => 0
  | d :: r => uptoBulk d + uptoBulkAll r
def uptoBulkEntries {H : Type} : List (Lit × DataW H) → Nat
  | [] => 0
  | x :: r => uptoBulkEntry x + uptoBulkEntries r
def uptoBulkEntry {H : Type} : Lit × DataW H → Nat
  | (.string bytes, d) => bytes.length + uptoBulk d + 1
  | (_, d) => uptoBulk d + 1
 end
def uptoSmall : (H : Type) → List (DataW H) → Bool := fun _ ds => decide (uptoBulkAll ds ≤ 1048576)
def OpenSpec.upto (s : _root_.Go.ChangeSpec) : _root_.Go.OpenSpec := { _root_.Go.OpenSpec.ofChange s with cond := some uptoSmall }

/-- 'memfaultlaw35.MigrateMoves', WHERE WHAT IT READS IS OF BULK AT MOST 1048576: true; the input reads as it did. -/
def migrateMovesUptoRow : OpenClaim := { program := "ytjlmgjpnfppkoaa", sum := "98abddc6b3649307e87d1b56b07e4b6f6b763ddb95e30083e458bb56ad33e1bd", func := "memfault/memfaultlaw35.MigrateMoves", spec := "migrateMoves", unfollowed := true, recurses := true, apart := false, narrowed := true }
def MigrateMovesUptoSaid : Prop := migrateMovesUptoRow.holds Try.pinned (OpenSpec.upto migrateMovesSpec)

/-- 'memfaultlaw35.MigrateBack', WHERE WHAT IT READS IS OF BULK AT MOST 1048576: true; the input reads as it did. -/
def migrateBackUptoRow : OpenClaim := { program := "ytjlmgjpnfppkoaa", sum := "98abddc6b3649307e87d1b56b07e4b6f6b763ddb95e30083e458bb56ad33e1bd", func := "memfault/memfaultlaw35.MigrateBack", spec := "migrateBack", unfollowed := true, recurses := true, apart := false, narrowed := true }
def MigrateBackUptoSaid : Prop := migrateBackUptoRow.holds Try.pinned (OpenSpec.upto migrateBackSpec)

/-- 'memfaultlaw32.DeviceSteps', WHERE WHAT IT READS IS OF BULK AT MOST 1048576: true; the input reads as it did. -/
def deviceStepsUptoRow : OpenClaim := { program := "ytjlmgjpnfppkoaa", sum := "98abddc6b3649307e87d1b56b07e4b6f6b763ddb95e30083e458bb56ad33e1bd", func := "memfault/memfaultlaw32.DeviceSteps", spec := "deviceSteps", apart := false, narrowed := true }
def DeviceStepsUptoSaid : Prop := deviceStepsUptoRow.holds Try.pinned (OpenSpec.upto deviceStepsSpec)

/-- 'memfaultlaw32.DeviceWhole', WHERE WHAT IT READS IS OF BULK AT MOST 1048576: true; the input reads as it did. -/
def deviceWholeUptoRow : OpenClaim := { program := "ytjlmgjpnfppkoaa", sum := "98abddc6b3649307e87d1b56b07e4b6f6b763ddb95e30083e458bb56ad33e1bd", func := "memfault/memfaultlaw32.DeviceWhole", spec := "deviceWhole", apart := false, narrowed := true }
def DeviceWholeUptoSaid : Prop := deviceWholeUptoRow.holds Try.pinned (OpenSpec.upto deviceWholeSpec)

/-- 'memfaultlaw32.DeviceRanges', WHERE WHAT IT READS IS OF BULK AT MOST 1048576: true; the input reads as it did. -/
def deviceRangesUptoRow : OpenClaim := { program := "ytjlmgjpnfppkoaa", sum := "98abddc6b3649307e87d1b56b07e4b6f6b763ddb95e30083e458bb56ad33e1bd", func := "memfault/memfaultlaw32.DeviceRanges", spec := "deviceRanges", apart := false, narrowed := true }
def DeviceRangesUptoSaid : Prop := deviceRangesUptoRow.holds Try.pinned (OpenSpec.upto deviceRangesSpec)

/-- 'memfaultlaw32.DeviceOver', WHERE WHAT IT READS IS OF BULK AT MOST 1048576: true; the input reads as it did. -/
def deviceOverUptoRow : OpenClaim := { program := "ytjlmgjpnfppkoaa", sum := "98abddc6b3649307e87d1b56b07e4b6f6b763ddb95e30083e458bb56ad33e1bd", func := "memfault/memfaultlaw32.DeviceOver", spec := "deviceOver", apart := false, narrowed := true }
def DeviceOverUptoSaid : Prop := deviceOverUptoRow.holds Try.pinned (OpenSpec.upto deviceOverSpec)

/-- 'memfaultlaw35.MigratePlaces', WHERE WHAT IT READS IS OF BULK AT MOST 1048576: true; the input reads as it did. -/
def migratePlacesUptoRow : OpenClaim := { program := "ytjlmgjpnfppkoaa", sum := "98abddc6b3649307e87d1b56b07e4b6f6b763ddb95e30083e458bb56ad33e1bd", func := "memfault/memfaultlaw35.MigratePlaces", spec := "migratePlaces", apart := false, narrowed := true }
def MigratePlacesUptoSaid : Prop := migratePlacesUptoRow.holds Try.pinned (OpenSpec.upto migratePlacesSpec)

/-- 'memfaultlaw28.FrameFits', WHERE WHAT IT READS IS OF BULK AT MOST 1048576: true; the input reads as it did. -/
def frameFitsUptoRow : OpenClaim := { program := "ytjlmgjpnfppkoaa", sum := "98abddc6b3649307e87d1b56b07e4b6f6b763ddb95e30083e458bb56ad33e1bd", func := "memfault/memfaultlaw28.FrameFits", spec := "frameFits", unfollowed := true, recurses := true, apart := false, narrowed := true }
def FrameFitsUptoSaid : Prop := frameFitsUptoRow.holds Try.pinned (OpenSpec.upto frameFitsSpec)

/-- 'memfaultlaw28.FrameFull', WHERE WHAT IT READS IS OF BULK AT MOST 1048576: true; the input reads as it did. -/
def frameFullUptoRow : OpenClaim := { program := "ytjlmgjpnfppkoaa", sum := "98abddc6b3649307e87d1b56b07e4b6f6b763ddb95e30083e458bb56ad33e1bd", func := "memfault/memfaultlaw28.FrameFull", spec := "frameFull", unfollowed := true, recurses := true, apart := false, narrowed := true }
def FrameFullUptoSaid : Prop := frameFullUptoRow.holds Try.pinned (OpenSpec.upto frameFullSpec)

/-- 'memfaultlaw28.FrameStates', WHERE WHAT IT READS IS OF BULK AT MOST 1048576: true; the input reads as it did. -/
def frameStatesUptoRow : OpenClaim := { program := "ytjlmgjpnfppkoaa", sum := "98abddc6b3649307e87d1b56b07e4b6f6b763ddb95e30083e458bb56ad33e1bd", func := "memfault/memfaultlaw28.FrameStates", spec := "frameStates", unfollowed := true, recurses := true, apart := false, narrowed := true }
def FrameStatesUptoSaid : Prop := frameStatesUptoRow.holds Try.pinned (OpenSpec.upto frameStatesSpec)

/-- 'memfaultlaw28.FrameChanges', WHERE WHAT IT READS IS OF BULK AT MOST 1048576: true; the input reads as it did. -/
def frameChangesUptoRow : OpenClaim := { program := "ytjlmgjpnfppkoaa", sum := "98abddc6b3649307e87d1b56b07e4b6f6b763ddb95e30083e458bb56ad33e1bd", func := "memfault/memfaultlaw28.FrameChanges", spec := "frameChanges", unfollowed := true, recurses := true, apart := false, narrowed := true }
def FrameChangesUptoSaid : Prop := frameChangesUptoRow.holds Try.pinned (OpenSpec.upto frameChangesSpec)

/-- 'memfaultlaw28.FrameRuns', WHERE WHAT IT READS IS OF BULK AT MOST 1048576: true; the input reads as it did. -/
def frameRunsUptoRow : OpenClaim := { program := "ytjlmgjpnfppkoaa", sum := "98abddc6b3649307e87d1b56b07e4b6f6b763ddb95e30083e458bb56ad33e1bd", func := "memfault/memfaultlaw28.FrameRuns", spec := "frameRuns", unfollowed := true, recurses := true, apart := false, narrowed := true }
def FrameRunsUptoSaid : Prop := frameRunsUptoRow.holds Try.pinned (OpenSpec.upto frameRunsSpec)

end Rows
end Go.Proofs.Ytjlmgjpnfppkoaa
