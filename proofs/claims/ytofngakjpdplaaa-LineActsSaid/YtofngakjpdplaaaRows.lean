/-
  No cell of these rows narrows 'for every input' (looked for: loops, veiled, ifaces, maps, wideKeys, modest, calm, conditions, laid).
  DERIVED. THE GIVEN ROWS OF THIS SEAT. 3 by the template 'for every input the law returns true; each argument reads behind the call as it read before'; 0 by the template 'total and deterministic' (their statements: YtofngakjpdplaaaTotals.lean).
  GIVEN WITH THE SEED: the statements are not yours to turn. If you find one false, say at which input.
  Laid BY PROGRAM, IN A SANDBOX (cutbox-rows.mjs): the forced cells as the released guide's own fill.sh prints them over the translation bb5255c7d3952c76… (all of the seat's roots in one cut). By AI agents, Wed Nov 11 2026. No macro, syntax, notation, axiom, sorry.
-/
import Derived.Test.YtofngakjpdplaaaChecked
import GoSem.Claim
import GoSem.ClaimJoined
import GoSem.ClaimMapViews
import Derived.JoinedTies
import Derived.KernelRfl
namespace Go.Proofs.Ytofngakjpdplaaa
/- THE CELL 'sum', in the pinned program and in every row, IS THE sha256 OF THE DUMP (.gsa) THAT YtofngakjpdplaaaProg.lean LOADS. Nothing in Lean hashes anything: it is a label: what it is worth is what the hold of that sum in a sandbox is worth. -/
noncomputable def Try.pinned : Pinned := { name := "ytofngakjpdplaaa", sum := "bb5255c7d3952c76c8a4c4ffb4f4c8ad8710100e8df7e4f367b2bf6c7a96cf3e", checked := Try.checked }
namespace Rows
def none {H : Type} : Left H := { results := [], args := [] }

/-- 'memfaultlaw30.LineActs': WHATEVER THE INPUT: true; the input reads as it did. -/
def lineActsSpec : ChangeSpec := { name := "lineActs", fn := fun _ => fun
  | [d1, d2, d3, d4, d5] => { results := [.lit (.bool true)], args := [d1, d2, d3, d4, d5] }
  | _ => none }
def lineActsRow : OpenClaim := { program := "ytofngakjpdplaaa", sum := "bb5255c7d3952c76c8a4c4ffb4f4c8ad8710100e8df7e4f367b2bf6c7a96cf3e", func := "memfault/memfaultlaw30.LineActs", spec := "lineActs", apart := false }
def LineActsSaid : Prop := lineActsRow.holds Try.pinned (OpenSpec.ofChange lineActsSpec)

/-- ITS FALSE NEIGHBOUR: 'it returns false'. Refute it at one input. -/
def lineActsWrong : ChangeSpec := { name := "lineActs", fn := fun _ => fun
  | [d1, d2, d3, d4, d5] => { results := [.lit (.bool false)], args := [d1, d2, d3, d4, d5] }
  | _ => none }
def LineActsWrongFalsely : Prop := lineActsRow.holds Try.pinned (OpenSpec.ofChange lineActsWrong)

/-- 'memfaultlaw30.LineStays': WHATEVER THE INPUT: true; the input reads as it did. -/
def lineStaysSpec : ChangeSpec := { name := "lineStays", fn := fun _ => fun
  | [d1, d2] => { results := [.lit (.bool true)], args := [d1, d2] }
  | _ => none }
def lineStaysRow : OpenClaim := { program := "ytofngakjpdplaaa", sum := "bb5255c7d3952c76c8a4c4ffb4f4c8ad8710100e8df7e4f367b2bf6c7a96cf3e", func := "memfault/memfaultlaw30.LineStays", spec := "lineStays", apart := false }
def LineStaysSaid : Prop := lineStaysRow.holds Try.pinned (OpenSpec.ofChange lineStaysSpec)

/-- ITS FALSE NEIGHBOUR: 'it returns false'. Refute it at one input. -/
def lineStaysWrong : ChangeSpec := { name := "lineStays", fn := fun _ => fun
  | [d1, d2] => { results := [.lit (.bool false)], args := [d1, d2] }
  | _ => none }
def LineStaysWrongFalsely : Prop := lineStaysRow.holds Try.pinned (OpenSpec.ofChange lineStaysWrong)

/-- 'memfaultlaw30.LineWhole': WHATEVER THE INPUT: true; the input reads as it did. -/
def lineWholeSpec : ChangeSpec := { name := "lineWhole", fn := fun _ => fun
  | [d1, d2, d3, d4, d5] => { results := [.lit (.bool true)], args := [d1, d2, d3, d4, d5] }
  | _ => none }
def lineWholeRow : OpenClaim := { program := "ytofngakjpdplaaa", sum := "bb5255c7d3952c76c8a4c4ffb4f4c8ad8710100e8df7e4f367b2bf6c7a96cf3e", func := "memfault/memfaultlaw30.LineWhole", spec := "lineWhole", apart := false }
def LineWholeSaid : Prop := lineWholeRow.holds Try.pinned (OpenSpec.ofChange lineWholeSpec)

/-- ITS FALSE NEIGHBOUR: 'it returns false'. Refute it at one input. -/
def lineWholeWrong : ChangeSpec := { name := "lineWhole", fn := fun _ => fun
  | [d1, d2, d3, d4, d5] => { results := [.lit (.bool false)], args := [d1, d2, d3, d4, d5] }
  | _ => none }
def LineWholeWrongFalsely : Prop := lineWholeRow.holds Try.pinned (OpenSpec.ofChange lineWholeWrong)

/- THE SECOND FORM. 'bulk': how many values and letters a reading holds, each counted each time it is reached (what is shared counts as often as it is met; a slice's spare places count too). A statement '..UptoSaid' is the law's where the arguments, and the package variables that the reading takes, are together of bulk at most 1048576: NARROWER than '..Said'. Prove '..Said' where nothing that the law and all that it calls make is longer than what came in: it says more and counts as full. Else prove '..UptoSaid'. A law counts once. -/
mutual
def uptoBulk {H : Type} : DataW H → Nat
  | .lit (.string bytes) => bytes.length + 1
  | .lit _ => 1
  | .nil => 1
  | .ptr d => uptoBulk d + 1
  | .slice elems spare => uptoBulkAll elems + uptoBulkAll spare + 1
  | .agg parts => uptoBulkAll parts + 1
  | .iface _ d => uptoBulk d + 1
  | .map entries => uptoBulkEntries entries + 1
  | .held _ => 1
def uptoBulkAll {H : Type} : List (DataW H) → Nat
  | [] => 0
  | d :: r => uptoBulk d + uptoBulkAll r
def uptoBulkEntries {H : Type} : List (Lit × DataW H) → Nat
  | [] => 0
  | x :: r => uptoBulkEntry x + uptoBulkEntries r
def uptoBulkEntry {H : Type} : Lit × DataW H → Nat
  | (.string bytes, d) => bytes.length + uptoBulk d + 1
  | (_, d) => uptoBulk d + 1
 end
def uptoSmall : (H : Type) → List (DataW H) → Bool := fun _ ds => decide (uptoBulkAll ds ≤ 1048576)
def OpenSpec.upto (s : _root_.Go.ChangeSpec) : _root_.Go.OpenSpec := { _root_.Go.OpenSpec.ofChange s with cond := some uptoSmall }

/-- 'memfaultlaw30.LineActs', WHERE WHAT IT READS IS OF BULK AT MOST 1048576: true; the input reads as it did. -/
def lineActsUptoRow : OpenClaim := { program := "ytofngakjpdplaaa", sum := "bb5255c7d3952c76c8a4c4ffb4f4c8ad8710100e8df7e4f367b2bf6c7a96cf3e", func := "memfault/memfaultlaw30.LineActs", spec := "lineActs", apart := false, narrowed := true }
def LineActsUptoSaid : Prop := lineActsUptoRow.holds Try.pinned (OpenSpec.upto lineActsSpec)

/-- 'memfaultlaw30.LineStays', WHERE WHAT IT READS IS OF BULK AT MOST 1048576: true; the input reads as it did. -/
def lineStaysUptoRow : OpenClaim := { program := "ytofngakjpdplaaa", sum := "bb5255c7d3952c76c8a4c4ffb4f4c8ad8710100e8df7e4f367b2bf6c7a96cf3e", func := "memfault/memfaultlaw30.LineStays", spec := "lineStays", apart := false, narrowed := true }
def LineStaysUptoSaid : Prop := lineStaysUptoRow.holds Try.pinned (OpenSpec.upto lineStaysSpec)

/-- 'memfaultlaw30.LineWhole', WHERE WHAT IT READS IS OF BULK AT MOST 1048576: true; the input reads as it did. -/
def lineWholeUptoRow : OpenClaim := { program := "ytofngakjpdplaaa", sum := "bb5255c7d3952c76c8a4c4ffb4f4c8ad8710100e8df7e4f367b2bf6c7a96cf3e", func := "memfault/memfaultlaw30.LineWhole", spec := "lineWhole", apart := false, narrowed := true }
def LineWholeUptoSaid : Prop := lineWholeUptoRow.holds Try.pinned (OpenSpec.upto lineWholeSpec)

end Rows
end Go.Proofs.Ytofngakjpdplaaa
