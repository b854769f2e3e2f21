/-
  No cell of these rows narrows 'for every input' (looked for: loops, veiled, ifaces, maps, wideKeys, modest, calm, conditions, laid).
  DERIVED. THE GIVEN ROWS OF THIS SEAT. 6 by the template 'for every input the law returns true; each argument reads behind the call as it read before'; 0 by the template 'total and deterministic' (their statements: YtkofbgicfmojjaaTotals.lean).
  GIVEN WITH THE SEED: the statements are not yours to turn. If you find one false, say at which input.
  Laid BY PROGRAM, IN A SANDBOX (cutbox-rows.mjs): the forced cells as the released guide's own fill.sh prints them over the translation 8bd66e9ac9aa3cc7… (all of the seat's roots in one cut). By AI agents, Wed Nov 11 2026. No macro, syntax, notation, axiom, sorry.
-/
import Derived.Test.YtkofbgicfmojjaaChecked
import GoSem.Claim
import GoSem.ClaimJoined
import GoSem.ClaimMapViews
import Derived.JoinedTies
import Derived.KernelRfl
namespace Go.Proofs.Ytkofbgicfmojjaa
/- THE CELL 'sum', in the pinned program and in every row, IS THE sha256 OF THE DUMP (.gsa) THAT YtkofbgicfmojjaaProg.lean LOADS. Nothing in Lean hashes anything: it is a label: what it is worth is what the hold of that sum in a sandbox is worth. -/
noncomputable def Try.pinned : Pinned := { name := "ytkofbgicfmojjaa", sum := "8bd66e9ac9aa3cc75316f3abe0d0ead657d179c7bc5fb0f362f4b3d083289a67", checked := Try.checked }
namespace Rows
def none {H : Type} : Left H := { results := [], args := [] }

/-- 'tamislaw11.TermValues': WHATEVER THE INPUT: true; the input reads as it did. -/
def termValuesSpec : ChangeSpec := { name := "termValues", fn := fun _ => fun
  | [d1, d2, d3] => { results := [.lit (.bool true)], args := [d1, d2, d3] }
  | _ => none }
def termValuesRow : OpenClaim := { program := "ytkofbgicfmojjaa", sum := "8bd66e9ac9aa3cc75316f3abe0d0ead657d179c7bc5fb0f362f4b3d083289a67", func := "tamis/tamislaw11.TermValues", spec := "termValues", plainKeys := false, apart := false }
def TermValuesSaid : Prop := termValuesRow.holds Try.pinned (OpenSpec.ofChange termValuesSpec)

/-- ITS FALSE NEIGHBOUR: 'it returns false'. Refute it at one input. -/
def termValuesWrong : ChangeSpec := { name := "termValues", fn := fun _ => fun
  | [d1, d2, d3] => { results := [.lit (.bool false)], args := [d1, d2, d3] }
  | _ => none }
def TermValuesWrongFalsely : Prop := termValuesRow.holds Try.pinned (OpenSpec.ofChange termValuesWrong)

/-- 'tamislaw11.TermUses': WHATEVER THE INPUT: true; the input reads as it did. -/
def termUsesSpec : ChangeSpec := { name := "termUses", fn := fun _ => fun
  | [d1, d2, d3] => { results := [.lit (.bool true)], args := [d1, d2, d3] }
  | _ => none }
def termUsesRow : OpenClaim := { program := "ytkofbgicfmojjaa", sum := "8bd66e9ac9aa3cc75316f3abe0d0ead657d179c7bc5fb0f362f4b3d083289a67", func := "tamis/tamislaw11.TermUses", spec := "termUses", plainKeys := false, apart := false }
def TermUsesSaid : Prop := termUsesRow.holds Try.pinned (OpenSpec.ofChange termUsesSpec)

/-- ITS FALSE NEIGHBOUR: 'it returns false'. Refute it at one input. -/
def termUsesWrong : ChangeSpec := { name := "termUses", fn := fun _ => fun
  | [d1, d2, d3] => { results := [.lit (.bool false)], args := [d1, d2, d3] }
  | _ => none }
def TermUsesWrongFalsely : Prop := termUsesRow.holds Try.pinned (OpenSpec.ofChange termUsesWrong)

/-- 'tamislaw11.TermSize': WHATEVER THE INPUT: true; the input reads as it did. -/
def termSizeSpec : ChangeSpec := { name := "termSize", fn := fun _ => fun
  | [d] => { results := [.lit (.bool true)], args := [d] }
  | _ => none }
def termSizeRow : OpenClaim := { program := "ytkofbgicfmojjaa", sum := "8bd66e9ac9aa3cc75316f3abe0d0ead657d179c7bc5fb0f362f4b3d083289a67", func := "tamis/tamislaw11.TermSize", spec := "termSize", plainKeys := false, apart := false }
def TermSizeSaid : Prop := termSizeRow.holds Try.pinned (OpenSpec.ofChange termSizeSpec)

/-- ITS FALSE NEIGHBOUR: 'it returns false'. Refute it at one input. -/
def termSizeWrong : ChangeSpec := { name := "termSize", fn := fun _ => fun
  | [d] => { results := [.lit (.bool false)], args := [d] }
  | _ => none }
def TermSizeWrongFalsely : Prop := termSizeRow.holds Try.pinned (OpenSpec.ofChange termSizeWrong)

/-- 'tamislaw11.TermOnly': WHATEVER THE INPUT: true; the input reads as it did. -/
def termOnlySpec : ChangeSpec := { name := "termOnly", fn := fun _ => fun
  | [d1, d2, d3] => { results := [.lit (.bool true)], args := [d1, d2, d3] }
  | _ => none }
def termOnlyRow : OpenClaim := { program := "ytkofbgicfmojjaa", sum := "8bd66e9ac9aa3cc75316f3abe0d0ead657d179c7bc5fb0f362f4b3d083289a67", func := "tamis/tamislaw11.TermOnly", spec := "termOnly", plainKeys := false, apart := false }
def TermOnlySaid : Prop := termOnlyRow.holds Try.pinned (OpenSpec.ofChange termOnlySpec)

/-- ITS FALSE NEIGHBOUR: 'it returns false'. Refute it at one input. -/
def termOnlyWrong : ChangeSpec := { name := "termOnly", fn := fun _ => fun
  | [d1, d2, d3] => { results := [.lit (.bool false)], args := [d1, d2, d3] }
  | _ => none }
def TermOnlyWrongFalsely : Prop := termOnlyRow.holds Try.pinned (OpenSpec.ofChange termOnlyWrong)

/-- 'tamislaw11.TermPool': WHATEVER THE INPUT: true; the input reads as it did. -/
def termPoolSpec : ChangeSpec := { name := "termPool", fn := fun _ => fun
  | [d] => { results := [.lit (.bool true)], args := [d] }
  | _ => none }
def termPoolRow : OpenClaim := { program := "ytkofbgicfmojjaa", sum := "8bd66e9ac9aa3cc75316f3abe0d0ead657d179c7bc5fb0f362f4b3d083289a67", func := "tamis/tamislaw11.TermPool", spec := "termPool", plainKeys := false, apart := false }
def TermPoolSaid : Prop := termPoolRow.holds Try.pinned (OpenSpec.ofChange termPoolSpec)

/-- ITS FALSE NEIGHBOUR: 'it returns false'. Refute it at one input. -/
def termPoolWrong : ChangeSpec := { name := "termPool", fn := fun _ => fun
  | [d] => { results := [.lit (.bool false)], args := [d] }
  | _ => none }
def TermPoolWrongFalsely : Prop := termPoolRow.holds Try.pinned (OpenSpec.ofChange termPoolWrong)

/-- 'tamislaw11.TermTrees': WHATEVER THE INPUT: true; the input reads as it did. -/
def termTreesSpec : ChangeSpec := { name := "termTrees", fn := fun _ => fun
  | [d] => { results := [.lit (.bool true)], args := [d] }
  | _ => none }
def termTreesRow : OpenClaim := { program := "ytkofbgicfmojjaa", sum := "8bd66e9ac9aa3cc75316f3abe0d0ead657d179c7bc5fb0f362f4b3d083289a67", func := "tamis/tamislaw11.TermTrees", spec := "termTrees", plainKeys := false, apart := false }
def TermTreesSaid : Prop := termTreesRow.holds Try.pinned (OpenSpec.ofChange termTreesSpec)

/-- ITS FALSE NEIGHBOUR: 'it returns false'. Refute it at one input. -/
def termTreesWrong : ChangeSpec := { name := "termTrees", fn := fun _ => fun
  | [d] => { results := [.lit (.bool false)], args := [d] }
  | _ => none }
def TermTreesWrongFalsely : Prop := termTreesRow.holds Try.pinned (OpenSpec.ofChange termTreesWrong)

/- THE SECOND FORM. 'bulk': how many values and letters a reading holds, each counted each time it is reached (what is shared counts as often as it is met; a slice's spare places count too). A statement '..UptoSaid' is the law's where the arguments, and the package variables that the reading takes, are together of bulk at most 1048576: NARROWER than '..Said'. Prove '..Said' where nothing that the law and all that it calls make is longer than what came in: it says more and counts as full. Else prove '..UptoSaid'. A law counts once. -/
mutual
def uptoBulk {H : Type} : DataW H → Nat
  | .lit (.string bytes) => bytes.length + 1
  | .lit _ => 1
  | .nil => 1
  | .ptr d => uptoBulk d + 1
  | .slice elems spare => uptoBulkAll elems + uptoBulkAll spare + 1
  | .agg parts => uptoBulkAll parts + 1
  | .iface _ d => uptoBulk d + 1
  | .map entries => uptoBulkEntries entries + 1
  | .held _ => 1
def uptoBulkAll {H : Type} : List (DataW H) → Nat
  | [] => 0
  | d :: r => uptoBulk d + uptoBulkAll r
def uptoBulkEntries {H : Type} : List (Lit × DataW H) → Nat
  | [] => 0
  | x :: r => uptoBulkEntry x + uptoBulkEntries r
def uptoBulkEntry {H : Type} : Lit × DataW H → Nat
  | (.string bytes, d) => bytes.length + uptoBulk d + 1
  | (_, d) => uptoBulk d + 1
 end
def uptoSmall : (H : Type) → List (DataW H) → Bool := fun _ ds => decide (uptoBulkAll ds ≤ 1048576)
def OpenSpec.upto (s : _root_.Go.ChangeSpec) : _root_.Go.OpenSpec := { _root_.Go.OpenSpec.ofChange s with cond := some uptoSmall }

/-- 'tamislaw11.TermValues', WHERE WHAT IT READS IS OF BULK AT MOST 1048576: true; the input reads as it did. -/
def termValuesUptoRow : OpenClaim := { program := "ytkofbgicfmojjaa", sum := "8bd66e9ac9aa3cc75316f3abe0d0ead657d179c7bc5fb0f362f4b3d083289a67", func := "tamis/tamislaw11.TermValues", spec := "termValues", plainKeys := false, apart := false, narrowed := true }
def TermValuesUptoSaid : Prop := termValuesUptoRow.holds Try.pinned (OpenSpec.upto termValuesSpec)

/-- 'tamislaw11.TermUses', WHERE WHAT IT READS IS OF BULK AT MOST 1048576: true; the input reads as it did. -/
def termUsesUptoRow : OpenClaim := { program := "ytkofbgicfmojjaa", sum := "8bd66e9ac9aa3cc75316f3abe0d0ead657d179c7bc5fb0f362f4b3d083289a67", func := "tamis/tamislaw11.TermUses", spec := "termUses", plainKeys := false, apart := false, narrowed := true }
def TermUsesUptoSaid : Prop := termUsesUptoRow.holds Try.pinned (OpenSpec.upto termUsesSpec)

/-- 'tamislaw11.TermSize', WHERE WHAT IT READS IS OF BULK AT MOST 1048576: true; the input reads as it did. -/
def termSizeUptoRow : OpenClaim := { program := "ytkofbgicfmojjaa", sum := "8bd66e9ac9aa3cc75316f3abe0d0ead657d179c7bc5fb0f362f4b3d083289a67", func := "tamis/tamislaw11.TermSize", spec := "termSize", plainKeys := false, apart := false, narrowed := true }
def TermSizeUptoSaid : Prop := termSizeUptoRow.holds Try.pinned (OpenSpec.upto termSizeSpec)

/-- 'tamislaw11.TermOnly', WHERE WHAT IT READS IS OF BULK AT MOST 1048576: true; the input reads as it did. -/
def termOnlyUptoRow : OpenClaim := { program := "ytkofbgicfmojjaa", sum := "8bd66e9ac9aa3cc75316f3abe0d0ead657d179c7bc5fb0f362f4b3d083289a67", func := "tamis/tamislaw11.TermOnly", spec := "termOnly", plainKeys := false, apart := false, narrowed := true }
def TermOnlyUptoSaid : Prop := termOnlyUptoRow.holds Try.pinned (OpenSpec.upto termOnlySpec)

/-- 'tamislaw11.TermPool', WHERE WHAT IT READS IS OF BULK AT MOST 1048576: true; the input reads as it did. -/
def termPoolUptoRow : OpenClaim := { program := "ytkofbgicfmojjaa", sum := "8bd66e9ac9aa3cc75316f3abe0d0ead657d179c7bc5fb0f362f4b3d083289a67", func := "tamis/tamislaw11.TermPool", spec := "termPool", plainKeys := false, apart := false, narrowed := true }
def TermPoolUptoSaid : Prop := termPoolUptoRow.holds Try.pinned (OpenSpec.upto termPoolSpec)

/-- 'tamislaw11.TermTrees', WHERE WHAT IT READS IS OF BULK AT MOST 1048576: true; the input reads as it did. -/
def termTreesUptoRow : OpenClaim := { program := "ytkofbgicfmojjaa", sum := "8bd66e9ac9aa3cc75316f3abe0d0ead657d179c7bc5fb0f362f4b3d083289a67", func := "tamis/tamislaw11.TermTrees", spec := "termTrees", plainKeys := false, apart := false, narrowed := true }
def TermTreesUptoSaid : Prop := termTreesUptoRow.holds Try.pinned (OpenSpec.upto termTreesSpec)

end Rows
end Go.Proofs.Ytkofbgicfmojjaa
