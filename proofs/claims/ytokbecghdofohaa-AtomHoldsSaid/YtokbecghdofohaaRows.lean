/-
  No cell of these rows narrows 'for every input' (looked for: loops, veiled, ifaces, maps, wideKeys, modest, calm, conditions, laid).
  DERIVED. THE GIVEN ROWS OF THIS SEAT. 14 by the template 'for every input the law returns true; each argument reads behind the call as it read before'; 0 by the template 'total and deterministic' (their statements: YtokbecghdofohaaTotals.lean).
  GIVEN WITH THE SEED: the statements are not yours to turn. If you find one false, say at which input.
  Laid BY PROGRAM, IN A SANDBOX (cutbox-rows.mjs): the forced cells as the released guide's own fill.sh prints them over the translation 3c7e2a0033d4179b… (all of the seat's roots in one cut). By AI agents, Wed Nov 11 2026. No macro, syntax, notation, axiom, sorry.
-/
import Derived.Test.YtokbecghdofohaaChecked
import GoSem.Claim
import GoSem.ClaimJoined
import GoSem.ClaimMapViews
import Derived.JoinedTies
import Derived.KernelRfl
namespace Go.Proofs.Ytokbecghdofohaa
/- THE CELL 'sum', in the pinned program and in every row, IS THE sha256 OF THE DUMP (.gsa) THAT YtokbecghdofohaaProg.lean LOADS. Nothing in Lean hashes anything: it is a label: what it is worth is what the hold of that sum in a sandbox is worth. -/
noncomputable def Try.pinned : Pinned := { name := "ytokbecghdofohaa", sum := "3c7e2a0033d4179bd3d0bffd25fcb11abee58480fbcf0ff0149f8eca0c798810", checked := Try.checked }
namespace Rows
def none {H : Type} : Left H := { results := [], args := [] }

/-- 'tamislaw13.AtomHolds': WHATEVER THE INPUT: true; the input reads as it did. -/
def atomHoldsSpec : ChangeSpec := { name := "atomHolds", fn := fun _ => fun
  | [d1, d2, d3] => { results := [.lit (.bool true)], args := [d1, d2, d3] }
  | _ => none }
def atomHoldsRow : OpenClaim := { program := "ytokbecghdofohaa", sum := "3c7e2a0033d4179bd3d0bffd25fcb11abee58480fbcf0ff0149f8eca0c798810", func := "tamis/tamislaw13.AtomHolds", spec := "atomHolds", plainKeys := false, apart := false }
def AtomHoldsSaid : Prop := atomHoldsRow.holds Try.pinned (OpenSpec.ofChange atomHoldsSpec)

/-- ITS FALSE NEIGHBOUR: 'it returns false'. Refute it at one input. -/
def atomHoldsWrong : ChangeSpec := { name := "atomHolds", fn := fun _ => fun
  | [d1, d2, d3] => { results := [.lit (.bool false)], args := [d1, d2, d3] }
  | _ => none }
def AtomHoldsWrongFalsely : Prop := atomHoldsRow.holds Try.pinned (OpenSpec.ofChange atomHoldsWrong)

/-- 'tamislaw13.AtomMake': WHATEVER THE INPUT: true; the input reads as it did. -/
def atomMakeSpec : ChangeSpec := { name := "atomMake", fn := fun _ => fun
  | [d1, d2] => { results := [.lit (.bool true)], args := [d1, d2] }
  | _ => none }
def atomMakeRow : OpenClaim := { program := "ytokbecghdofohaa", sum := "3c7e2a0033d4179bd3d0bffd25fcb11abee58480fbcf0ff0149f8eca0c798810", func := "tamis/tamislaw13.AtomMake", spec := "atomMake", recurses := true, plainKeys := false, apart := false }
def AtomMakeSaid : Prop := atomMakeRow.holds Try.pinned (OpenSpec.ofChange atomMakeSpec)

/-- ITS FALSE NEIGHBOUR: 'it returns false'. Refute it at one input. -/
def atomMakeWrong : ChangeSpec := { name := "atomMake", fn := fun _ => fun
  | [d1, d2] => { results := [.lit (.bool false)], args := [d1, d2] }
  | _ => none }
def AtomMakeWrongFalsely : Prop := atomMakeRow.holds Try.pinned (OpenSpec.ofChange atomMakeWrong)

/-- 'tamislaw13.AtomValue': WHATEVER THE INPUT: true; the input reads as it did. -/
def atomValueSpec : ChangeSpec := { name := "atomValue", fn := fun _ => fun
  | [d1, d2, d3] => { results := [.lit (.bool true)], args := [d1, d2, d3] }
  | _ => none }
def atomValueRow : OpenClaim := { program := "ytokbecghdofohaa", sum := "3c7e2a0033d4179bd3d0bffd25fcb11abee58480fbcf0ff0149f8eca0c798810", func := "tamis/tamislaw13.AtomValue", spec := "atomValue", plainKeys := false, apart := false }
def AtomValueSaid : Prop := atomValueRow.holds Try.pinned (OpenSpec.ofChange atomValueSpec)

/-- ITS FALSE NEIGHBOUR: 'it returns false'. Refute it at one input. -/
def atomValueWrong : ChangeSpec := { name := "atomValue", fn := fun _ => fun
  | [d1, d2, d3] => { results := [.lit (.bool false)], args := [d1, d2, d3] }
  | _ => none }
def AtomValueWrongFalsely : Prop := atomValueRow.holds Try.pinned (OpenSpec.ofChange atomValueWrong)

/-- 'tamislaw13.AtomTurned': WHATEVER THE INPUT: true; the input reads as it did. -/
def atomTurnedSpec : ChangeSpec := { name := "atomTurned", fn := fun _ => fun
  | [d1, d2] => { results := [.lit (.bool true)], args := [d1, d2] }
  | _ => none }
def atomTurnedRow : OpenClaim := { program := "ytokbecghdofohaa", sum := "3c7e2a0033d4179bd3d0bffd25fcb11abee58480fbcf0ff0149f8eca0c798810", func := "tamis/tamislaw13.AtomTurned", spec := "atomTurned", plainKeys := false, apart := false }
def AtomTurnedSaid : Prop := atomTurnedRow.holds Try.pinned (OpenSpec.ofChange atomTurnedSpec)

/-- ITS FALSE NEIGHBOUR: 'it returns false'. Refute it at one input. -/
def atomTurnedWrong : ChangeSpec := { name := "atomTurned", fn := fun _ => fun
  | [d1, d2] => { results := [.lit (.bool false)], args := [d1, d2] }
  | _ => none }
def AtomTurnedWrongFalsely : Prop := atomTurnedRow.holds Try.pinned (OpenSpec.ofChange atomTurnedWrong)

/-- 'tamislaw13.AtomAgain': WHATEVER THE INPUT: true; the input reads as it did. -/
def atomAgainSpec : ChangeSpec := { name := "atomAgain", fn := fun _ => fun
  | [d1, d2] => { results := [.lit (.bool true)], args := [d1, d2] }
  | _ => none }
def atomAgainRow : OpenClaim := { program := "ytokbecghdofohaa", sum := "3c7e2a0033d4179bd3d0bffd25fcb11abee58480fbcf0ff0149f8eca0c798810", func := "tamis/tamislaw13.AtomAgain", spec := "atomAgain", plainKeys := false, apart := false }
def AtomAgainSaid : Prop := atomAgainRow.holds Try.pinned (OpenSpec.ofChange atomAgainSpec)

/-- ITS FALSE NEIGHBOUR: 'it returns false'. Refute it at one input. -/
def atomAgainWrong : ChangeSpec := { name := "atomAgain", fn := fun _ => fun
  | [d1, d2] => { results := [.lit (.bool false)], args := [d1, d2] }
  | _ => none }
def AtomAgainWrongFalsely : Prop := atomAgainRow.holds Try.pinned (OpenSpec.ofChange atomAgainWrong)

/-- 'tamislaw13.AtomSides': WHATEVER THE INPUT: true; the input reads as it did. -/
def atomSidesSpec : ChangeSpec := { name := "atomSides", fn := fun _ => fun
  | [d1, d2, d3] => { results := [.lit (.bool true)], args := [d1, d2, d3] }
  | _ => none }
def atomSidesRow : OpenClaim := { program := "ytokbecghdofohaa", sum := "3c7e2a0033d4179bd3d0bffd25fcb11abee58480fbcf0ff0149f8eca0c798810", func := "tamis/tamislaw13.AtomSides", spec := "atomSides", plainKeys := false, apart := false }
def AtomSidesSaid : Prop := atomSidesRow.holds Try.pinned (OpenSpec.ofChange atomSidesSpec)

/-- ITS FALSE NEIGHBOUR: 'it returns false'. Refute it at one input. -/
def atomSidesWrong : ChangeSpec := { name := "atomSides", fn := fun _ => fun
  | [d1, d2, d3] => { results := [.lit (.bool false)], args := [d1, d2, d3] }
  | _ => none }
def AtomSidesWrongFalsely : Prop := atomSidesRow.holds Try.pinned (OpenSpec.ofChange atomSidesWrong)

/-- 'tamislaw13.AtomBits': WHATEVER THE INPUT: true; the input reads as it did. -/
def atomBitsSpec : ChangeSpec := { name := "atomBits", fn := fun _ => fun
  | [d] => { results := [.lit (.bool true)], args := [d] }
  | _ => none }
def atomBitsRow : OpenClaim := { program := "ytokbecghdofohaa", sum := "3c7e2a0033d4179bd3d0bffd25fcb11abee58480fbcf0ff0149f8eca0c798810", func := "tamis/tamislaw13.AtomBits", spec := "atomBits", plainKeys := false, apart := false }
def AtomBitsSaid : Prop := atomBitsRow.holds Try.pinned (OpenSpec.ofChange atomBitsSpec)

/-- ITS FALSE NEIGHBOUR: 'it returns false'. Refute it at one input. -/
def atomBitsWrong : ChangeSpec := { name := "atomBits", fn := fun _ => fun
  | [d] => { results := [.lit (.bool false)], args := [d] }
  | _ => none }
def AtomBitsWrongFalsely : Prop := atomBitsRow.holds Try.pinned (OpenSpec.ofChange atomBitsWrong)

/-- 'tamislaw12.SimpMake': WHATEVER THE INPUT: true; the input reads as it did. -/
def simpMakeSpec : ChangeSpec := { name := "simpMake", fn := fun _ => fun
  | [d1, d2, d3] => { results := [.lit (.bool true)], args := [d1, d2, d3] }
  | _ => none }
def simpMakeRow : OpenClaim := { program := "ytokbecghdofohaa", sum := "3c7e2a0033d4179bd3d0bffd25fcb11abee58480fbcf0ff0149f8eca0c798810", func := "tamis/tamislaw12.SimpMake", spec := "simpMake", recurses := true, plainKeys := false, apart := false }
def SimpMakeSaid : Prop := simpMakeRow.holds Try.pinned (OpenSpec.ofChange simpMakeSpec)

/-- ITS FALSE NEIGHBOUR: 'it returns false'. Refute it at one input. -/
def simpMakeWrong : ChangeSpec := { name := "simpMake", fn := fun _ => fun
  | [d1, d2, d3] => { results := [.lit (.bool false)], args := [d1, d2, d3] }
  | _ => none }
def SimpMakeWrongFalsely : Prop := simpMakeRow.holds Try.pinned (OpenSpec.ofChange simpMakeWrong)

/-- 'tamislaw12.SimpValue': WHATEVER THE INPUT: true; the input reads as it did. -/
def simpValueSpec : ChangeSpec := { name := "simpValue", fn := fun _ => fun
  | [d1, d2, d3] => { results := [.lit (.bool true)], args := [d1, d2, d3] }
  | _ => none }
def simpValueRow : OpenClaim := { program := "ytokbecghdofohaa", sum := "3c7e2a0033d4179bd3d0bffd25fcb11abee58480fbcf0ff0149f8eca0c798810", func := "tamis/tamislaw12.SimpValue", spec := "simpValue", recurses := true, plainKeys := false, apart := false }
def SimpValueSaid : Prop := simpValueRow.holds Try.pinned (OpenSpec.ofChange simpValueSpec)

/-- ITS FALSE NEIGHBOUR: 'it returns false'. Refute it at one input. -/
def simpValueWrong : ChangeSpec := { name := "simpValue", fn := fun _ => fun
  | [d1, d2, d3] => { results := [.lit (.bool false)], args := [d1, d2, d3] }
  | _ => none }
def SimpValueWrongFalsely : Prop := simpValueRow.holds Try.pinned (OpenSpec.ofChange simpValueWrong)

/-- 'tamislaw12.SimpAll': WHATEVER THE INPUT: true; the input reads as it did. -/
def simpAllSpec : ChangeSpec := { name := "simpAll", fn := fun _ => fun
  | [d1, d2] => { results := [.lit (.bool true)], args := [d1, d2] }
  | _ => none }
def simpAllRow : OpenClaim := { program := "ytokbecghdofohaa", sum := "3c7e2a0033d4179bd3d0bffd25fcb11abee58480fbcf0ff0149f8eca0c798810", func := "tamis/tamislaw12.SimpAll", spec := "simpAll", recurses := true, plainKeys := false, apart := false }
def SimpAllSaid : Prop := simpAllRow.holds Try.pinned (OpenSpec.ofChange simpAllSpec)

/-- ITS FALSE NEIGHBOUR: 'it returns false'. Refute it at one input. -/
def simpAllWrong : ChangeSpec := { name := "simpAll", fn := fun _ => fun
  | [d1, d2] => { results := [.lit (.bool false)], args := [d1, d2] }
  | _ => none }
def SimpAllWrongFalsely : Prop := simpAllRow.holds Try.pinned (OpenSpec.ofChange simpAllWrong)

/-- 'tamislaw12.SimpTwice': WHATEVER THE INPUT: true; the input reads as it did. -/
def simpTwiceSpec : ChangeSpec := { name := "simpTwice", fn := fun _ => fun
  | [d] => { results := [.lit (.bool true)], args := [d] }
  | _ => none }
def simpTwiceRow : OpenClaim := { program := "ytokbecghdofohaa", sum := "3c7e2a0033d4179bd3d0bffd25fcb11abee58480fbcf0ff0149f8eca0c798810", func := "tamis/tamislaw12.SimpTwice", spec := "simpTwice", recurses := true, plainKeys := false, apart := false }
def SimpTwiceSaid : Prop := simpTwiceRow.holds Try.pinned (OpenSpec.ofChange simpTwiceSpec)

/-- ITS FALSE NEIGHBOUR: 'it returns false'. Refute it at one input. -/
def simpTwiceWrong : ChangeSpec := { name := "simpTwice", fn := fun _ => fun
  | [d] => { results := [.lit (.bool false)], args := [d] }
  | _ => none }
def SimpTwiceWrongFalsely : Prop := simpTwiceRow.holds Try.pinned (OpenSpec.ofChange simpTwiceWrong)

/-- 'tamislaw12.SimpNumbers': WHATEVER THE INPUT: true; the input reads as it did. -/
def simpNumbersSpec : ChangeSpec := { name := "simpNumbers", fn := fun _ => fun
  | [d] => { results := [.lit (.bool true)], args := [d] }
  | _ => none }
def simpNumbersRow : OpenClaim := { program := "ytokbecghdofohaa", sum := "3c7e2a0033d4179bd3d0bffd25fcb11abee58480fbcf0ff0149f8eca0c798810", func := "tamis/tamislaw12.SimpNumbers", spec := "simpNumbers", recurses := true, plainKeys := false, apart := false }
def SimpNumbersSaid : Prop := simpNumbersRow.holds Try.pinned (OpenSpec.ofChange simpNumbersSpec)

/-- ITS FALSE NEIGHBOUR: 'it returns false'. Refute it at one input. -/
def simpNumbersWrong : ChangeSpec := { name := "simpNumbers", fn := fun _ => fun
  | [d] => { results := [.lit (.bool false)], args := [d] }
  | _ => none }
def SimpNumbersWrongFalsely : Prop := simpNumbersRow.holds Try.pinned (OpenSpec.ofChange simpNumbersWrong)

/-- 'tamislaw12.SimpSize': WHATEVER THE INPUT: true; the input reads as it did. -/
def simpSizeSpec : ChangeSpec := { name := "simpSize", fn := fun _ => fun
  | [d] => { results := [.lit (.bool true)], args := [d] }
  | _ => none }
def simpSizeRow : OpenClaim := { program := "ytokbecghdofohaa", sum := "3c7e2a0033d4179bd3d0bffd25fcb11abee58480fbcf0ff0149f8eca0c798810", func := "tamis/tamislaw12.SimpSize", spec := "simpSize", recurses := true, plainKeys := false, apart := false }
def SimpSizeSaid : Prop := simpSizeRow.holds Try.pinned (OpenSpec.ofChange simpSizeSpec)

/-- ITS FALSE NEIGHBOUR: 'it returns false'. Refute it at one input. -/
def simpSizeWrong : ChangeSpec := { name := "simpSize", fn := fun _ => fun
  | [d] => { results := [.lit (.bool false)], args := [d] }
  | _ => none }
def SimpSizeWrongFalsely : Prop := simpSizeRow.holds Try.pinned (OpenSpec.ofChange simpSizeWrong)

/-- 'tamislaw12.SimpTurns': WHATEVER THE INPUT: true; the input reads as it did. -/
def simpTurnsSpec : ChangeSpec := { name := "simpTurns", fn := fun _ => fun
  | [d1, d2, d3] => { results := [.lit (.bool true)], args := [d1, d2, d3] }
  | _ => none }
def simpTurnsRow : OpenClaim := { program := "ytokbecghdofohaa", sum := "3c7e2a0033d4179bd3d0bffd25fcb11abee58480fbcf0ff0149f8eca0c798810", func := "tamis/tamislaw12.SimpTurns", spec := "simpTurns", recurses := true, plainKeys := false, apart := false }
def SimpTurnsSaid : Prop := simpTurnsRow.holds Try.pinned (OpenSpec.ofChange simpTurnsSpec)

/-- ITS FALSE NEIGHBOUR: 'it returns false'. Refute it at one input. -/
def simpTurnsWrong : ChangeSpec := { name := "simpTurns", fn := fun _ => fun
  | [d1, d2, d3] => { results := [.lit (.bool false)], args := [d1, d2, d3] }
  | _ => none }
def SimpTurnsWrongFalsely : Prop := simpTurnsRow.holds Try.pinned (OpenSpec.ofChange simpTurnsWrong)

/- THE SECOND FORM. 'bulk': how many values and letters a reading holds, each counted each time it is reached (what is shared counts as often as it is met; a slice's spare places count too). A statement '..UptoSaid' is the law's where the arguments, and the package variables that the reading takes, are together of bulk at most 1048576: NARROWER than '..Said'. Prove '..Said' where nothing that the law and all that it calls make is longer than what came in: it says more and counts as full. Else prove '..UptoSaid'. A law counts once. -/
mutual
def uptoBulk {H : Type} : DataW H → Nat
  | .lit (.string bytes) => bytes.length + 1
  | .lit _ => 1
  | .nil => 1
  | .ptr d => uptoBulk d + 1
  | .slice elems spare => uptoBulkAll elems + uptoBulkAll spare + 1
  | .agg parts => uptoBulkAll parts + 1
  | .iface _ d => uptoBulk d + 1
  | .map entries => uptoBulkEntries entries + 1
  | .held _ => 1
def uptoBulkAll {H : Type} : List (DataW H) → Nat
  | [] => 0
  | d :: r => uptoBulk d + uptoBulkAll r
def uptoBulkEntries {H : Type} : List (Lit × DataW H) → Nat
  | [] => 0
  | x :: r => uptoBulkEntry x + uptoBulkEntries r
def uptoBulkEntry {H : Type} : Lit × DataW H → Nat
  | (.string bytes, d) => bytes.length + uptoBulk d + 1
  | (_, d) => uptoBulk d + 1
 end
def uptoSmall : (H : Type) → List (DataW H) → Bool := fun _ ds => decide (uptoBulkAll ds ≤ 1048576)
def OpenSpec.upto (s : _root_.Go.ChangeSpec) : _root_.Go.OpenSpec := { _root_.Go.OpenSpec.ofChange s with cond := some uptoSmall }

/-- 'tamislaw13.AtomHolds', WHERE WHAT IT READS IS OF BULK AT MOST 1048576: true; the input reads as it did. -/
def atomHoldsUptoRow : OpenClaim := { program := "ytokbecghdofohaa", sum := "3c7e2a0033d4179bd3d0bffd25fcb11abee58480fbcf0ff0149f8eca0c798810", func := "tamis/tamislaw13.AtomHolds", spec := "atomHolds", plainKeys := false, apart := false, narrowed := true }
def AtomHoldsUptoSaid : Prop := atomHoldsUptoRow.holds Try.pinned (OpenSpec.upto atomHoldsSpec)

/-- 'tamislaw13.AtomMake', WHERE WHAT IT READS IS OF BULK AT MOST 1048576: true; the input reads as it did. -/
def atomMakeUptoRow : OpenClaim := { program := "ytokbecghdofohaa", sum := "3c7e2a0033d4179bd3d0bffd25fcb11abee58480fbcf0ff0149f8eca0c798810", func := "tamis/tamislaw13.AtomMake", spec := "atomMake", recurses := true, plainKeys := false, apart := false, narrowed := true }
def AtomMakeUptoSaid : Prop := atomMakeUptoRow.holds Try.pinned (OpenSpec.upto atomMakeSpec)

/-- 'tamislaw13.AtomValue', WHERE WHAT IT READS IS OF BULK AT MOST 1048576: true; the input reads as it did. -/
def atomValueUptoRow : OpenClaim := { program := "ytokbecghdofohaa", sum := "3c7e2a0033d4179bd3d0bffd25fcb11abee58480fbcf0ff0149f8eca0c798810", func := "tamis/tamislaw13.AtomValue", spec := "atomValue", plainKeys := false, apart := false, narrowed := true }
def AtomValueUptoSaid : Prop := atomValueUptoRow.holds Try.pinned (OpenSpec.upto atomValueSpec)

/-- 'tamislaw13.AtomTurned', WHERE WHAT IT READS IS OF BULK AT MOST 1048576: true; the input reads as it did. -/
def atomTurnedUptoRow : OpenClaim := { program := "ytokbecghdofohaa", sum := "3c7e2a0033d4179bd3d0bffd25fcb11abee58480fbcf0ff0149f8eca0c798810", func := "tamis/tamislaw13.AtomTurned", spec := "atomTurned", plainKeys := false, apart := false, narrowed := true }
def AtomTurnedUptoSaid : Prop := atomTurnedUptoRow.holds Try.pinned (OpenSpec.upto atomTurnedSpec)

/-- 'tamislaw13.AtomAgain', WHERE WHAT IT READS IS OF BULK AT MOST 1048576: true; the input reads as it did. -/
def atomAgainUptoRow : OpenClaim := { program := "ytokbecghdofohaa", sum := "3c7e2a0033d4179bd3d0bffd25fcb11abee58480fbcf0ff0149f8eca0c798810", func := "tamis/tamislaw13.AtomAgain", spec := "atomAgain", plainKeys := false, apart := false, narrowed := true }
def AtomAgainUptoSaid : Prop := atomAgainUptoRow.holds Try.pinned (OpenSpec.upto atomAgainSpec)

/-- 'tamislaw13.AtomSides', WHERE WHAT IT READS IS OF BULK AT MOST 1048576: true; the input reads as it did. -/
def atomSidesUptoRow : OpenClaim := { program := "ytokbecghdofohaa", sum := "3c7e2a0033d4179bd3d0bffd25fcb11abee58480fbcf0ff0149f8eca0c798810", func := "tamis/tamislaw13.AtomSides", spec := "atomSides", plainKeys := false, apart := false, narrowed := true }
def AtomSidesUptoSaid : Prop := atomSidesUptoRow.holds Try.pinned (OpenSpec.upto atomSidesSpec)

/-- 'tamislaw13.AtomBits', WHERE WHAT IT READS IS OF BULK AT MOST 1048576: true; the input reads as it did. -/
def atomBitsUptoRow : OpenClaim := { program := "ytokbecghdofohaa", sum := "3c7e2a0033d4179bd3d0bffd25fcb11abee58480fbcf0ff0149f8eca0c798810", func := "tamis/tamislaw13.AtomBits", spec := "atomBits", plainKeys := false, apart := false, narrowed := true }
def AtomBitsUptoSaid : Prop := atomBitsUptoRow.holds Try.pinned (OpenSpec.upto atomBitsSpec)

/-- 'tamislaw12.SimpMake', WHERE WHAT IT READS IS OF BULK AT MOST 1048576: true; the input reads as it did. -/
def simpMakeUptoRow : OpenClaim := { program := "ytokbecghdofohaa", sum := "3c7e2a0033d4179bd3d0bffd25fcb11abee58480fbcf0ff0149f8eca0c798810", func := "tamis/tamislaw12.SimpMake", spec := "simpMake", recurses := true, plainKeys := false, apart := false, narrowed := true }
def SimpMakeUptoSaid : Prop := simpMakeUptoRow.holds Try.pinned (OpenSpec.upto simpMakeSpec)

/-- 'tamislaw12.SimpValue', WHERE WHAT IT READS IS OF BULK AT MOST 1048576: true; the input reads as it did. -/
def simpValueUptoRow : OpenClaim := { program := "ytokbecghdofohaa", sum := "3c7e2a0033d4179bd3d0bffd25fcb11abee58480fbcf0ff0149f8eca0c798810", func := "tamis/tamislaw12.SimpValue", spec := "simpValue", recurses := true, plainKeys := false, apart := false, narrowed := true }
def SimpValueUptoSaid : Prop := simpValueUptoRow.holds Try.pinned (OpenSpec.upto simpValueSpec)

/-- 'tamislaw12.SimpAll', WHERE WHAT IT READS IS OF BULK AT MOST 1048576: true; the input reads as it did. -/
def simpAllUptoRow : OpenClaim := { program := "ytokbecghdofohaa", sum := "3c7e2a0033d4179bd3d0bffd25fcb11abee58480fbcf0ff0149f8eca0c798810", func := "tamis/tamislaw12.SimpAll", spec := "simpAll", recurses := true, plainKeys := false, apart := false, narrowed := true }
def SimpAllUptoSaid : Prop := simpAllUptoRow.holds Try.pinned (OpenSpec.upto simpAllSpec)

/-- 'tamislaw12.SimpTwice', WHERE WHAT IT READS IS OF BULK AT MOST 1048576: true; the input reads as it did. -/
def simpTwiceUptoRow : OpenClaim := { program := "ytokbecghdofohaa", sum := "3c7e2a0033d4179bd3d0bffd25fcb11abee58480fbcf0ff0149f8eca0c798810", func := "tamis/tamislaw12.SimpTwice", spec := "simpTwice", recurses := true, plainKeys := false, apart := false, narrowed := true }
def SimpTwiceUptoSaid : Prop := simpTwiceUptoRow.holds Try.pinned (OpenSpec.upto simpTwiceSpec)

/-- 'tamislaw12.SimpNumbers', WHERE WHAT IT READS IS OF BULK AT MOST 1048576: true; the input reads as it did. -/
def simpNumbersUptoRow : OpenClaim := { program := "ytokbecghdofohaa", sum := "3c7e2a0033d4179bd3d0bffd25fcb11abee58480fbcf0ff0149f8eca0c798810", func := "tamis/tamislaw12.SimpNumbers", spec := "simpNumbers", recurses := true, plainKeys := false, apart := false, narrowed := true }
def SimpNumbersUptoSaid : Prop := simpNumbersUptoRow.holds Try.pinned (OpenSpec.upto simpNumbersSpec)

/-- 'tamislaw12.SimpSize', WHERE WHAT IT READS IS OF BULK AT MOST 1048576: true; the input reads as it did. -/
def simpSizeUptoRow : OpenClaim := { program := "ytokbecghdofohaa", sum := "3c7e2a0033d4179bd3d0bffd25fcb11abee58480fbcf0ff0149f8eca0c798810", func := "tamis/tamislaw12.SimpSize", spec := "simpSize", recurses := true, plainKeys := false, apart := false, narrowed := true }
def SimpSizeUptoSaid : Prop := simpSizeUptoRow.holds Try.pinned (OpenSpec.upto simpSizeSpec)

/-- 'tamislaw12.SimpTurns', WHERE WHAT IT READS IS OF BULK AT MOST 1048576: true; the input reads as it did. -/
def simpTurnsUptoRow : OpenClaim := { program := "ytokbecghdofohaa", sum := "3c7e2a0033d4179bd3d0bffd25fcb11abee58480fbcf0ff0149f8eca0c798810", func := "tamis/tamislaw12.SimpTurns", spec := "simpTurns", recurses := true, plainKeys := false, apart := false, narrowed := true }
def SimpTurnsUptoSaid : Prop := simpTurnsUptoRow.holds Try.pinned (OpenSpec.upto simpTurnsSpec)

end Rows
end Go.Proofs.Ytokbecghdofohaa
