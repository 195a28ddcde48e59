/-
  No cell of these rows narrows 'for every input' (looked for: loops, veiled, ifaces, maps, wideKeys, modest, calm, conditions, laid).
  DERIVED. THE GIVEN ROWS OF THIS SEAT. 8 by the template 'for every input the law returns true; each argument reads behind the call as it read before'; 0 by the template 'total and deterministic' (their statements: YtcjmglpnkjlkmaaTotals.lean).
  GIVEN WITH THE SEED: the statements are not yours to turn. If you find one false, say at which input.
  Laid BY PROGRAM, IN A SANDBOX (cutbox-rows.mjs): the forced cells as the released guide's own fill.sh prints them over the translation b99f5feb1aaeed49… (all of the seat's roots in one cut). By AI agents, Wed Nov 11 2026. No macro, syntax, notation, axiom, sorry.
-/
import Derived.Test.YtcjmglpnkjlkmaaChecked
import GoSem.Claim
import GoSem.ClaimJoined
import GoSem.ClaimMapViews
import Derived.JoinedTies
import Derived.KernelRfl
namespace Go.Proofs.Ytcjmglpnkjlkmaa
/- THE CELL 'sum', in the pinned program and in every row, IS THE sha256 OF THE DUMP (.gsa) THAT YtcjmglpnkjlkmaaProg.lean LOADS. Nothing in Lean hashes anything: it is a label: what it is worth is what the hold of that sum in a sandbox is worth. -/
noncomputable def Try.pinned : Pinned := { name := "ytcjmglpnkjlkmaa", sum := "b99f5feb1aaeed49e6f0dfe0fdb27a8d3c91f88ea1b17cfdec21ec2c7a2be5e9", checked := Try.checked }
namespace Rows
def none {H : Type} : Left H := { results := [], args := [] }

/-- 'moneyerlaw03.FieldMuls': WHATEVER THE INPUT: true; the input reads as it did. -/
def fieldMulsSpec : ChangeSpec := { name := "fieldMuls", fn := fun _ => fun
  | [d1, d2] => { results := [.lit (.bool true)], args := [d1, d2] }
  | _ => none }
def fieldMulsRow : OpenClaim := { program := "ytcjmglpnkjlkmaa", sum := "b99f5feb1aaeed49e6f0dfe0fdb27a8d3c91f88ea1b17cfdec21ec2c7a2be5e9", func := "moneyer/moneyerlaw03.FieldMuls", spec := "fieldMuls", apart := false }
def FieldMulsSaid : Prop := fieldMulsRow.holds Try.pinned (OpenSpec.ofChange fieldMulsSpec)

/-- ITS FALSE NEIGHBOUR: 'it returns false'. Refute it at one input. -/
def fieldMulsWrong : ChangeSpec := { name := "fieldMuls", fn := fun _ => fun
  | [d1, d2] => { results := [.lit (.bool false)], args := [d1, d2] }
  | _ => none }
def FieldMulsWrongFalsely : Prop := fieldMulsRow.holds Try.pinned (OpenSpec.ofChange fieldMulsWrong)

/-- 'moneyerlaw03.FieldPows': WHATEVER THE INPUT: true; the input reads as it did. -/
def fieldPowsSpec : ChangeSpec := { name := "fieldPows", fn := fun _ => fun
  | [d1, d2] => { results := [.lit (.bool true)], args := [d1, d2] }
  | _ => none }
def fieldPowsRow : OpenClaim := { program := "ytcjmglpnkjlkmaa", sum := "b99f5feb1aaeed49e6f0dfe0fdb27a8d3c91f88ea1b17cfdec21ec2c7a2be5e9", func := "moneyer/moneyerlaw03.FieldPows", spec := "fieldPows", apart := false }
def FieldPowsSaid : Prop := fieldPowsRow.holds Try.pinned (OpenSpec.ofChange fieldPowsSpec)

/-- ITS FALSE NEIGHBOUR: 'it returns false'. Refute it at one input. -/
def fieldPowsWrong : ChangeSpec := { name := "fieldPows", fn := fun _ => fun
  | [d1, d2] => { results := [.lit (.bool false)], args := [d1, d2] }
  | _ => none }
def FieldPowsWrongFalsely : Prop := fieldPowsRow.holds Try.pinned (OpenSpec.ofChange fieldPowsWrong)

/-- 'moneyerlaw03.FieldMaps': WHATEVER THE INPUT: true; the input reads as it did. -/
def fieldMapsSpec : ChangeSpec := { name := "fieldMaps", fn := fun _ => fun
  | [d] => { results := [.lit (.bool true)], args := [d] }
  | _ => none }
def fieldMapsRow : OpenClaim := { program := "ytcjmglpnkjlkmaa", sum := "b99f5feb1aaeed49e6f0dfe0fdb27a8d3c91f88ea1b17cfdec21ec2c7a2be5e9", func := "moneyer/moneyerlaw03.FieldMaps", spec := "fieldMaps", apart := false }
def FieldMapsSaid : Prop := fieldMapsRow.holds Try.pinned (OpenSpec.ofChange fieldMapsSpec)

/-- ITS FALSE NEIGHBOUR: 'it returns false'. Refute it at one input. -/
def fieldMapsWrong : ChangeSpec := { name := "fieldMaps", fn := fun _ => fun
  | [d] => { results := [.lit (.bool false)], args := [d] }
  | _ => none }
def FieldMapsWrongFalsely : Prop := fieldMapsRow.holds Try.pinned (OpenSpec.ofChange fieldMapsWrong)

/-- 'moneyerlaw03.FieldRules': WHATEVER THE INPUT: true; the input reads as it did. -/
def fieldRulesSpec : ChangeSpec := { name := "fieldRules", fn := fun _ => fun
  | [d1, d2, d3] => { results := [.lit (.bool true)], args := [d1, d2, d3] }
  | _ => none }
def fieldRulesRow : OpenClaim := { program := "ytcjmglpnkjlkmaa", sum := "b99f5feb1aaeed49e6f0dfe0fdb27a8d3c91f88ea1b17cfdec21ec2c7a2be5e9", func := "moneyer/moneyerlaw03.FieldRules", spec := "fieldRules", apart := false }
def FieldRulesSaid : Prop := fieldRulesRow.holds Try.pinned (OpenSpec.ofChange fieldRulesSpec)

/-- ITS FALSE NEIGHBOUR: 'it returns false'. Refute it at one input. -/
def fieldRulesWrong : ChangeSpec := { name := "fieldRules", fn := fun _ => fun
  | [d1, d2, d3] => { results := [.lit (.bool false)], args := [d1, d2, d3] }
  | _ => none }
def FieldRulesWrongFalsely : Prop := fieldRulesRow.holds Try.pinned (OpenSpec.ofChange fieldRulesWrong)

/-- 'moneyerlaw03.FieldBacks': WHATEVER THE INPUT: true; the input reads as it did. -/
def fieldBacksSpec : ChangeSpec := { name := "fieldBacks", fn := fun _ => fun
  | [d1, d2] => { results := [.lit (.bool true)], args := [d1, d2] }
  | _ => none }
def fieldBacksRow : OpenClaim := { program := "ytcjmglpnkjlkmaa", sum := "b99f5feb1aaeed49e6f0dfe0fdb27a8d3c91f88ea1b17cfdec21ec2c7a2be5e9", func := "moneyer/moneyerlaw03.FieldBacks", spec := "fieldBacks", apart := false }
def FieldBacksSaid : Prop := fieldBacksRow.holds Try.pinned (OpenSpec.ofChange fieldBacksSpec)

/-- ITS FALSE NEIGHBOUR: 'it returns false'. Refute it at one input. -/
def fieldBacksWrong : ChangeSpec := { name := "fieldBacks", fn := fun _ => fun
  | [d1, d2] => { results := [.lit (.bool false)], args := [d1, d2] }
  | _ => none }
def FieldBacksWrongFalsely : Prop := fieldBacksRow.holds Try.pinned (OpenSpec.ofChange fieldBacksWrong)

/-- 'moneyerlaw03.FieldSteps': WHATEVER THE INPUT: true; the input reads as it did. -/
def fieldStepsSpec : ChangeSpec := { name := "fieldSteps", fn := fun _ => fun
  | [d1, d2, d3] => { results := [.lit (.bool true)], args := [d1, d2, d3] }
  | _ => none }
def fieldStepsRow : OpenClaim := { program := "ytcjmglpnkjlkmaa", sum := "b99f5feb1aaeed49e6f0dfe0fdb27a8d3c91f88ea1b17cfdec21ec2c7a2be5e9", func := "moneyer/moneyerlaw03.FieldSteps", spec := "fieldSteps", apart := false }
def FieldStepsSaid : Prop := fieldStepsRow.holds Try.pinned (OpenSpec.ofChange fieldStepsSpec)

/-- ITS FALSE NEIGHBOUR: 'it returns false'. Refute it at one input. -/
def fieldStepsWrong : ChangeSpec := { name := "fieldSteps", fn := fun _ => fun
  | [d1, d2, d3] => { results := [.lit (.bool false)], args := [d1, d2, d3] }
  | _ => none }
def FieldStepsWrongFalsely : Prop := fieldStepsRow.holds Try.pinned (OpenSpec.ofChange fieldStepsWrong)

/-- 'moneyerlaw03.FieldPowers': WHATEVER THE INPUT: true; the input reads as it did. -/
def fieldPowersSpec : ChangeSpec := { name := "fieldPowers", fn := fun _ => fun
  | [d] => { results := [.lit (.bool true)], args := [d] }
  | _ => none }
def fieldPowersRow : OpenClaim := { program := "ytcjmglpnkjlkmaa", sum := "b99f5feb1aaeed49e6f0dfe0fdb27a8d3c91f88ea1b17cfdec21ec2c7a2be5e9", func := "moneyer/moneyerlaw03.FieldPowers", spec := "fieldPowers", apart := false }
def FieldPowersSaid : Prop := fieldPowersRow.holds Try.pinned (OpenSpec.ofChange fieldPowersSpec)

/-- ITS FALSE NEIGHBOUR: 'it returns false'. Refute it at one input. -/
def fieldPowersWrong : ChangeSpec := { name := "fieldPowers", fn := fun _ => fun
  | [d] => { results := [.lit (.bool false)], args := [d] }
  | _ => none }
def FieldPowersWrongFalsely : Prop := fieldPowersRow.holds Try.pinned (OpenSpec.ofChange fieldPowersWrong)

/-- 'moneyerlaw03.FieldSquares': WHATEVER THE INPUT: true; the input reads as it did. -/
def fieldSquaresSpec : ChangeSpec := { name := "fieldSquares", fn := fun _ => fun
  | [d1, d2] => { results := [.lit (.bool true)], args := [d1, d2] }
  | _ => none }
def fieldSquaresRow : OpenClaim := { program := "ytcjmglpnkjlkmaa", sum := "b99f5feb1aaeed49e6f0dfe0fdb27a8d3c91f88ea1b17cfdec21ec2c7a2be5e9", func := "moneyer/moneyerlaw03.FieldSquares", spec := "fieldSquares", apart := false }
def FieldSquaresSaid : Prop := fieldSquaresRow.holds Try.pinned (OpenSpec.ofChange fieldSquaresSpec)

/-- ITS FALSE NEIGHBOUR: 'it returns false'. Refute it at one input. -/
def fieldSquaresWrong : ChangeSpec := { name := "fieldSquares", fn := fun _ => fun
  | [d1, d2] => { results := [.lit (.bool false)], args := [d1, d2] }
  | _ => none }
def FieldSquaresWrongFalsely : Prop := fieldSquaresRow.holds Try.pinned (OpenSpec.ofChange fieldSquaresWrong)

/- THE SECOND FORM. 'bulk': how many values and letters a reading holds, each counted each time it is reached (what is shared counts as often as it is met; a slice's spare places count too). A statement '..UptoSaid' is the law's where the arguments, and the package variables that the reading takes, are together of bulk at most 1048576: NARROWER than '..Said'. Prove '..Said' where nothing that the law and all that it calls make is longer than what came in: it says more and counts as full. Else prove '..UptoSaid'. A law counts once. -/
mutual
def uptoBulk {H : Type} : DataW H → Nat
  | .lit (.string bytes) => bytes.length + 1
  | .lit _ => 1
  | .nil => 1
  | .ptr d => uptoBulk d + 1
  | .slice elems spare => uptoBulkAll elems + uptoBulkAll spare + 1
  | .agg parts => uptoBulkAll parts + 1
  | .iface _ d => uptoBulk d + 1
  | .map entries => uptoBulkEntries entries + 1
  | .held _ => 1
def uptoBulkAll {H : Type} : List (DataW H) → Nat
  | [] => 0
  | d :: r => uptoBulk d + uptoBulkAll r
def uptoBulkEntries {H : Type} : List (Lit × DataW H) → Nat
  | [] => 0
  | x :: r => uptoBulkEntry x + uptoBulkEntries r
def uptoBulkEntry {H : Type} : Lit × DataW H → Nat
  | (.string bytes, d) => bytes.length + uptoBulk d + 1
  | (_, d) => uptoBulk d + 1
 end
def uptoSmall : (H : Type) → List (DataW H) → Bool := fun _ ds => decide (uptoBulkAll ds ≤ 1048576)
def OpenSpec.upto (s : _root_.Go.ChangeSpec) : _root_.Go.OpenSpec := { _root_.Go.OpenSpec.ofChange s with cond := some uptoSmall }

/-- 'moneyerlaw03.FieldMuls', WHERE WHAT IT READS IS OF BULK AT MOST 1048576: true; the input reads as it did. -/
def fieldMulsUptoRow : OpenClaim := { program := "ytcjmglpnkjlkmaa", sum := "b99f5feb1aaeed49e6f0dfe0fdb27a8d3c91f88ea1b17cfdec21ec2c7a2be5e9", func := "moneyer/moneyerlaw03.FieldMuls", spec := "fieldMuls", apart := false, narrowed := true }
def FieldMulsUptoSaid : Prop := fieldMulsUptoRow.holds Try.pinned (OpenSpec.upto fieldMulsSpec)

/-- 'moneyerlaw03.FieldPows', WHERE WHAT IT READS IS OF BULK AT MOST 1048576: true; the input reads as it did. -/
def fieldPowsUptoRow : OpenClaim := { program := "ytcjmglpnkjlkmaa", sum := "b99f5feb1aaeed49e6f0dfe0fdb27a8d3c91f88ea1b17cfdec21ec2c7a2be5e9", func := "moneyer/moneyerlaw03.FieldPows", spec := "fieldPows", apart := false, narrowed := true }
def FieldPowsUptoSaid : Prop := fieldPowsUptoRow.holds Try.pinned (OpenSpec.upto fieldPowsSpec)

/-- 'moneyerlaw03.FieldMaps', WHERE WHAT IT READS IS OF BULK AT MOST 1048576: true; the input reads as it did. -/
def fieldMapsUptoRow : OpenClaim := { program := "ytcjmglpnkjlkmaa", sum := "b99f5feb1aaeed49e6f0dfe0fdb27a8d3c91f88ea1b17cfdec21ec2c7a2be5e9", func := "moneyer/moneyerlaw03.FieldMaps", spec := "fieldMaps", apart := false, narrowed := true }
def FieldMapsUptoSaid : Prop := fieldMapsUptoRow.holds Try.pinned (OpenSpec.upto fieldMapsSpec)

/-- 'moneyerlaw03.FieldRules', WHERE WHAT IT READS IS OF BULK AT MOST 1048576: true; the input reads as it did. -/
def fieldRulesUptoRow : OpenClaim := { program := "ytcjmglpnkjlkmaa", sum := "b99f5feb1aaeed49e6f0dfe0fdb27a8d3c91f88ea1b17cfdec21ec2c7a2be5e9", func := "moneyer/moneyerlaw03.FieldRules", spec := "fieldRules", apart := false, narrowed := true }
def FieldRulesUptoSaid : Prop := fieldRulesUptoRow.holds Try.pinned (OpenSpec.upto fieldRulesSpec)

/-- 'moneyerlaw03.FieldBacks', WHERE WHAT IT READS IS OF BULK AT MOST 1048576: true; the input reads as it did. -/
def fieldBacksUptoRow : OpenClaim := { program := "ytcjmglpnkjlkmaa", sum := "b99f5feb1aaeed49e6f0dfe0fdb27a8d3c91f88ea1b17cfdec21ec2c7a2be5e9", func := "moneyer/moneyerlaw03.FieldBacks", spec := "fieldBacks", apart := false, narrowed := true }
def FieldBacksUptoSaid : Prop := fieldBacksUptoRow.holds Try.pinned (OpenSpec.upto fieldBacksSpec)

/-- 'moneyerlaw03.FieldSteps', WHERE WHAT IT READS IS OF BULK AT MOST 1048576: true; the input reads as it did. -/
def fieldStepsUptoRow : OpenClaim := { program := "ytcjmglpnkjlkmaa", sum := "b99f5feb1aaeed49e6f0dfe0fdb27a8d3c91f88ea1b17cfdec21ec2c7a2be5e9", func := "moneyer/moneyerlaw03.FieldSteps", spec := "fieldSteps", apart := false, narrowed := true }
def FieldStepsUptoSaid : Prop := fieldStepsUptoRow.holds Try.pinned (OpenSpec.upto fieldStepsSpec)

/-- 'moneyerlaw03.FieldPowers', WHERE WHAT IT READS IS OF BULK AT MOST 1048576: true; the input reads as it did. -/
def fieldPowersUptoRow : OpenClaim := { program := "ytcjmglpnkjlkmaa", sum := "b99f5feb1aaeed49e6f0dfe0fdb27a8d3c91f88ea1b17cfdec21ec2c7a2be5e9", func := "moneyer/moneyerlaw03.FieldPowers", spec := "fieldPowers", apart := false, narrowed := true }
def FieldPowersUptoSaid : Prop := fieldPowersUptoRow.holds Try.pinned (OpenSpec.upto fieldPowersSpec)

/-- 'moneyerlaw03.FieldSquares', WHERE WHAT IT READS IS OF BULK AT MOST 1048576: true; the input reads as it did. -/
def fieldSquaresUptoRow : OpenClaim := { program := "ytcjmglpnkjlkmaa", sum := "b99f5feb1aaeed49e6f0dfe0fdb27a8d3c91f88ea1b17cfdec21ec2c7a2be5e9", func := "moneyer/moneyerlaw03.FieldSquares", spec := "fieldSquares", apart := false, narrowed := true }
def FieldSquaresUptoSaid : Prop := fieldSquaresUptoRow.holds Try.pinned (OpenSpec.upto fieldSquaresSpec)

end Rows
end Go.Proofs.Ytcjmglpnkjlkmaa
