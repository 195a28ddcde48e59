/-
  No cell of these rows narrows 'for every input' (looked for: loops, veiled, ifaces, maps, wideKeys, modest, calm, conditions, laid).
  DERIVED. THE GIVEN ROWS OF THIS SEAT. 6 by the template 'for every input the law returns true; each argument reads behind the call as it read before'; 0 by the template 'total and deterministic' (their statements: YtndpaehcjaejpaaTotals.lean).
  GIVEN WITH THE SEED: the statements are not yours to turn. If you find one false, say at which input.
  Laid BY PROGRAM, IN A SANDBOX (cutbox-rows.mjs): the forced cells as the released guide's own fill.sh prints them over the translation b4248332b77e3571… (all of the seat's roots in one cut). By AI agents, Wed Nov 11 2026. No macro, syntax, notation, axiom, sorry.
-/
import Derived.Test.YtndpaehcjaejpaaChecked
import GoSem.Claim
import GoSem.ClaimJoined
import GoSem.ClaimMapViews
import Derived.JoinedTies
import Derived.KernelRfl
namespace Go.Proofs.Ytndpaehcjaejpaa
/- THE CELL 'sum', in the pinned program and in every row, IS THE sha256 OF THE DUMP (.gsa) THAT YtndpaehcjaejpaaProg.lean LOADS. Nothing in Lean hashes anything: it is a label: what it is worth is what the hold of that sum in a sandbox is worth. -/
noncomputable def Try.pinned : Pinned := { name := "ytndpaehcjaejpaa", sum := "b4248332b77e357131a273812d6b6b5004943809f813d5c7c7f43d28993b8ef1", checked := Try.checked }
namespace Rows
def none {H : Type} : Left H := { results := [], args := [] }

/-- 'moneyerlaw02.CheckSums': WHATEVER THE INPUT: true; the input reads as it did. -/
def checkSumsSpec : ChangeSpec := { name := "checkSums", fn := fun _ => fun
  | [d1, d2] => { results := [.lit (.bool true)], args := [d1, d2] }
  | _ => none }
def checkSumsRow : OpenClaim := { program := "ytndpaehcjaejpaa", sum := "b4248332b77e357131a273812d6b6b5004943809f813d5c7c7f43d28993b8ef1", func := "moneyer/moneyerlaw02.CheckSums", spec := "checkSums", apart := false }
def CheckSumsSaid : Prop := checkSumsRow.holds Try.pinned (OpenSpec.ofChange checkSumsSpec)

/-- ITS FALSE NEIGHBOUR: 'it returns false'. Refute it at one input. -/
def checkSumsWrong : ChangeSpec := { name := "checkSums", fn := fun _ => fun
  | [d1, d2] => { results := [.lit (.bool false)], args := [d1, d2] }
  | _ => none }
def CheckSumsWrongFalsely : Prop := checkSumsRow.holds Try.pinned (OpenSpec.ofChange checkSumsWrong)

/-- 'moneyerlaw02.CheckSectors': WHATEVER THE INPUT: true; the input reads as it did. -/
def checkSectorsSpec : ChangeSpec := { name := "checkSectors", fn := fun _ => fun
  | [d1, d2, d3] => { results := [.lit (.bool true)], args := [d1, d2, d3] }
  | _ => none }
def checkSectorsRow : OpenClaim := { program := "ytndpaehcjaejpaa", sum := "b4248332b77e357131a273812d6b6b5004943809f813d5c7c7f43d28993b8ef1", func := "moneyer/moneyerlaw02.CheckSectors", spec := "checkSectors", apart := false }
def CheckSectorsSaid : Prop := checkSectorsRow.holds Try.pinned (OpenSpec.ofChange checkSectorsSpec)

/-- ITS FALSE NEIGHBOUR: 'it returns false'. Refute it at one input. -/
def checkSectorsWrong : ChangeSpec := { name := "checkSectors", fn := fun _ => fun
  | [d1, d2, d3] => { results := [.lit (.bool false)], args := [d1, d2, d3] }
  | _ => none }
def CheckSectorsWrongFalsely : Prop := checkSectorsRow.holds Try.pinned (OpenSpec.ofChange checkSectorsWrong)

/-- 'moneyerlaw02.CheckBack': WHATEVER THE INPUT: true; the input reads as it did. -/
def checkBackSpec : ChangeSpec := { name := "checkBack", fn := fun _ => fun
  | [d1, d2] => { results := [.lit (.bool true)], args := [d1, d2] }
  | _ => none }
def checkBackRow : OpenClaim := { program := "ytndpaehcjaejpaa", sum := "b4248332b77e357131a273812d6b6b5004943809f813d5c7c7f43d28993b8ef1", func := "moneyer/moneyerlaw02.CheckBack", spec := "checkBack", apart := false }
def CheckBackSaid : Prop := checkBackRow.holds Try.pinned (OpenSpec.ofChange checkBackSpec)

/-- ITS FALSE NEIGHBOUR: 'it returns false'. Refute it at one input. -/
def checkBackWrong : ChangeSpec := { name := "checkBack", fn := fun _ => fun
  | [d1, d2] => { results := [.lit (.bool false)], args := [d1, d2] }
  | _ => none }
def CheckBackWrongFalsely : Prop := checkBackRow.holds Try.pinned (OpenSpec.ofChange checkBackWrong)

/-- 'moneyerlaw02.CheckTurned': WHATEVER THE INPUT: true; the input reads as it did. -/
def checkTurnedSpec : ChangeSpec := { name := "checkTurned", fn := fun _ => fun
  | [d1, d2, d3, d4, d5, d6, d7] => { results := [.lit (.bool true)], args := [d1, d2, d3, d4, d5, d6, d7] }
  | _ => none }
def checkTurnedRow : OpenClaim := { program := "ytndpaehcjaejpaa", sum := "b4248332b77e357131a273812d6b6b5004943809f813d5c7c7f43d28993b8ef1", func := "moneyer/moneyerlaw02.CheckTurned", spec := "checkTurned", apart := false }
def CheckTurnedSaid : Prop := checkTurnedRow.holds Try.pinned (OpenSpec.ofChange checkTurnedSpec)

/-- ITS FALSE NEIGHBOUR: 'it returns false'. Refute it at one input. -/
def checkTurnedWrong : ChangeSpec := { name := "checkTurned", fn := fun _ => fun
  | [d1, d2, d3, d4, d5, d6, d7] => { results := [.lit (.bool false)], args := [d1, d2, d3, d4, d5, d6, d7] }
  | _ => none }
def CheckTurnedWrongFalsely : Prop := checkTurnedRow.holds Try.pinned (OpenSpec.ofChange checkTurnedWrong)

/-- 'moneyerlaw02.CheckAffine': WHATEVER THE INPUT: true; the input reads as it did. -/
def checkAffineSpec : ChangeSpec := { name := "checkAffine", fn := fun _ => fun
  | [d1, d2, d3] => { results := [.lit (.bool true)], args := [d1, d2, d3] }
  | _ => none }
def checkAffineRow : OpenClaim := { program := "ytndpaehcjaejpaa", sum := "b4248332b77e357131a273812d6b6b5004943809f813d5c7c7f43d28993b8ef1", func := "moneyer/moneyerlaw02.CheckAffine", spec := "checkAffine", apart := false }
def CheckAffineSaid : Prop := checkAffineRow.holds Try.pinned (OpenSpec.ofChange checkAffineSpec)

/-- ITS FALSE NEIGHBOUR: 'it returns false'. Refute it at one input. -/
def checkAffineWrong : ChangeSpec := { name := "checkAffine", fn := fun _ => fun
  | [d1, d2, d3] => { results := [.lit (.bool false)], args := [d1, d2, d3] }
  | _ => none }
def CheckAffineWrongFalsely : Prop := checkAffineRow.holds Try.pinned (OpenSpec.ofChange checkAffineWrong)

/-- 'moneyerlaw02.CheckCuts': WHATEVER THE INPUT: true; the input reads as it did. -/
def checkCutsSpec : ChangeSpec := { name := "checkCuts", fn := fun _ => fun
  | [d1, d2] => { results := [.lit (.bool true)], args := [d1, d2] }
  | _ => none }
def checkCutsRow : OpenClaim := { program := "ytndpaehcjaejpaa", sum := "b4248332b77e357131a273812d6b6b5004943809f813d5c7c7f43d28993b8ef1", func := "moneyer/moneyerlaw02.CheckCuts", spec := "checkCuts", apart := false }
def CheckCutsSaid : Prop := checkCutsRow.holds Try.pinned (OpenSpec.ofChange checkCutsSpec)

/-- ITS FALSE NEIGHBOUR: 'it returns false'. Refute it at one input. -/
def checkCutsWrong : ChangeSpec := { name := "checkCuts", fn := fun _ => fun
  | [d1, d2] => { results := [.lit (.bool false)], args := [d1, d2] }
  | _ => none }
def CheckCutsWrongFalsely : Prop := checkCutsRow.holds Try.pinned (OpenSpec.ofChange checkCutsWrong)

/- THE SECOND FORM. 'bulk': how many values and letters a reading holds, each counted each time it is reached (what is shared counts as often as it is met; a slice's spare places count too). A statement '..UptoSaid' is the law's where the arguments, and the package variables that the reading takes, are together of bulk at most 1048576: NARROWER than '..Said'. Prove '..Said' where nothing that the law and all that it calls make is longer than what came in: it says more and counts as full. Else prove '..UptoSaid'. A law counts once. -/
mutual
def uptoBulk {H : Type} : DataW H → Nat
  | .lit (.string bytes) => bytes.length + 1
  | .lit _ => 1
  | .nil => 1
  | .ptr d => uptoBulk d + 1
  | .slice elems spare => uptoBulkAll elems + uptoBulkAll spare + 1
  | .agg parts => uptoBulkAll parts + 1
  | .iface _ d => uptoBulk d + 1
  | .map entries => uptoBulkEntries entries + 1
  | .held _ => 1
def uptoBulkAll {H : Type} : List (DataW H) → Nat
  | [] => 0
  | d :: r => uptoBulk d + uptoBulkAll r
def uptoBulkEntries {H : Type} : List (Lit × DataW H) → Nat
  | [] => 0
  | x :: r => uptoBulkEntry x + uptoBulkEntries r
def uptoBulkEntry {H : Type} : Lit × DataW H → Nat
  | (.string bytes, d) => bytes.length + uptoBulk d + 1
  | (_, d) => uptoBulk d + 1
 end
def uptoSmall : (H : Type) → List (DataW H) → Bool := fun _ ds => decide (uptoBulkAll ds ≤ 1048576)
def OpenSpec.upto (s : _root_.Go.ChangeSpec) : _root_.Go.OpenSpec := { _root_.Go.OpenSpec.ofChange s with cond := some uptoSmall }

/-- 'moneyerlaw02.CheckSums', WHERE WHAT IT READS IS OF BULK AT MOST 1048576: true; the input reads as it did. -/
def checkSumsUptoRow : OpenClaim := { program := "ytndpaehcjaejpaa", sum := "b4248332b77e357131a273812d6b6b5004943809f813d5c7c7f43d28993b8ef1", func := "moneyer/moneyerlaw02.CheckSums", spec := "checkSums", apart := false, narrowed := true }
def CheckSumsUptoSaid : Prop := checkSumsUptoRow.holds Try.pinned (OpenSpec.upto checkSumsSpec)

/-- 'moneyerlaw02.CheckSectors', WHERE WHAT IT READS IS OF BULK AT MOST 1048576: true; the input reads as it did. -/
def checkSectorsUptoRow : OpenClaim := { program := "ytndpaehcjaejpaa", sum := "b4248332b77e357131a273812d6b6b5004943809f813d5c7c7f43d28993b8ef1", func := "moneyer/moneyerlaw02.CheckSectors", spec := "checkSectors", apart := false, narrowed := true }
def CheckSectorsUptoSaid : Prop := checkSectorsUptoRow.holds Try.pinned (OpenSpec.upto checkSectorsSpec)

/-- 'moneyerlaw02.CheckBack', WHERE WHAT IT READS IS OF BULK AT MOST 1048576: true; the input reads as it did. -/
def checkBackUptoRow : OpenClaim := { program := "ytndpaehcjaejpaa", sum := "b4248332b77e357131a273812d6b6b5004943809f813d5c7c7f43d28993b8ef1", func := "moneyer/moneyerlaw02.CheckBack", spec := "checkBack", apart := false, narrowed := true }
def CheckBackUptoSaid : Prop := checkBackUptoRow.holds Try.pinned (OpenSpec.upto checkBackSpec)

/-- 'moneyerlaw02.CheckTurned', WHERE WHAT IT READS IS OF BULK AT MOST 1048576: true; the input reads as it did. -/
def checkTurnedUptoRow : OpenClaim := { program := "ytndpaehcjaejpaa", sum := "b4248332b77e357131a273812d6b6b5004943809f813d5c7c7f43d28993b8ef1", func := "moneyer/moneyerlaw02.CheckTurned", spec := "checkTurned", apart := false, narrowed := true }
def CheckTurnedUptoSaid : Prop := checkTurnedUptoRow.holds Try.pinned (OpenSpec.upto checkTurnedSpec)

/-- 'moneyerlaw02.CheckAffine', WHERE WHAT IT READS IS OF BULK AT MOST 1048576: true; the input reads as it did. -/
def checkAffineUptoRow : OpenClaim := { program := "ytndpaehcjaejpaa", sum := "b4248332b77e357131a273812d6b6b5004943809f813d5c7c7f43d28993b8ef1", func := "moneyer/moneyerlaw02.CheckAffine", spec := "checkAffine", apart := false, narrowed := true }
def CheckAffineUptoSaid : Prop := checkAffineUptoRow.holds Try.pinned (OpenSpec.upto checkAffineSpec)

/-- 'moneyerlaw02.CheckCuts', WHERE WHAT IT READS IS OF BULK AT MOST 1048576: true; the input reads as it did. -/
def checkCutsUptoRow : OpenClaim := { program := "ytndpaehcjaejpaa", sum := "b4248332b77e357131a273812d6b6b5004943809f813d5c7c7f43d28993b8ef1", func := "moneyer/moneyerlaw02.CheckCuts", spec := "checkCuts", apart := false, narrowed := true }
def CheckCutsUptoSaid : Prop := checkCutsUptoRow.holds Try.pinned (OpenSpec.upto checkCutsSpec)

end Rows
end Go.Proofs.Ytndpaehcjaejpaa
