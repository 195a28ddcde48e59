/-
  No cell of these rows narrows 'for every input' (looked for: loops, veiled, ifaces, maps, wideKeys, modest, calm, conditions, laid).
  DERIVED. THE GIVEN ROWS OF THIS SEAT. 7 by the template 'for every input the law returns true; each argument reads behind the call as it read before'; 0 by the template 'total and deterministic' (their statements: YtoklpohpfoacpaaTotals.lean).
  GIVEN WITH THE SEED: the statements are not yours to turn. If you find one false, say at which input.
  Laid BY PROGRAM, IN A SANDBOX (cutbox-rows.mjs): the forced cells as the released guide's own fill.sh prints them over the translation 5cc671d3b61fd617… (all of the seat's roots in one cut). By AI agents, Wed Nov 11 2026. No macro, syntax, notation, axiom, sorry.
-/
import Derived.Test.YtoklpohpfoacpaaChecked
import GoSem.Claim
import GoSem.ClaimJoined
import GoSem.ClaimMapViews
import Derived.JoinedTies
import Derived.KernelRfl
namespace Go.Proofs.Ytoklpohpfoacpaa
/- THE CELL 'sum', in the pinned program and in every row, IS THE sha256 OF THE DUMP (.gsa) THAT YtoklpohpfoacpaaProg.lean LOADS. Nothing in Lean hashes anything: it is a label: what it is worth is what the hold of that sum in a sandbox is worth. -/
noncomputable def Try.pinned : Pinned := { name := "ytoklpohpfoacpaa", sum := "5cc671d3b61fd617caef4893524632fde7e21efc9be6c31858a850277cb5c3f5", checked := Try.checked }
namespace Rows
def none {H : Type} : Left H := { results := [], args := [] }

/-- 'moneyerlaw05.ShaSums': WHATEVER THE INPUT: true; the input reads as it did. -/
def shaSumsSpec : ChangeSpec := { name := "shaSums", fn := fun _ => fun
  | [d1, d2] => { results := [.lit (.bool true)], args := [d1, d2] }
  | _ => none }
def shaSumsRow : OpenClaim := { program := "ytoklpohpfoacpaa", sum := "5cc671d3b61fd617caef4893524632fde7e21efc9be6c31858a850277cb5c3f5", func := "moneyer/moneyerlaw05.ShaSums", spec := "shaSums", apart := false }
def ShaSumsSaid : Prop := shaSumsRow.holds Try.pinned (OpenSpec.ofChange shaSumsSpec)

/-- ITS FALSE NEIGHBOUR: 'it returns false'. Refute it at one input. -/
def shaSumsWrong : ChangeSpec := { name := "shaSums", fn := fun _ => fun
  | [d1, d2] => { results := [.lit (.bool false)], args := [d1, d2] }
  | _ => none }
def ShaSumsWrongFalsely : Prop := shaSumsRow.holds Try.pinned (OpenSpec.ofChange shaSumsWrong)

/-- 'moneyerlaw05.ShaCuts': WHATEVER THE INPUT: true; the input reads as it did. -/
def shaCutsSpec : ChangeSpec := { name := "shaCuts", fn := fun _ => fun
  | [d1, d2, d3] => { results := [.lit (.bool true)], args := [d1, d2, d3] }
  | _ => none }
def shaCutsRow : OpenClaim := { program := "ytoklpohpfoacpaa", sum := "5cc671d3b61fd617caef4893524632fde7e21efc9be6c31858a850277cb5c3f5", func := "moneyer/moneyerlaw05.ShaCuts", spec := "shaCuts", apart := false }
def ShaCutsSaid : Prop := shaCutsRow.holds Try.pinned (OpenSpec.ofChange shaCutsSpec)

/-- ITS FALSE NEIGHBOUR: 'it returns false'. Refute it at one input. -/
def shaCutsWrong : ChangeSpec := { name := "shaCuts", fn := fun _ => fun
  | [d1, d2, d3] => { results := [.lit (.bool false)], args := [d1, d2, d3] }
  | _ => none }
def ShaCutsWrongFalsely : Prop := shaCutsRow.holds Try.pinned (OpenSpec.ofChange shaCutsWrong)

/-- 'moneyerlaw05.ShaEmpty': WHATEVER THE INPUT: true; the input reads as it did. -/
def shaEmptySpec : ChangeSpec := { name := "shaEmpty", fn := fun _ => fun
  | [d1, d2] => { results := [.lit (.bool true)], args := [d1, d2] }
  | _ => none }
def shaEmptyRow : OpenClaim := { program := "ytoklpohpfoacpaa", sum := "5cc671d3b61fd617caef4893524632fde7e21efc9be6c31858a850277cb5c3f5", func := "moneyer/moneyerlaw05.ShaEmpty", spec := "shaEmpty", apart := false }
def ShaEmptySaid : Prop := shaEmptyRow.holds Try.pinned (OpenSpec.ofChange shaEmptySpec)

/-- ITS FALSE NEIGHBOUR: 'it returns false'. Refute it at one input. -/
def shaEmptyWrong : ChangeSpec := { name := "shaEmpty", fn := fun _ => fun
  | [d1, d2] => { results := [.lit (.bool false)], args := [d1, d2] }
  | _ => none }
def ShaEmptyWrongFalsely : Prop := shaEmptyRow.holds Try.pinned (OpenSpec.ofChange shaEmptyWrong)

/-- 'moneyerlaw05.ShaGoes': WHATEVER THE INPUT: true; the input reads as it did. -/
def shaGoesSpec : ChangeSpec := { name := "shaGoes", fn := fun _ => fun
  | [d] => { results := [.lit (.bool true)], args := [d] }
  | _ => none }
def shaGoesRow : OpenClaim := { program := "ytoklpohpfoacpaa", sum := "5cc671d3b61fd617caef4893524632fde7e21efc9be6c31858a850277cb5c3f5", func := "moneyer/moneyerlaw05.ShaGoes", spec := "shaGoes", apart := false }
def ShaGoesSaid : Prop := shaGoesRow.holds Try.pinned (OpenSpec.ofChange shaGoesSpec)

/-- ITS FALSE NEIGHBOUR: 'it returns false'. Refute it at one input. -/
def shaGoesWrong : ChangeSpec := { name := "shaGoes", fn := fun _ => fun
  | [d] => { results := [.lit (.bool false)], args := [d] }
  | _ => none }
def ShaGoesWrongFalsely : Prop := shaGoesRow.holds Try.pinned (OpenSpec.ofChange shaGoesWrong)

/-- 'moneyerlaw05.ShaPairs': WHATEVER THE INPUT: true; the input reads as it did. -/
def shaPairsSpec : ChangeSpec := { name := "shaPairs", fn := fun _ => fun
  | [d1, d2] => { results := [.lit (.bool true)], args := [d1, d2] }
  | _ => none }
def shaPairsRow : OpenClaim := { program := "ytoklpohpfoacpaa", sum := "5cc671d3b61fd617caef4893524632fde7e21efc9be6c31858a850277cb5c3f5", func := "moneyer/moneyerlaw05.ShaPairs", spec := "shaPairs", apart := false }
def ShaPairsSaid : Prop := shaPairsRow.holds Try.pinned (OpenSpec.ofChange shaPairsSpec)

/-- ITS FALSE NEIGHBOUR: 'it returns false'. Refute it at one input. -/
def shaPairsWrong : ChangeSpec := { name := "shaPairs", fn := fun _ => fun
  | [d1, d2] => { results := [.lit (.bool false)], args := [d1, d2] }
  | _ => none }
def ShaPairsWrongFalsely : Prop := shaPairsRow.holds Try.pinned (OpenSpec.ofChange shaPairsWrong)

/-- 'moneyerlaw05.ShaWords': WHATEVER THE INPUT: true; the input reads as it did. -/
def shaWordsSpec : ChangeSpec := { name := "shaWords", fn := fun _ => fun
  | [d] => { results := [.lit (.bool true)], args := [d] }
  | _ => none }
def shaWordsRow : OpenClaim := { program := "ytoklpohpfoacpaa", sum := "5cc671d3b61fd617caef4893524632fde7e21efc9be6c31858a850277cb5c3f5", func := "moneyer/moneyerlaw05.ShaWords", spec := "shaWords", apart := false }
def ShaWordsSaid : Prop := shaWordsRow.holds Try.pinned (OpenSpec.ofChange shaWordsSpec)

/-- ITS FALSE NEIGHBOUR: 'it returns false'. Refute it at one input. -/
def shaWordsWrong : ChangeSpec := { name := "shaWords", fn := fun _ => fun
  | [d] => { results := [.lit (.bool false)], args := [d] }
  | _ => none }
def ShaWordsWrongFalsely : Prop := shaWordsRow.holds Try.pinned (OpenSpec.ofChange shaWordsWrong)

/-- 'moneyerlaw05.ShaRoots': WHATEVER THE INPUT: true; the input reads as it did. -/
def shaRootsSpec : ChangeSpec := { name := "shaRoots", fn := fun _ => fun
  | [d] => { results := [.lit (.bool true)], args := [d] }
  | _ => none }
def shaRootsRow : OpenClaim := { program := "ytoklpohpfoacpaa", sum := "5cc671d3b61fd617caef4893524632fde7e21efc9be6c31858a850277cb5c3f5", func := "moneyer/moneyerlaw05.ShaRoots", spec := "shaRoots", apart := false }
def ShaRootsSaid : Prop := shaRootsRow.holds Try.pinned (OpenSpec.ofChange shaRootsSpec)

/-- ITS FALSE NEIGHBOUR: 'it returns false'. Refute it at one input. -/
def shaRootsWrong : ChangeSpec := { name := "shaRoots", fn := fun _ => fun
  | [d] => { results := [.lit (.bool false)], args := [d] }
  | _ => none }
def ShaRootsWrongFalsely : Prop := shaRootsRow.holds Try.pinned (OpenSpec.ofChange shaRootsWrong)

/- THE SECOND FORM. 'bulk': how many values and letters a reading holds, each counted each time it is reached (what is shared counts as often as it is met; a slice's spare places count too). A statement '..UptoSaid' is the law's where the arguments, and the package variables that the reading takes, are together of bulk at most 1048576: NARROWER than '..Said'. Prove '..Said' where nothing that the law and all that it calls make is longer than what came in: it says more and counts as full. Else prove '..UptoSaid'. A law counts once. -/
mutual
def uptoBulk {H : Type} : DataW H → Nat
  | .lit (.string bytes) => bytes.length + 1
  | .lit _ => 1
  | .nil => 1
  | .ptr d => uptoBulk d + 1
  | .slice elems spare => uptoBulkAll elems + uptoBulkAll spare + 1
  | .agg parts => uptoBulkAll parts + 1
  | .iface _ d => uptoBulk d + 1
  | .map entries => uptoBulkEntries entries + 1
  | .held _ => 1
def uptoBulkAll {H : Type} : List (DataW H) → Nat
  | [] => 0
  | d :: r => uptoBulk d + uptoBulkAll r
def uptoBulkEntries {H : Type} : List (Lit × DataW H) → Nat
  | [] => 0
  | x :: r => uptoBulkEntry x + uptoBulkEntries r
def uptoBulkEntry {H : Type} : Lit × DataW H → Nat
  | (.string bytes, d) => bytes.length + uptoBulk d + 1
  | (_, d) => uptoBulk d + 1
 end
def uptoSmall : (H : Type) → List (DataW H) → Bool := fun _ ds => decide (uptoBulkAll ds ≤ 1048576)
def OpenSpec.upto (s : _root_.Go.ChangeSpec) : _root_.Go.OpenSpec := { _root_.Go.OpenSpec.ofChange s with cond := some uptoSmall }

/-- 'moneyerlaw05.ShaSums', WHERE WHAT IT READS IS OF BULK AT MOST 1048576: true; the input reads as it did. -/
def shaSumsUptoRow : OpenClaim := { program := "ytoklpohpfoacpaa", sum := "5cc671d3b61fd617caef4893524632fde7e21efc9be6c31858a850277cb5c3f5", func := "moneyer/moneyerlaw05.ShaSums", spec := "shaSums", apart := false, narrowed := true }
def ShaSumsUptoSaid : Prop := shaSumsUptoRow.holds Try.pinned (OpenSpec.upto shaSumsSpec)

/-- 'moneyerlaw05.ShaCuts', WHERE WHAT IT READS IS OF BULK AT MOST 1048576: true; the input reads as it did. -/
def shaCutsUptoRow : OpenClaim := { program := "ytoklpohpfoacpaa", sum := "5cc671d3b61fd617caef4893524632fde7e21efc9be6c31858a850277cb5c3f5", func := "moneyer/moneyerlaw05.ShaCuts", spec := "shaCuts", apart := false, narrowed := true }
def ShaCutsUptoSaid : Prop := shaCutsUptoRow.holds Try.pinned (OpenSpec.upto shaCutsSpec)

/-- 'moneyerlaw05.ShaEmpty', WHERE WHAT IT READS IS OF BULK AT MOST 1048576: true; the input reads as it did. -/
def shaEmptyUptoRow : OpenClaim := { program := "ytoklpohpfoacpaa", sum := "5cc671d3b61fd617caef4893524632fde7e21efc9be6c31858a850277cb5c3f5", func := "moneyer/moneyerlaw05.ShaEmpty", spec := "shaEmpty", apart := false, narrowed := true }
def ShaEmptyUptoSaid : Prop := shaEmptyUptoRow.holds Try.pinned (OpenSpec.upto shaEmptySpec)

/-- 'moneyerlaw05.ShaGoes', WHERE WHAT IT READS IS OF BULK AT MOST 1048576: true; the input reads as it did. -/
def shaGoesUptoRow : OpenClaim := { program := "ytoklpohpfoacpaa", sum := "5cc671d3b61fd617caef4893524632fde7e21efc9be6c31858a850277cb5c3f5", func := "moneyer/moneyerlaw05.ShaGoes", spec := "shaGoes", apart := false, narrowed := true }
def ShaGoesUptoSaid : Prop := shaGoesUptoRow.holds Try.pinned (OpenSpec.upto shaGoesSpec)

/-- 'moneyerlaw05.ShaPairs', WHERE WHAT IT READS IS OF BULK AT MOST 1048576: true; the input reads as it did. -/
def shaPairsUptoRow : OpenClaim := { program := "ytoklpohpfoacpaa", sum := "5cc671d3b61fd617caef4893524632fde7e21efc9be6c31858a850277cb5c3f5", func := "moneyer/moneyerlaw05.ShaPairs", spec := "shaPairs", apart := false, narrowed := true }
def ShaPairsUptoSaid : Prop := shaPairsUptoRow.holds Try.pinned (OpenSpec.upto shaPairsSpec)

/-- 'moneyerlaw05.ShaWords', WHERE WHAT IT READS IS OF BULK AT MOST 1048576: true; the input reads as it did. -/
def shaWordsUptoRow : OpenClaim := { program := "ytoklpohpfoacpaa", sum := "5cc671d3b61fd617caef4893524632fde7e21efc9be6c31858a850277cb5c3f5", func := "moneyer/moneyerlaw05.ShaWords", spec := "shaWords", apart := false, narrowed := true }
def ShaWordsUptoSaid : Prop := shaWordsUptoRow.holds Try.pinned (OpenSpec.upto shaWordsSpec)

/-- 'moneyerlaw05.ShaRoots', WHERE WHAT IT READS IS OF BULK AT MOST 1048576: true; the input reads as it did. -/
def shaRootsUptoRow : OpenClaim := { program := "ytoklpohpfoacpaa", sum := "5cc671d3b61fd617caef4893524632fde7e21efc9be6c31858a850277cb5c3f5", func := "moneyer/moneyerlaw05.ShaRoots", spec := "shaRoots", apart := false, narrowed := true }
def ShaRootsUptoSaid : Prop := shaRootsUptoRow.holds Try.pinned (OpenSpec.upto shaRootsSpec)

end Rows
end Go.Proofs.Ytoklpohpfoacpaa
