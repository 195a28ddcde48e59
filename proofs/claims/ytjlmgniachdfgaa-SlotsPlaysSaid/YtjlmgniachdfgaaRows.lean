/-
  No cell of these rows narrows 'for every input' (looked for: loops, veiled, ifaces, maps, wideKeys, modest, calm, conditions, laid).
  DERIVED. THE GIVEN ROWS OF THIS SEAT. 5 by the template 'for every input the law returns true; each argument reads behind the call as it read before'; 0 by the template 'total and deterministic' (their statements: YtjlmgniachdfgaaTotals.lean).
  GIVEN WITH THE SEED: the statements are not yours to turn. If you find one false, say at which input.
  Laid BY PROGRAM, IN A SANDBOX (cutbox-rows.mjs): the forced cells as the released guide's own fill.sh prints them over the translation 8e2bf57fd1117169… (all of the seat's roots in one cut). By AI agents, Wed Nov 11 2026. No macro, syntax, notation, axiom, sorry.
-/
import Derived.Test.YtjlmgniachdfgaaChecked
import GoSem.Claim
import GoSem.ClaimJoined
import GoSem.ClaimMapViews
import Derived.JoinedTies
import Derived.KernelRfl
namespace Go.Proofs.Ytjlmgniachdfgaa
/- THE CELL 'sum', in the pinned program and in every row, IS THE sha256 OF THE DUMP (.gsa) THAT YtjlmgniachdfgaaProg.lean LOADS. Nothing in Lean hashes anything: it is a label: what it is worth is what the hold of that sum in a sandbox is worth. -/
noncomputable def Try.pinned : Pinned := { name := "ytjlmgniachdfgaa", sum := "8e2bf57fd1117169f8786de7acf9d778d5c281a7eb83a8333c9c39b067b914ca", checked := Try.checked }
namespace Rows
def none {H : Type} : Left H := { results := [], args := [] }

/-- 'moneyerlaw24.SlotsTurns': WHATEVER THE INPUT: true; the input reads as it did. -/
def slotsTurnsSpec : ChangeSpec := { name := "slotsTurns", fn := fun _ => fun
  | [d1, d2, d3] => { results := [.lit (.bool true)], args := [d1, d2, d3] }
  | _ => none }
def slotsTurnsRow : OpenClaim := { program := "ytjlmgniachdfgaa", sum := "8e2bf57fd1117169f8786de7acf9d778d5c281a7eb83a8333c9c39b067b914ca", func := "moneyer/moneyerlaw24.SlotsTurns", spec := "slotsTurns", inPlace := ["sync/atomic.AddInt64", "sync/atomic.LoadInt64"], apart := false }
def SlotsTurnsSaid : Prop := slotsTurnsRow.holds Try.pinned (OpenSpec.ofChange slotsTurnsSpec)

/-- ITS FALSE NEIGHBOUR: 'it returns false'. Refute it at one input. -/
def slotsTurnsWrong : ChangeSpec := { name := "slotsTurns", fn := fun _ => fun
  | [d1, d2, d3] => { results := [.lit (.bool false)], args := [d1, d2, d3] }
  | _ => none }
def SlotsTurnsWrongFalsely : Prop := slotsTurnsRow.holds Try.pinned (OpenSpec.ofChange slotsTurnsWrong)

/-- 'moneyerlaw24.SlotsFull': WHATEVER THE INPUT: true; the input reads as it did. -/
def slotsFullSpec : ChangeSpec := { name := "slotsFull", fn := fun _ => fun
  | [d1, d2, d3] => { results := [.lit (.bool true)], args := [d1, d2, d3] }
  | _ => none }
def slotsFullRow : OpenClaim := { program := "ytjlmgniachdfgaa", sum := "8e2bf57fd1117169f8786de7acf9d778d5c281a7eb83a8333c9c39b067b914ca", func := "moneyer/moneyerlaw24.SlotsFull", spec := "slotsFull", inPlace := ["sync/atomic.AddInt64", "sync/atomic.LoadInt64"], apart := false }
def SlotsFullSaid : Prop := slotsFullRow.holds Try.pinned (OpenSpec.ofChange slotsFullSpec)

/-- ITS FALSE NEIGHBOUR: 'it returns false'. Refute it at one input. -/
def slotsFullWrong : ChangeSpec := { name := "slotsFull", fn := fun _ => fun
  | [d1, d2, d3] => { results := [.lit (.bool false)], args := [d1, d2, d3] }
  | _ => none }
def SlotsFullWrongFalsely : Prop := slotsFullRow.holds Try.pinned (OpenSpec.ofChange slotsFullWrong)

/-- 'moneyerlaw24.SlotsPlays': WHATEVER THE INPUT: true; the input reads as it did. -/
def slotsPlaysSpec : ChangeSpec := { name := "slotsPlays", fn := fun _ => fun
  | [d1, d2] => { results := [.lit (.bool true)], args := [d1, d2] }
  | _ => none }
def slotsPlaysRow : OpenClaim := { program := "ytjlmgniachdfgaa", sum := "8e2bf57fd1117169f8786de7acf9d778d5c281a7eb83a8333c9c39b067b914ca", func := "moneyer/moneyerlaw24.SlotsPlays", spec := "slotsPlays", inPlace := ["sync/atomic.AddInt64", "sync/atomic.LoadInt64"], apart := false }
def SlotsPlaysSaid : Prop := slotsPlaysRow.holds Try.pinned (OpenSpec.ofChange slotsPlaysSpec)

/-- ITS FALSE NEIGHBOUR: 'it returns false'. Refute it at one input. -/
def slotsPlaysWrong : ChangeSpec := { name := "slotsPlays", fn := fun _ => fun
  | [d1, d2] => { results := [.lit (.bool false)], args := [d1, d2] }
  | _ => none }
def SlotsPlaysWrongFalsely : Prop := slotsPlaysRow.holds Try.pinned (OpenSpec.ofChange slotsPlaysWrong)

/-- 'moneyerlaw24.SlotsApart': WHATEVER THE INPUT: true; the input reads as it did. -/
def slotsApartSpec : ChangeSpec := { name := "slotsApart", fn := fun _ => fun
  | [d1, d2, d3, d4] => { results := [.lit (.bool true)], args := [d1, d2, d3, d4] }
  | _ => none }
def slotsApartRow : OpenClaim := { program := "ytjlmgniachdfgaa", sum := "8e2bf57fd1117169f8786de7acf9d778d5c281a7eb83a8333c9c39b067b914ca", func := "moneyer/moneyerlaw24.SlotsApart", spec := "slotsApart", inPlace := ["sync/atomic.AddInt64", "sync/atomic.LoadInt64"], apart := false }
def SlotsApartSaid : Prop := slotsApartRow.holds Try.pinned (OpenSpec.ofChange slotsApartSpec)

/-- ITS FALSE NEIGHBOUR: 'it returns false'. Refute it at one input. -/
def slotsApartWrong : ChangeSpec := { name := "slotsApart", fn := fun _ => fun
  | [d1, d2, d3, d4] => { results := [.lit (.bool false)], args := [d1, d2, d3, d4] }
  | _ => none }
def SlotsApartWrongFalsely : Prop := slotsApartRow.holds Try.pinned (OpenSpec.ofChange slotsApartWrong)

/-- 'moneyerlaw24.SlotsCounts': WHATEVER THE INPUT: true; the input reads as it did. -/
def slotsCountsSpec : ChangeSpec := { name := "slotsCounts", fn := fun _ => fun
  | [d1, d2, d3] => { results := [.lit (.bool true)], args := [d1, d2, d3] }
  | _ => none }
def slotsCountsRow : OpenClaim := { program := "ytjlmgniachdfgaa", sum := "8e2bf57fd1117169f8786de7acf9d778d5c281a7eb83a8333c9c39b067b914ca", func := "moneyer/moneyerlaw24.SlotsCounts", spec := "slotsCounts", inPlace := ["sync/atomic.AddInt64", "sync/atomic.LoadInt64"], apart := false }
def SlotsCountsSaid : Prop := slotsCountsRow.holds Try.pinned (OpenSpec.ofChange slotsCountsSpec)

/-- ITS FALSE NEIGHBOUR: 'it returns false'. Refute it at one input. -/
def slotsCountsWrong : ChangeSpec := { name := "slotsCounts", fn := fun _ => fun
  | [d1, d2, d3] => { results := [.lit (.bool false)], args := [d1, d2, d3] }
  | _ => none }
def SlotsCountsWrongFalsely : Prop := slotsCountsRow.holds Try.pinned (OpenSpec.ofChange slotsCountsWrong)

/- THE SECOND FORM. 'bulk': how many values and letters a reading holds, each counted each time it is reached (what is shared counts as often as it is met; a slice's spare places count too). A statement '..UptoSaid' is the law's where the arguments, and the package variables that the reading takes, are together of bulk at most 1048576: NARROWER than '..Said'. Prove '..Said' where nothing that the law and all that it calls make is longer than what came in: it says more and counts as full. Else prove '..UptoSaid'. A law counts once. -/
mutual
def uptoBulk {H : Type} : DataW H → Nat
  | .lit (.string bytes) => bytes.length + 1
  | .lit _ => 1
  | .nil => 1
  | .ptr d => uptoBulk d + 1
  | .slice elems spare => uptoBulkAll elems + uptoBulkAll spare + 1
  | .agg parts => uptoBulkAll parts + 1
  | .iface _ d => uptoBulk d + 1
  | .map entries => uptoBulkEntries entries + 1
  | .held _ => 1
def uptoBulkAll {H : Type} : List (DataW H) → Nat
  | [] => 0
  | d :: r => uptoBulk d + uptoBulkAll r
def uptoBulkEntries {H : Type} : List (Lit × DataW H) → Nat
  | [] => 0
  | x :: r => uptoBulkEntry x + uptoBulkEntries r
def uptoBulkEntry {H : Type} : Lit × DataW H → Nat
  | (.string bytes, d) => bytes.length + uptoBulk d + 1
  | (_, d) => uptoBulk d + 1
 end
def uptoSmall : (H : Type) → List (DataW H) → Bool := fun _ ds => decide (uptoBulkAll ds ≤ 1048576)
def OpenSpec.upto (s : _root_.Go.ChangeSpec) : _root_.Go.OpenSpec := { _root_.Go.OpenSpec.ofChange s with cond := some uptoSmall }

/-- 'moneyerlaw24.SlotsTurns', WHERE WHAT IT READS IS OF BULK AT MOST 1048576: true; the input reads as it did. -/
def slotsTurnsUptoRow : OpenClaim := { program := "ytjlmgniachdfgaa", sum := "8e2bf57fd1117169f8786de7acf9d778d5c281a7eb83a8333c9c39b067b914ca", func := "moneyer/moneyerlaw24.SlotsTurns", spec := "slotsTurns", inPlace := ["sync/atomic.AddInt64", "sync/atomic.LoadInt64"], apart := false, narrowed := true }
def SlotsTurnsUptoSaid : Prop := slotsTurnsUptoRow.holds Try.pinned (OpenSpec.upto slotsTurnsSpec)

/-- 'moneyerlaw24.SlotsFull', WHERE WHAT IT READS IS OF BULK AT MOST 1048576: true; the input reads as it did. -/
def slotsFullUptoRow : OpenClaim := { program := "ytjlmgniachdfgaa", sum := "8e2bf57fd1117169f8786de7acf9d778d5c281a7eb83a8333c9c39b067b914ca", func := "moneyer/moneyerlaw24.SlotsFull", spec := "slotsFull", inPlace := ["sync/atomic.AddInt64", "sync/atomic.LoadInt64"], apart := false, narrowed := true }
def SlotsFullUptoSaid : Prop := slotsFullUptoRow.holds Try.pinned (OpenSpec.upto slotsFullSpec)

/-- 'moneyerlaw24.SlotsPlays', WHERE WHAT IT READS IS OF BULK AT MOST 1048576: true; the input reads as it did. -/
def slotsPlaysUptoRow : OpenClaim := { program := "ytjlmgniachdfgaa", sum := "8e2bf57fd1117169f8786de7acf9d778d5c281a7eb83a8333c9c39b067b914ca", func := "moneyer/moneyerlaw24.SlotsPlays", spec := "slotsPlays", inPlace := ["sync/atomic.AddInt64", "sync/atomic.LoadInt64"], apart := false, narrowed := true }
def SlotsPlaysUptoSaid : Prop := slotsPlaysUptoRow.holds Try.pinned (OpenSpec.upto slotsPlaysSpec)

/-- 'moneyerlaw24.SlotsApart', WHERE WHAT IT READS IS OF BULK AT MOST 1048576: true; the input reads as it did. -/
def slotsApartUptoRow : OpenClaim := { program := "ytjlmgniachdfgaa", sum := "8e2bf57fd1117169f8786de7acf9d778d5c281a7eb83a8333c9c39b067b914ca", func := "moneyer/moneyerlaw24.SlotsApart", spec := "slotsApart", inPlace := ["sync/atomic.AddInt64", "sync/atomic.LoadInt64"], apart := false, narrowed := true }
def SlotsApartUptoSaid : Prop := slotsApartUptoRow.holds Try.pinned (OpenSpec.upto slotsApartSpec)

/-- 'moneyerlaw24.SlotsCounts', WHERE WHAT IT READS IS OF BULK AT MOST 1048576: true; the input reads as it did. -/
def slotsCountsUptoRow : OpenClaim := { program := "ytjlmgniachdfgaa", sum := "8e2bf57fd1117169f8786de7acf9d778d5c281a7eb83a8333c9c39b067b914ca", func := "moneyer/moneyerlaw24.SlotsCounts", spec := "slotsCounts", inPlace := ["sync/atomic.AddInt64", "sync/atomic.LoadInt64"], apart := false, narrowed := true }
def SlotsCountsUptoSaid : Prop := slotsCountsUptoRow.holds Try.pinned (OpenSpec.upto slotsCountsSpec)

end Rows
end Go.Proofs.Ytjlmgniachdfgaa
