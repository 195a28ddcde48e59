/-
  DERIVED. GIVEN WITH THE SEED: THE CARDS: each row of YtkgnnlglabihkaaGreatDoorRows.lean that lists a variable, with what it lists TIED to the program's text (the seventh form; the later family's looks); each row that meets fmt, with fmt's text TOLD by the authors' own Lean function (tested against real Go, not proved from fmt's source: count such statements apart). THE CARD IS WHAT COUNTS. Prove the row's statement (the work); the ties are given (YtkgnnlglabihkaaGreatDoorTie.lean); close each card by the builder's one call (the guide's Derived/Test/ToyasCard.lean, 'card_holds'). Laid BY PROGRAM, IN A SANDBOX (cutbox-door.mjs). By AI agents, Wed Nov 11 2026. No macro, syntax, notation, axiom, sorry.
-/
import Derived.Test.YtkgnnlglabihkaaGreatDoorRows
import GoSem.ClaimSeven
namespace Go.Proofs.YtkgnnlglabihkaaGreatDoor
namespace Rows

/-- THE TIED CARD OF 'moneyertop.TopTokens'. -/
def topTokensCard : Claim7 := { stood := { row := topTokensRow, standIns := [], harness := (true, "de37fcbf8503b879af26a9cde138cbd78d2bac647adc93f4eec17830c94c2fee"), looks := false }, kinds := [], alts := [], laidByText := true, laidKinds := [.data, .data, .data, .data, .pinned], laidTests := true, laidLooks := .later }
def TopTokensCardSaid : Prop := Claim7.holds Tryz.pinned (.plain (OpenSpec.ofChange topTokensSpec)) topTokensCard

/-- THE TIED CARD OF 'moneyertop.TopApart'. -/
def topApartCard : Claim7 := { stood := { row := topApartRow, standIns := [], harness := (true, "de37fcbf8503b879af26a9cde138cbd78d2bac647adc93f4eec17830c94c2fee"), looks := false }, kinds := [], alts := [], laidByText := true, laidKinds := [.data, .data, .data, .data, .pinned], laidTests := true, laidLooks := .later }
def TopApartCardSaid : Prop := Claim7.holds Tryz.pinned (.plain (OpenSpec.ofChange topApartSpec)) topApartCard

/-- THE SECOND FORM's CARD OF 'moneyertop.TopTokens'. -/
def topTokensUptoCard : Claim7 := { stood := { row := topTokensUptoRow, standIns := [], harness := (true, "de37fcbf8503b879af26a9cde138cbd78d2bac647adc93f4eec17830c94c2fee"), looks := false }, kinds := [], alts := [], laidByText := true, laidKinds := [.data, .data, .data, .data, .pinned], laidTests := true, laidLooks := .later }
def TopTokensUptoCardSaid : Prop := Claim7.holds Tryz.pinned (.plain (OpenSpec.upto topTokensSpec)) topTokensUptoCard

/-- THE SECOND FORM's CARD OF 'moneyertop.TopApart'. -/
def topApartUptoCard : Claim7 := { stood := { row := topApartUptoRow, standIns := [], harness := (true, "de37fcbf8503b879af26a9cde138cbd78d2bac647adc93f4eec17830c94c2fee"), looks := false }, kinds := [], alts := [], laidByText := true, laidKinds := [.data, .data, .data, .data, .pinned], laidTests := true, laidLooks := .later }
def TopApartUptoCardSaid : Prop := Claim7.holds Tryz.pinned (.plain (OpenSpec.upto topApartSpec)) topApartUptoCard
end Rows
end Go.Proofs.YtkgnnlglabihkaaGreatDoor
