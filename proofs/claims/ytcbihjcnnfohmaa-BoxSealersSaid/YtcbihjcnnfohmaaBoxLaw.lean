/- Lemmas for this layer's statements. -/
import Derived.Test.YtcbihjcnnfohmaaBoxSm
namespace Go.Proofs.Ytcbihjcnnfohmaa.Box
open Go Go.ChangeShapes Go.WideShapes Go.ChangeAt Go.RowKit Go.Proofs.Ytcbihjcnnfohmaa.Aes Go.Proofs.Ytcbihjcnnfohmaa.Str Go.Proofs.Ytcbihjcnnfohmaa.Mac
set_option linter.unusedVariables false
theorem ownb_rd {w : World} {base n c : Nat} {A : Option Addr} {l : List UInt8} (h : OwnB w 5 base (.slice A n c) l) : Rd w w.heap.size A l := by
  obtain ⟨A', c', e, hr, _⟩ := h.form
  injection e with e1 e2 e3
  subst e1
  exact hr
theorem sizeI_nat {k : Nat} (h : k ≤ 65536) : sizeI (k : Int) = 24 + (k : Int) := by unfold sizeI; rw [if_neg (by omega)]
theorem body8_len {l : List UInt8} {k : Nat} (h : l.length = 24 + k) : ((bodyL l).drop 8).length = k := by
  unfold bodyL
  rw [List.length_drop, List.length_take]; omega
theorem not_opens {tag about b : List UInt8} (h : ¬ Opens tag about b) (ht : tagL tag about (bodyL b) = endL b) : 9223372036854775807 < num ((bodyL b).take 8) := by
  rcases Nat.lt_or_ge 9223372036854775807 (num ((bodyL b).take 8)) with h1 | h1
  · exact h1
  · exact absurd ⟨ht, h1⟩ h
end Go.Proofs.Ytcbihjcnnfohmaa.Box
