/- Lemmas for this layer's statements. -/
import Derived.Test.YtcbihjcnnfohmaaAesSmalls
import Derived.Laws.StructEq
namespace Go.Proofs.Ytcbihjcnnfohmaa.Aes
open Go Go.ChangeShapes Go.WideShapes Go.ChangeAt Go.RowKit
set_option linter.unusedVariables false
theorem str_list (l : List UInt8) : (str l).toList = l := by rw [ByteArray.toList_eq]; simp [str]
theorem str_ne {a b : List UInt8} (h : a ≠ b) : ((str a).toList == (str b).toList) = false := by rw [str_list, str_list]; exact beq_eq_false_iff_ne.2 h
theorem arg_off {w w' : World} {base : Nat} {B : Nat → Prop} {A : Option Addr} {l : List UInt8} (hr : Rd w w.heap.size A l) (hb : Below w.heap.size w w') (hB : ∀ k, B k → w.heap.size ≤ k) : RdS w' (Off w' B) A l := (hr.below hb).s fun k hk => ⟨Nat.lt_of_lt_of_le hk hb.size, fun h => by have := hB k h; omega⟩
theorem own_step {w w' : World} {e : TypeId} {base : Nat} {B B' : Nat → Prop} {v : Value} {l : List UInt8} (h : Own w e base v l) (hv : ∀ k, v.ownBlock = some k → ¬ B k) (hF : Frame (Off w B) w w') (hB : ∀ k, B' k → B k ∨ w.heap.size ≤ k) : Own w' e base v l ∧ ∀ k, v.ownBlock = some k → ¬ B' k :=
  ⟨own_keep_ h (fun k hk => hF.block k ⟨(h.lt k hk).2, hv k hk⟩), fun k hk hb => by
    rcases hB k hb with h1 | h1
    · exact hv k hk h1
    · have := (h.lt k hk).2; omega⟩
set_option maxRecDepth 100000 in
theorem own_str {w : World} {base n c : Nat} {A : Option Addr} {l : List UInt8} (h : Own w 5 base (.slice A n c) l) : (convert 22 9 (.slice A n c)).run Try.prog w = .ok (.string (str l)) w := by
  obtain ⟨A', c', e, hr, _⟩ := h.form
  injection e with e1 e2 e3
  subst e1 e2 e3
  exact hr.str Go.Proofs.Ytcbihjcnnfohmaa.u8 9 Try.underlying9 c
set_option maxRecDepth 100000 in
theorem arg_str {w w' : World} {A : Option Addr} {n c : Nat} {l : List UInt8} (hn : l.length = n) (hr : Rd w w.heap.size A l) (hb : Below w.heap.size w w') : (convert 22 9 (.slice A n c)).run Try.prog w' = .ok (.string (str l)) w' := by
  subst hn
  exact (hr.below hb).str Go.Proofs.Ytcbihjcnnfohmaa.u8 9 Try.underlying9 c
end Go.Proofs.Ytcbihjcnnfohmaa.Aes
