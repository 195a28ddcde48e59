/- The small case of this layer's statements. -/
import Derived.Test.YtcbihjcnnfohmaaGreatAesTwo
import Derived.Deep.RegionWith
import Derived.Deep.RegionHeld3
import Derived.Laws.StructEq
namespace Go.Proofs.YtcbihjcnnfohmaaGreat.Aes
open Go Go.ChangeShapes Go.WideShapes Go.ChangeAt Go.RowKit Go.Proofs.YtcbihjcnnfohmaaGreat.Fld
set_option linter.unusedVariables false
set_option linter.unusedSimpArgs false

def rowL (s t : Nat) : List UInt8 := (List.range t).map fun i => UInt8.ofNat (i * s)
theorem rowL_length (s t : Nat) : (rowL s t).length = t := by simp [rowL]
theorem rowL_succ (s t : Nat) : rowL s (t+1) = rowL s t ++ [UInt8.ofNat (t * s)] := by simp [rowL, List.range_succ]
theorem sb_chain (x : UInt8) : sb x = UInt8.ofNat (aff (chain x.toNat)) := by unfold sb box inv; rw [gpow_254 _ x.toNat_lt]
def encB (key s : Blk) : Blk := enc key s
theorem small_enc : enc (rowL 1 16) (rowL 17 16) = [105, 196, 224, 216, 106, 123, 4, 48, 216, 205, 183, 128, 112, 180, 197, 90] := by decide +kernel
end Go.Proofs.YtcbihjcnnfohmaaGreat.Aes

/- The small case of this layer's statements: contract. -/
namespace Go.Proofs.YtcbihjcnnfohmaaGreat.Aes
open Go Go.ChangeShapes Go.WideShapes Go.ChangeAt Go.RowKit Go.Proofs.YtcbihjcnnfohmaaGreat.Fld
set_option linter.unusedVariables false
set_option linter.unusedSimpArgs false
theorem own_rds {w : World} {e : TypeId} {base : Nat} {v : Value} {l : List UInt8} (h : Own w e base v l) {S : Nat → Prop} (hS : ∀ k, v.ownBlock = some k → S k) {A : Option Addr} {n c : Nat} (hv : v = .slice A n c) : RdS w S A l := fun h0 => by
  obtain ⟨g, c', he, h1, h2, _⟩ := h.at_ (i := 0) h0
  subst hv
  injection he with he
  subst he
  exact ⟨_, rfl, hS _ rfl, fun j hj => by rw [add_zero_block]; exact (h.at_g hj).2.2.1⟩
theorem off_below {w w' : World} {base B0 : Nat} {g : Nat} {B : Nat → Prop} {key : Blk} (h : KeyIs w base B g key) (hF : Frame (Off w B) w w') (hB : B0 ≤ base) (hs : base ≤ w.heap.size) : Below B0 w w' :=
  hF.toBelow fun k hk => ⟨by omega, fun hb => by have := (h.lt k hb).1; omega⟩
end Go.Proofs.YtcbihjcnnfohmaaGreat.Aes

/- Lemmas for this layer's statements. -/
namespace Go.Proofs.YtcbihjcnnfohmaaGreat.Aes
open Go Go.ChangeShapes Go.WideShapes Go.ChangeAt Go.RowKit
set_option linter.unusedVariables false
theorem str_list (l : List UInt8) : (str l).toList = l := by rw [ByteArray.toList_eq]; simp [str]
theorem str_ne {a b : List UInt8} (h : a ≠ b) : ((str a).toList == (str b).toList) = false := by rw [str_list, str_list]; exact beq_eq_false_iff_ne.2 h
theorem arg_off {w w' : World} {base : Nat} {B : Nat → Prop} {A : Option Addr} {l : List UInt8} (hr : Rd w w.heap.size A l) (hb : Below w.heap.size w w') (hB : ∀ k, B k → w.heap.size ≤ k) : RdS w' (Off w' B) A l := (hr.below hb).s fun k hk => ⟨Nat.lt_of_lt_of_le hk hb.size, fun h => by have := hB k h; omega⟩
theorem own_step {w w' : World} {e : TypeId} {base : Nat} {B B' : Nat → Prop} {v : Value} {l : List UInt8} (h : Own w e base v l) (hv : ∀ k, v.ownBlock = some k → ¬ B k) (hF : Frame (Off w B) w w') (hB : ∀ k, B' k → B k ∨ w.heap.size ≤ k) : Own w' e base v l ∧ ∀ k, v.ownBlock = some k → ¬ B' k :=
  ⟨own_keep_ h (fun k hk => hF.block k ⟨(h.lt k hk).2, hv k hk⟩), fun k hk hb => by
    rcases hB k hb with h1 | h1
    · exact hv k hk h1
    · have := (h.lt k hk).2; omega⟩
set_option maxRecDepth 100000 in
theorem own_str {w : World} {base n c : Nat} {A : Option Addr} {l : List UInt8} (h : Own w 5 base (.slice A n c) l) : (convert 22 9 (.slice A n c)).run Tryz.prog w = .ok (.string (str l)) w := by
  obtain ⟨A', c', e, hr, _⟩ := h.form
  injection e with e1 e2 e3
  subst e1 e2 e3
  exact hr.str Go.Proofs.YtcbihjcnnfohmaaGreat.u8 9 Tryz.underlying9 c
set_option maxRecDepth 100000 in
theorem arg_str {w w' : World} {A : Option Addr} {n c : Nat} {l : List UInt8} (hn : l.length = n) (hr : Rd w w.heap.size A l) (hb : Below w.heap.size w w') : (convert 22 9 (.slice A n c)).run Tryz.prog w' = .ok (.string (str l)) w' := by
  subst hn
  exact (hr.below hb).str Go.Proofs.YtcbihjcnnfohmaaGreat.u8 9 Tryz.underlying9 c
end Go.Proofs.YtcbihjcnnfohmaaGreat.Aes
