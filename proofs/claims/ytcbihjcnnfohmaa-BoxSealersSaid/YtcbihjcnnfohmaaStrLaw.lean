/- Lemmas for this layer's statements. -/
import Derived.Test.YtcbihjcnnfohmaaStrSmall
namespace Go.Proofs.Ytcbihjcnnfohmaa.Str
open Go Go.ChangeShapes Go.WideShapes Go.ChangeAt Go.RowKit Go.Proofs.Ytcbihjcnnfohmaa.Aes
set_option linter.unusedVariables false
theorem str_app (a b : List UInt8) : str a ++ str b = str (a ++ b) := by
  apply ByteArray.ext
  simp [str]
theorem str_size (a : List UInt8) : (str a).size = a.length := by show a.toArray.size = _; simp
set_option maxRecDepth 20000 in
theorem arg_to {w : World} {B : Nat} {A : Option Addr} {n c k : Nat} {l : List UInt8} (hr : Rd w B A l) (hn : l.length = n) (hk : k ≤ n) (hc : n ≤ c) : ∃ A', (∀ w' : World, (Instr.slice 22 (.slice A n c) none (some (.int .i64 (k : Int))) none).run Try.prog w' = .ok (.slice A' k c) w') ∧ Rd w B A' (l.take k) := by
  have hu : Try.prog.underlying 22 = some (.slice (Try.prog.elem 22)) := by kernel_rfl
  have hz : ∀ w, (sizeOf (Try.prog.elem 22)).run Try.prog w = .ok 1 w := fun w => by kernel_rfl
  refine ⟨if c = 0 then A else A.map (·.add 0), fun w' => ?_, ?_⟩
  · rw [run_slice_h w' _ _ _ _ hu .i64 (k : Int) (by omega) (by omega), hz, Result.andThen_ok, sliced]
    simp
  · have := (hr.drop 0 (cap := c) (by omega)).take k
    rwa [List.drop_zero] at this
set_option maxRecDepth 20000 in
theorem arg_from {w : World} {B : Nat} {A : Option Addr} {n c k : Nat} {l : List UInt8} (hr : Rd w B A l) (hn : l.length = n) (hk : k ≤ n) (hc : n ≤ c) : ∃ A', (∀ w' : World, (Instr.slice 22 (.slice A n c) (some (.int .i64 (k : Int))) none none).run Try.prog w' = .ok (.slice A' (n - k) (c - k)) w') ∧ Rd w B A' (l.drop k) := by
  have hu : Try.prog.underlying 22 = some (.slice (Try.prog.elem 22)) := by kernel_rfl
  have hz : ∀ w, (sizeOf (Try.prog.elem 22)).run Try.prog w = .ok 1 w := fun w => by kernel_rfl
  refine ⟨if c = k then A else A.map (·.add k), fun w' => ?_, hr.drop k (by omega)⟩
  rw [run_slice_l w' _ _ _ _ hu .i64 (k : Int) (by omega) (by omega), hz, Result.andThen_ok, sliced]
  simp
theorem rd_now {w w' : World} {A : Option Addr} {l : List UInt8} (hr : Rd w w.heap.size A l) (hb : Below w.heap.size w w') : Rd w' w'.heap.size A l := (hr.below hb).more hb.size
theorem own_rd {w : World} {base n c : Nat} {A : Option Addr} {l : List UInt8} (h : Own w 5 base (.slice A n c) l) : Rd w w.heap.size A l := by
  obtain ⟨A', c', e, hr, _⟩ := h.form
  injection e with e1 e2 e3
  subst e1
  exact hr
theorem zeros_rd (w : World) : Rd (w.alloc (.cells (bvs (List.replicate 16 0)).toArray 5)) (w.alloc (.cells (bvs (List.replicate 16 0)).toArray 5)).heap.size (some ⟨w.heap.size, 0, none⟩) (List.replicate 16 0) := (Row.new w 5 (List.replicate 16 0)).rd
end Go.Proofs.Ytcbihjcnnfohmaa.Str
