/- Owned of one row; the queues beside it. -/
import Derived.Test.YtjlmgniachdfgaaSlRefQ
import Derived.Test.YtjlmgniachdfgaaOwned
namespace Go.Proofs.Ytjlmgniachdfgaa.Slots
open Go Go.ChangeShapes Go.WideShapes Go.ChangeAt Go.RowKit
set_option linter.unusedVariables false
theorem owned1_any (w : World) (r : ORow) (lo : Nat) (h : RowIn w r lo w.heap.size) :
    Calls Try.prog 16 #[.slice (some ⟨w.heap.size, 0, none⟩) 1 1] (w.alloc (.cells #[r.val] 28)) fun e w' => e = .returned (.bool true) ∧ Frame (fun k => k < w.heap.size ∧ r.a ≠ some k) w w' := by
  have ho := owns_new (w := w) 28 [(r, lo, w.heap.size)] (by intro x hx; simp only [List.mem_singleton] at hx; subst hx; exact ⟨h, Nat.le_refl _⟩) (by simp)
  refine (owned_any _ 1 1 [r] _ rfl (by omega) ho).mono ?_
  rintro e w' ⟨rfl, hI⟩
  have hf : Frame (fun k => k < w.heap.size ∧ r.a ≠ some k) (w.alloc (.cells #[r.val] 28)) w' := ⟨hI.os, hI.tape, hI.output, Nat.le_of_eq hI.size.symm, fun k hk => hI.far k (fun r' hr hg => by
    simp only [List.mem_singleton] at hr
    subst hr
    exact hk.2 hg)⟩
  exact ⟨rfl, ((Frame.refl (fun k => k < w.heap.size ∧ r.a ≠ some k) w).alloc (fun k hk => hk.1) _).trans hf (fun _ h => h)⟩
theorem owned1v_any (w : World) (v : Value) (base : Nat) (l : List UInt8) (h : Own w 5 base v l) :
    Calls Try.prog 16 #[.slice (some ⟨w.heap.size, 0, none⟩) 1 1] (w.alloc (.cells #[v] 28)) fun e w' => e = .returned (.bool true) ∧ Frame (fun k => k < w.heap.size ∧ v.ownBlock ≠ some k) w w' := by
  obtain ⟨r, rfl, hR⟩ := orow h
  have he : r.val.ownBlock = r.a := by
    obtain ⟨a, n, c⟩ := r
    cases a <;> rfl
  rw [he]
  exact owned1_any w r base hR
section
variable {w w' : World} {base g h n K J L : Nat} {tg : Tags} {dom : Nat → Prop} {q p : Qs}
theorem Both.fresh (H : Both w base tg dom g h n K J L q p) {k : Nat} (hk : w.heap.size ≤ k) : tg k = none ∧ ¬ dom k := by
  refine ⟨?_, fun hd => ?_⟩
  · cases e : tg k with
    | none => rfl
    | some x => have := (H.s.lt k (by rw [e]; simp)).2; omega
  · have := (H.d.lt k hd).2; omega
/-- behind Owned of a row that is nobody's -/
theorem Both.owned (H : Both w base tg dom g h n K J L q p) {b : Option Nat} (hF : Frame (fun k => k < w.heap.size ∧ b ≠ some k) w w') (hb : ∀ k, b = some k → tg k = none ∧ ¬ dom k) : Both w' base tg dom g h n K J L q p :=
  H.frame hF (fun k hk => ⟨(H.s.lt k hk).2, fun e => hk (hb k e).1⟩) (fun k hk => ⟨(H.d.lt k hk).2, fun e => (hb k e).2 hk⟩)
end
theorem owned_below {w w' : World} {b : Option Nat} {B : Nat} (hF : Frame (fun k => k < w.heap.size ∧ b ≠ some k) w w') (hb : ∀ k, b = some k → B ≤ k) (hB : B ≤ w.heap.size) : Below B w w' :=
  hF.toBelow fun k hk => ⟨by omega, fun e => by have := hb k e; omega⟩
end Go.Proofs.Ytjlmgniachdfgaa.Slots
