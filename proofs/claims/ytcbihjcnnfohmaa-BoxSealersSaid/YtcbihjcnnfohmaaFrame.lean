/- Which blocks stay as they are; bytes and rows of bytes that lie in such blocks. No program in sight. -/
import Derived.Test.YtcbihjcnnfohmaaRow
namespace Go.Proofs.Ytcbihjcnnfohmaa
open Go Go.RowKit
set_option linter.unusedVariables false

/-- w' is w but for new blocks and for the blocks outside S -/
structure Frame (S : Nat → Prop) (w w' : World) : Prop where
  os : w'.os = w.os
  tape : w'.tape = w.tape
  output : w'.output = w.output
  size : w.heap.size ≤ w'.heap.size
  block : ∀ k, S k → w'.heap[k]? = w.heap[k]?
section
variable {S T : Nat → Prop} {w w' w'' : World}
theorem Frame.refl (S : Nat → Prop) (w : World) : Frame S w w := ⟨rfl, rfl, rfl, Nat.le_refl _, fun _ _ => rfl⟩
theorem Frame.trans (h : Frame S w w') (h' : Frame T w' w'') (hS : ∀ k, S k → T k) : Frame S w w'' :=
  ⟨h'.os.trans h.os, h'.tape.trans h.tape, h'.output.trans h.output, Nat.le_trans h.size h'.size, fun k hk => (h'.block k (hS k hk)).trans (h.block k hk)⟩
theorem Frame.mono (h : Frame S w w') (hS : ∀ k, T k → S k) : Frame T w w' := ⟨h.os, h.tape, h.output, h.size, fun k hk => h.block k (hS k hk)⟩
theorem Frame.of_below {B : Nat} (h : Below B w w') (hS : ∀ k, S k → k < B) : Frame S w w' := ⟨h.os, h.tape, h.output, h.size, fun k hk => h.block k (hS k hk)⟩
theorem Frame.toBelow {B : Nat} (h : Frame S w w') (hS : ∀ k, k < B → S k) : Below B w w' := ⟨h.os, h.tape, h.output, h.size, fun k hk => h.block k (hS k hk)⟩
theorem Frame.of_grown {row : Option Nat} (h : w.grownBy w' row) (hS : ∀ k, S k → k < w.heap.size ∧ some k ≠ row) : Frame S w w' := ⟨h.os, h.tape, h.output, h.size, fun k hk => h.block k (hS k hk).1 (hS k hk).2⟩
theorem Frame.setCell (h : Frame S w w') {p : Addr} (hp : ¬ S p.block) (u : Value) : Frame S w (w'.setCell p u) :=
  ⟨h.os, h.tape, h.output, by simpa using h.size, fun k hk => (heap_setCell_other w' p k u (by rintro rfl; exact hp hk)).trans (h.block k hk)⟩
theorem Frame.setRow (h : Frame S w w') {g : Nat} (hp : ¬ S g) (cs : Array Value) : Frame S w (w'.setRow g cs) :=
  ⟨h.os, h.tape, h.output, by rw [setRow_size]; exact h.size, fun k hk => (setRow_other w' g k cs (by rintro rfl; exact hp hk)).trans (h.block k hk)⟩
theorem Frame.alloc (h : Frame S w w') (hS : ∀ k, S k → k < w'.heap.size) (o : Obj) : Frame S w (w'.alloc o) :=
  ⟨h.os, h.tape, h.output, Nat.le_trans h.size (by simp), fun k hk => (heap_alloc_old w' o (hS k hk)).trans (h.block k hk)⟩
theorem Frame.drewN (h : Frame S w w') (n : Nat) : Frame S w (w'.drewN n) := ⟨h.os, h.tape, h.output, h.size, h.block⟩
theorem Frame.drew (h : Frame S w w') : Frame S w w'.drew := ⟨h.os, h.tape, h.output, h.size, h.block⟩
theorem Frame.row {T : TypeId} {g : Nat} {xs : Array Value} {fr : Nat × Nat} (h : Frame S w w') (hg : S g) (hr : w.heap[g]? = some (.cells xs T fr)) : w'.heap[g]? = some (.cells xs T fr) := (h.block g hg).trans hr
theorem Frame.own {e : TypeId} {base : Nat} {v : Value} {xs : List Value} (h : Frame S w w') (hv : OwnV w e base v xs) (hS : ∀ k, v.ownBlock = some k → S k) : OwnV w' e base v xs := hv.keep fun k hk => h.block k (hS k hk)
end
/-- what was there reads as before -/
theorem bcell {W w1 : World} {B : Nat} (hb : Below B W w1) : (∀ b o, b < B → w1.cell? ⟨b, o, none⟩ = W.cell? ⟨b, o, none⟩) ∧ (∀ b o, b < B → w1.frozen? ⟨b, o, none⟩ = W.frozen? ⟨b, o, none⟩) :=
  ⟨fun b o h => hb.cell (p := ⟨b, o, none⟩) h, fun b o h => hb.frozen (p := ⟨b, o, none⟩) h⟩
/-- bytes in a block of S -/
def RdS (w : World) (S : Nat → Prop) (A : Option Addr) (l : List UInt8) : Prop :=
  0 < l.length → ∃ ad, A = some ad ∧ S ad.block ∧ ∀ j (hj : j < l.length), w.cell? (ad.add j) = some (bv l[j])
section
variable {S T : Nat → Prop} {w w' : World} {A : Option Addr} {l : List UInt8}
theorem RdS.nil (w : World) (S : Nat → Prop) (A : Option Addr) : RdS w S A [] := fun h => absurd h (by simp)
theorem Rd.s {B : Nat} (h : Rd w B A l) (hS : ∀ k, k < B → S k) : RdS w S A l := fun h0 => by
  obtain ⟨ad, e, hb, hc⟩ := h h0
  exact ⟨ad, e, hS _ hb, hc⟩
theorem RdS.rd {B : Nat} (h : RdS w S A l) (hS : ∀ k, S k → k < B) : Rd w B A l := fun h0 => by
  obtain ⟨ad, e, hb, hc⟩ := h h0
  exact ⟨ad, e, hS _ hb, hc⟩
theorem RdS.mono (h : RdS w S A l) (hS : ∀ k, S k → T k) : RdS w T A l := fun h0 => by
  obtain ⟨ad, e, hb, hc⟩ := h h0
  exact ⟨ad, e, hS _ hb, hc⟩
theorem RdS.frame (h : RdS w S A l) (hf : Frame S w w') : RdS w' S A l := fun h0 => by
  obtain ⟨ad, e, hb, hc⟩ := h h0
  refine ⟨ad, e, hb, fun j hj => ?_⟩
  rw [← hc j hj]
  exact World.cell?_of_block (by rw [add_block]; exact hf.block _ hb)
theorem RdS.at_ (h : RdS w S A l) {k : Nat} (hk : k < l.length) : ∃ ad, A = some ad ∧ S ad.block ∧ w.cell? (ad.add k) = some (bv l[k]) := by
  obtain ⟨ad, e, hb, hc⟩ := h (by omega)
  exact ⟨ad, e, hb, hc k hk⟩
end
/-- rows of bytes: each in a block of S, the row of rows too -/
structure Part where
  A : Option Addr
  n : Nat
  c : Nat
  l : List UInt8
def Part.val (p : Part) : Value := .slice p.A p.n p.c
structure PartsS (w : World) (S : Nat → Prop) (A : Option Addr) (ps : List Part) : Prop where
  at_ : 0 < ps.length → ∃ ad, A = some ad ∧ S ad.block ∧ ∀ j (hj : j < ps.length), w.cell? (ad.add j) = some ps[j].val
  part : ∀ p ∈ ps, p.l.length = p.n ∧ p.n ≤ p.c ∧ p.c ≤ 9223372036854775807 ∧ RdS w S p.A p.l
def bytesOf (ps : List Part) : List UInt8 := (ps.map (·.l)).flatten
theorem bytesOf_step (ps : List Part) (k : Nat) (h : k < ps.length) : bytesOf (ps.take (k+1)) = bytesOf (ps.take k) ++ ps[k].l := by
  unfold bytesOf; rw [List.take_succ_eq_append_getElem h, List.map_append, List.flatten_append]; simp
section
variable {S T : Nat → Prop} {w w' : World} {A : Option Addr} {ps : List Part}
theorem PartsS.frame (h : PartsS w S A ps) (hf : Frame S w w') : PartsS w' S A ps := by
  refine ⟨fun h0 => ?_, fun p hp => ?_⟩
  · obtain ⟨ad, e, hb, hc⟩ := h.at_ h0
    refine ⟨ad, e, hb, fun j hj => ?_⟩
    rw [← hc j hj]
    exact World.cell?_of_block (by rw [add_block]; exact hf.block _ hb)
  · obtain ⟨h1, h2, h3, h4⟩ := h.part p hp
    exact ⟨h1, h2, h3, h4.frame hf⟩
theorem PartsS.mono (h : PartsS w S A ps) (hS : ∀ k, S k → T k) : PartsS w T A ps := by
  refine ⟨fun h0 => ?_, fun p hp => ?_⟩
  · obtain ⟨ad, e, hb, hc⟩ := h.at_ h0
    exact ⟨ad, e, hS _ hb, hc⟩
  · obtain ⟨h1, h2, h3, h4⟩ := h.part p hp
    exact ⟨h1, h2, h3, h4.mono hS⟩
/-- rows written out in a new block -/
theorem parts_new {w : World} {S : Nat → Prop} (T : TypeId) (ps : List Part) (h : ∀ p ∈ ps, p.l.length = p.n ∧ p.n ≤ p.c ∧ p.c ≤ 9223372036854775807 ∧ RdS w S p.A p.l) (hS : ∀ k, S k → k < w.heap.size) {T' : Nat → Prop} (hN : T' w.heap.size) (hT : ∀ k, S k → T' k) :
    PartsS (w.alloc (.cells (ps.map Part.val).toArray T)) T' (some ⟨w.heap.size, 0, none⟩) ps := by
  refine ⟨fun _ => ⟨_, rfl, hN, fun j hj => ?_⟩, fun p hp => ?_⟩
  · rw [add_zero_block, cell_of_row _ _ j _ T (0, 0) (heap_alloc_new w _)]
    simp [hj]
  · obtain ⟨h1, h2, h3, h4⟩ := h p hp
    exact ⟨h1, h2, h3, (h4.frame ((Frame.refl S w).alloc hS _)).mono hT⟩
end
/-- a row of rows of the call's own -/
theorem own_parts {w : World} {e : TypeId} {base n c : Nat} {A : Option Addr} {S : Nat → Prop} {ps : List Part} (h : OwnV w e base (.slice A n c) (ps.map Part.val)) (hS : ∀ k, base ≤ k → k < w.heap.size → S k)
    (hp : ∀ p ∈ ps, p.l.length = p.n ∧ p.n ≤ p.c ∧ p.c ≤ 9223372036854775807 ∧ RdS w S p.A p.l) : PartsS w S A ps := by
  refine ⟨fun h0 => ?_, hp⟩
  obtain ⟨g, off, c', hv, hb, hg, _⟩ := h.at_ (i := 0) (by rw [List.length_map]; exact h0)
  injection hv with hv1 hv2 hv3
  subst hv1
  refine ⟨_, rfl, hS _ hb hg, fun j hj => ?_⟩
  obtain ⟨g', off', c'', hv', _, _, hc, _⟩ := h.at_ (i := j) (by rw [List.length_map]; exact hj)
  injection hv' with hv1 _ _
  injection hv1 with hv1
  injection hv1 with hv1 hv2
  subst hv1 hv2
  rw [addr_add, hc, List.getElem_map]
theorem ArgS {w : World} {A : Option Addr} {l : List UInt8} (h : Rd w w.heap.size A l) : RdS w (fun k => k < w.heap.size) A l := h.s (fun _ hk => hk)
end Go.Proofs.Ytcbihjcnnfohmaa
