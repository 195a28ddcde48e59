/- A slice written out, of one element of several cells. No program in sight. -/
import Derived.Test.YtcbihjcnnfohmaaWide
namespace Go.Proofs.Ytcbihjcnnfohmaa
open Go Go.RowKit
set_option linter.unusedVariables false

theorem fold_put (cs : List Value) : ∀ (o : Nat) (C : Array Value), o + cs.length ≤ C.size → ((cs.zipIdx o).foldl (fun (a : Array Value) (p : Value × Nat) => a.setIfInBounds p.2 p.1) C).toList = C.toList.take o ++ cs ++ C.toList.drop (o + cs.length) := by
  induction cs with
  | nil => intro o C h; simp
  | cons c cs ih =>
    intro o C h
    simp only [List.length_cons] at h
    rw [List.zipIdx_cons, List.foldl_cons, ih (o+1) _ (by simp; omega)]
    have ho : o < C.toList.length := by simp; omega
    simp only [Array.toList_setIfInBounds, List.length_cons]
    rw [show o + 1 + cs.length = o + (cs.length + 1) by omega, List.take_set, List.take_succ_eq_append_getElem ho, List.set_append_right _ _ (by simp; exact Nat.min_le_left _ _), List.drop_set_of_lt (by omega)]
    simp [Nat.min_eq_left (show o ≤ C.size by omega)]
theorem fill_one (cs C : Array Value) (v : Value) (hv : v.cells = cs) (hs : C.size = cs.size) : Instr.fill (fun i => some (i * cs.size, cs.size)) C [(0, v)] = some cs := by
  have h := fold_put cs.toList 0 C (by simp; omega)
  rw [List.take_zero, List.nil_append, Nat.zero_add, List.drop_eq_nil_of_le (by simp; omega), List.append_nil] at h
  unfold Instr.fill
  simp only [hv, Nat.zero_mul, Nat.zero_add, hs, ne_eq, not_true_eq_false, decide_false, Bool.false_or, gt_iff_lt, Nat.lt_irrefl, Bool.false_eq_true, if_false]
  unfold Instr.fill
  congr 1
  apply Array.toList_inj.1
  rw [← h, ← Array.foldl_toList, Array.toList_zipIdx]
theorem run_buildSlice_one {P : Program} {t e : TypeId} {z : Value} {size bytes : Nat} (hE : ElW P t e z size bytes) (hsm : size ≤ 1048576) (w : World) (cs : Array Value) (hs : cs.size = size) :
    (Instr.buildSlice t 1 #[(0, .agg cs)]).run P w = .ok (.slice (some ⟨w.heap.size, 0, none⟩) 1 1) (w.alloc (.cells cs e)) := by
  obtain ⟨i, hi, hz0, hz1, hz2⟩ := info_parts hE.info
  have hpos := hE.pos
  subst hs
  have hf := fill_one cs ((Array.range (1 * cs.size)).map (z.cells[· % z.cells.size]!)) (.agg cs) rfl (by simp)
  have h1 : ¬ (1 * cs.size > 2 ^ 24) := by omega
  have h2 : ¬ (1 * cs.size = 0) := by omega
  simp only [Nat.one_mul] at hf h1 h2
  simp [Instr.buildSlice, run_underlying hE.slice, sizeOf, typeInfo, hi, hz1, zeroValue, hz0, hf, newRow]
  rw [if_neg (by omega), if_neg (by rintro rfl; simp at hpos)]
/-- at a step of a region that draws its order -/
theorem step_buildSlice_one {P : Program} {t e : TypeId} {z : Value} {size bytes : Nat} (hE : ElW P t e z size bytes) (hsm : size ≤ 1048576) {w : World} {ops : Array Oper} {o : Oper} {a : Act} {K : Act → World → Prop} {Q : Exit → Act → World → Prop} {E : Prop}
    (hgd : Region.wanted o (yielded ops a.tmps) = true) (x : Operand) (ho : o.op = .buildSlice t 1 #[(0, x)]) (cs : Array Value) (hs : cs.size = size) (hx : a.eval x = .agg cs)
    (h : K (a.put o.dst (.slice (some ⟨w.heap.size, 0, none⟩) 1 1)) (w.alloc (.cells cs e))) : if Region.wanted o (yielded ops a.tmps) = true then Oper.wp P o a w K Q else E := by
  rw [if_pos hgd]
  have hr := run_buildSlice_one hE hsm w cs hs
  unfold Oper.wp execOp
  simp only [ho, List.map_toArray, List.map_cons, List.map_nil, hx, hr, Sem.run_bind, Sem.run_pure, Result.andThen_ok]
  exact h
end Go.Proofs.Ytcbihjcnnfohmaa
