/- Lent, Kept, Owned of the statements' own package: contracts. -/
import Derived.Test.YtcbihjcnnfohmaaRows
import Derived.Test.YtcbihjcnnfohmaaMem
import Derived.Test.YtcbihjcnnfohmaaBits
import Derived.WalkLawsBesides
import Derived.WalkSpells
namespace Go.Proofs.Ytcbihjcnnfohmaa
open Go Go.ChangeShapes Go.WideShapes Go.ChangeAt Go.RowKit
set_option linter.unusedVariables false

theorem u8 : U8 Try.prog 22 5 := ⟨Try.underlying22, Try.underlying5, by kernel_rfl⟩
theorem u8size : (Try.prog.info? 5).map (·.size) = some 1 := by kernel_rfl

set_option maxRecDepth 100000 in
set_option maxHeartbeats 400000 in
theorem lent_any (A : Option Addr) (n c : Nat) (l : List UInt8) (w : World) (B : Nat) (hB : B ≤ w.heap.size) (hn : l.length = n) (hm : n ≤ 140737488355328) (hr : Rd w B A l) :
    Calls Try.prog 19 #[.slice A n c] w fun e w' => e = .returned (.slice (some ⟨w.heap.size, 0, none⟩) n (n+1)) ∧ Row w' 5 w.heap.size (l ++ [77]) ∧ Below w.heap.size w w' := by
  subst hn
  have hr1 := hr.alloc hB (.cells (bvs (List.replicate (l.length + 1) 0)).toArray 5)
  have hrow0 := Row.new w 5 (List.replicate (l.length + 1) 0)
  have hb0 := (Below.refl w.heap.size w).alloc (Nat.le_refl _) (.cells (bvs (List.replicate (l.length + 1) 0)).toArray 5)
  have e0 : l.take l.length ++ (List.replicate (l.length + 1) (0 : UInt8)).drop (0 + min l.length l.length) = l ++ [0] := by simp
  have hfit : 0 + l.length ≤ (List.replicate (l.length + 1) (0 : UInt8)).length := by simp
  generalize hl0 : List.replicate (l.length + 1) (0 : UInt8) = Z at hr1 hrow0 hb0 e0 hfit
  have HZ := Lib.hid hl0
  have E0 := Lib.hid e0
  clear hl0 e0
  go_enter Try.func19, Try.ntmps19
  go_wp2_with (first
    | (with_reducible refine at_slot 9 ?_
       refine wpList_make_u8 u8 rfl (.tmp 5) (.tmp 8) rfl .i64 .i64 _ _ l.length (l.length + 1) rfl rfl rfl rfl (by omega) (by omega) ?_
       rw [HZ.out])
    | (with_reducible refine at_slot 12 ?_
       refine wpList_copy_u8 u8 rfl (.tmp 10) (.tmp 11) rfl w.heap.size 0 _ _ _ _ _ Z l B rfl rfl hrow0 hr1 rfl hfit ?_
       intro w2 hrow1 hg2
       rw [List.take_zero, List.nil_append, E0.out] at hrow1
       have hb2 := hb0.grown hg2 (by simp) (fun k hk => by injection hk with hk; omega)
       have hcell := hrow1.cell (i := l.length) (by simp)
       have hfr := hrow1.frozen l.length
       clear hg2))
  go_ret
  refine ⟨rfl, ?_, hb2.setCell (Nat.le_refl _) _⟩
  have := hrow1.set l.length 77
  simpa [bv] using this

theorem Row.rd_take {w : World} {e : TypeId} {g : Nat} {l r : List UInt8} (h : Row w e g (l ++ r)) : Rd w w.heap.size (some ⟨g, 0, none⟩) l := by
  have := h.rd.take l.length
  simpa using this
set_option maxRecDepth 100000 in
set_option maxHeartbeats 400000 in
theorem kept_any (A : Option Addr) (n c g : Nat) (l : List UInt8) (w : World) (B : Nat) (hn : l.length = n) (hm : n ≤ 140737488355328) (hr : Rd w B A l) (hrow : Row w 5 g (l ++ [77])) :
    Calls Try.prog 22 #[.slice (some ⟨g, 0, none⟩) n (n+1), .slice A n c] w fun e w' => e = .returned (.bool true) ∧ w = w' := by
  subst hn
  have s1 := hrow.rd_take.str u8 9 Try.underlying9 (l.length + 1)
  have s2 := hr.str u8 9 Try.underlying9 c
  have hcell := hrow.cell (i := l.length) (by simp)
  simp only [List.getElem_concat_length, bv] at hcell
  generalize str l = S at s1 s2
  go_enter Try.func22, Try.ntmps22
  go_wp2
  go_goals
  go_ret
  exact ⟨rfl, rfl⟩
end Go.Proofs.Ytcbihjcnnfohmaa
