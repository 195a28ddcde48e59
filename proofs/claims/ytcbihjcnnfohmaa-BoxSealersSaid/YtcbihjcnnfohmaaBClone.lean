/- bytes.Clone, walked: contract. -/
import Derived.Test.YtcbihjcnnfohmaaLent
import Derived.WalkSpells
namespace Go.Proofs.Ytcbihjcnnfohmaa
open Go Go.ChangeShapes Go.WideShapes Go.ChangeAt Go.RowKit
set_option linter.unusedVariables false
set_option maxRecDepth 100000 in
set_option maxHeartbeats 1000000 in
theorem bclone_any (A : Option Addr) (n c : Nat) (l : List UInt8) (w : World) (B : Nat) (hB : B ≤ w.heap.size) (hn : l.length = n) (hm : n ≤ 140737488355328) (hr : Rd w B A l) :
    Calls Try.prog 42 #[.slice A n c] w fun e w' => ∃ v, e = .returned v ∧ Own w' 5 w.heap.size v l ∧ Below w.heap.size w w' := by
  subst hn
  rcases A with _ | ad
  · have hl : l = [] := by
      rcases Nat.eq_zero_or_pos l.length with h0 | h0
      · exact List.eq_nil_of_length_eq_zero h0
      · obtain ⟨_, h', _⟩ := hr h0
        cases h'
    subst hl
    have kn := fun w' : World => Lib.run_eql_slice_nil (P := Try.prog) w' 22 5 none 0 c 0 0 Try.underlying22
    rw [List.length_nil]
    go_enter Try.func42, Try.ntmps42
    go_wp2
    go_ret
    exact ⟨_, rfl, Own.nil _ _ _, Below.refl _ _⟩
  · have kn := fun w' : World => Lib.run_eql_slice_nil (P := Try.prog) w' 22 5 (some ad) l.length c 0 0 Try.underlying22
    have hOe := own_empty 5 (Nat.le_refl w.heap.size)
    have hbe := (Below.refl w.heap.size w).alloc (Nat.le_refl _) (.cells #[] 5)
    have hre := hr.alloc hB (.cells #[] 5)
    have hse := hbe.size
    go_enter Try.func42, Try.ntmps42
    go_wp2_with (with_reducible refine at_slot 7 ?_
                 refine wpList_append_u8 u8 rfl (.tmp 5) (.tmp 6) rfl w.heap.size _ [] _ l.length c l B rfl rfl hOe hre rfl (by simp; omega) hse ?_
                 intro v2 w2 hO2 hg2 hat2)
    go_ret
    rw [List.nil_append] at hO2
    exact ⟨v2, rfl, hO2, below_grown hbe hg2 hse hOe (Nat.le_refl _)⟩
end Go.Proofs.Ytcbihjcnnfohmaa
