/- bytes.Clone, bytes.Equal over the shelf's contracts, in this seat's words. -/
import Derived.Test.YtndpaehcjaejpaaLent
import Derived.Test.YtndpaehcjaejpaaShelf
namespace Go.Proofs.Ytndpaehcjaejpaa
open Go Go.ChangeShapes Go.WideShapes Go.ChangeAt Go.RowKit
set_option linter.unusedVariables false

theorem nums_getD {l : List UInt8} {j : Nat} (h : j < l.length) : (nums l).getD j 0 = ((l[j].toNat : Nat) : Int) := by simp [nums, List.getD, h]
theorem clone_any (A : Option Addr) (n c : Nat) (l : List UInt8) (w : World) (B : Nat) (hn : l.length = n) (hm : n ≤ 140737488355328) (hr : Rd w B A l) :
    Calls Try.prog 22 #[.slice A n c] w fun e w' => ∃ v, e = .returned v ∧ Own w' 5 w.heap.size v l ∧ Below w.heap.size w w' := by
  subst hn
  rcases A with _ | ad
  · have hl : l = [] := by
      rcases Nat.eq_zero_or_pos l.length with h0 | h0
      · exact List.eq_nil_of_length_eq_zero h0
      · obtain ⟨_, h', _⟩ := hr h0
        cases h'
    subst hl
    refine (Try.bytes_Clone_nil _ c w).mono ?_
    rintro e w' ⟨rfl, rfl⟩
    exact ⟨_, rfl, Own.nil _ _ _, Below.refl _ _⟩
  · refine (Try.bytes_Clone_at ad l.length c (nums l) w (nums_length l) hm (fun j hj => ?_)).mono ?_
    · obtain ⟨ad', he, _, hc⟩ := hr (by omega)
      injection he with he
      subst he
      rw [hc j hj, nums_getD hj]
      rfl
    · rintro e w' ⟨v', rfl, ho, _, hb⟩
      exact ⟨v', rfl, by rw [nums_vals] at ho; exact ho, hb⟩
/-- two rows of bytes held against each other -/
theorem bytes_eq {w : World} {B B' : Nat} {A A' : Option Addr} {l l' : List UInt8} (h : Rd w B A l) (h' : Rd w B' A' l') (n c n' c' : Nat) (hn : l.length = n) (hn' : l'.length = n') :
    Calls Try.prog 21 #[.slice A n c, .slice A' n' c'] w fun e w' => e = .returned (.bool (l == l')) ∧ w = w' := by
  subst hn hn'
  refine (Try.bytes_Equal_strs _ _ (str l) (str l') w (h.str u8 9 Try.underlying9 c) (h'.str u8 9 Try.underlying9 c')).mono ?_
  rintro e w' ⟨rfl, rfl⟩
  refine ⟨?_, rfl⟩
  have : ∀ a : List UInt8, (str a).toList = a := fun a => by simp [str, ByteArray.toList_eq]
  rw [this, this]
end Go.Proofs.Ytndpaehcjaejpaa
