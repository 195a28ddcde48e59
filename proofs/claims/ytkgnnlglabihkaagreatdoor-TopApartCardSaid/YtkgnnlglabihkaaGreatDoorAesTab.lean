/- The byte maps as tables: the program's, filled in order, and the document's, along the powers of 3. No program in sight. -/
import Derived.Test.YtkgnnlglabihkaaGreatDoorAesPlain
namespace Go.Proofs.YtkgnnlglabihkaaGreatDoor.Aes
open Go Go.Proofs.YtkgnnlglabihkaaGreatDoor.Fld
set_option linter.unusedVariables false
set_option linter.unusedSimpArgs false

def sbs : List UInt8 := (List.range 256).map fun i => UInt8.ofNat (box i)
def uss : List UInt8 := (List.range 256).map fun i => UInt8.ofNat (unbox i)
theorem sbs_length : sbs.length = 256 := by simp [sbs]
theorem uss_length : uss.length = 256 := by simp [uss]
theorem sbs_at (x : UInt8) : sbs[x.toNat]? = some (sb x) := by
  have h := x.toNat_lt
  simp [sbs, sb, h]
theorem uss_at (x : UInt8) : uss[x.toNat]? = some (us x) := by
  have h := x.toNat_lt
  simp [uss, us, h]
/-- the map, filled up to i -/
def bx (i : Nat) : List UInt8 := ((List.range i).map fun j => UInt8.ofNat (box j)) ++ List.replicate (256 - i) 0
theorem bx_length {i : Nat} (h : i ≤ 256) : (bx i).length = 256 := by unfold bx; rw [List.length_append, List.length_map, List.length_range, List.length_replicate]; omega
theorem bx_zero : bx 0 = List.replicate 256 0 := rfl
theorem bx_all : bx 256 = sbs := by unfold bx sbs; rw [Nat.sub_self, List.replicate_zero, List.append_nil]
theorem bx_set {i : Nat} (h : i < 256) : (bx i).set i (UInt8.ofNat (box i)) = bx (i + 1) := by
  unfold bx
  rw [List.set_append_right _ _ (by simp), List.length_map, List.length_range, Nat.sub_self, show 256 - i = (256 - (i + 1)) + 1 by omega, List.replicate_succ, List.set_cons_zero, List.range_succ, List.map_append, List.append_assoc]
  rfl
/-- the way back, filled up to i -/
def ux : Nat → List UInt8
  | 0 => List.replicate 256 0
  | i+1 => (ux i).set (box i) (UInt8.ofNat i)
theorem ux_length : ∀ i, (ux i).length = 256
  | 0 => List.length_replicate
  | i+1 => by rw [ux, List.length_set, ux_length i]
theorem ux_at : ∀ (n : Nat), n ≤ 256 → ∀ j, j < n → (ux n)[box j]? = some (UInt8.ofNat j)
  | 0, _, j, h => absurd h (by omega)
  | n+1, hn, j, h => by
    rw [ux, List.getElem?_set]
    by_cases e : box n = box j
    · rw [if_pos e, if_pos (by rw [ux_length]; exact box_lt _ (by omega)), (box_inj n j (by omega) (by omega)).1 e]
    · rw [if_neg e]; exact ux_at n (by omega) j (by rcases Nat.lt_or_ge j n with h' | h'; exact h'; exact absurd (by rw [show j = n by omega]) e)
theorem ux_all : ux 256 = uss := by
  apply List.ext_getElem?
  intro i
  rcases Nat.lt_or_ge i 256 with h | h
  · have hb := box_unbox i h
    have := ux_at 256 (by omega) (unbox i) (unbox_lt _ h)
    rw [hb] at this
    rw [this]; simp [uss, h]
  · rw [List.getElem?_eq_none (by rw [ux_length]; exact h), List.getElem?_eq_none (by rw [uss_length]; exact h)]
/-- the document's map, along the powers of 3 -/
def tab : Nat → List Nat × Nat × Nat
  | 0 => ((List.replicate 256 0).set 0 99, 1, 1)
  | k+1 => ((tab k).1.set (tab k).2.1 (refaff (tab k).2.2), gm (tab k).2.1 3, gm (tab k).2.2 246)
theorem tab_size : ∀ k, (tab k).1.length = 256 ∧ (tab k).2.1 < 256 ∧ (tab k).2.2 < 256
  | 0 => ⟨by show ((List.replicate 256 0).set 0 99).length = 256; rw [List.length_set, List.length_replicate], by show 1 < 256; omega, by show 1 < 256; omega⟩
  | k+1 => by
    obtain ⟨h1, h2, h3⟩ := tab_size k
    exact ⟨by rw [tab, List.length_set, h1], gm_lt _ _ h2, gm_lt _ _ h3⟩
def go3 : Nat → List Nat → Nat → Nat → List Nat
  | 0, l, _, _ => l
  | k+1, l, x, i => go3 k (l.set x (refaff i)) (gm x 3) (gm i 246)
theorem go3_tab : ∀ k n, go3 k (tab n).1 (tab n).2.1 (tab n).2.2 = (tab (n + k)).1
  | 0, n => rfl
  | k+1, n => by
    rw [go3]
    have := go3_tab k (n+1)
    rw [show n + (k + 1) = n + 1 + k by omega, ← this]; rfl
theorem go3_all : go3 255 ((List.replicate 256 0).set 0 99) 1 1 = (List.range 256).map fun a => aff (chain a) := by decide +kernel
theorem tab_all : (tab 255).1.map UInt8.ofNat = sbs := by
  have h := go3_tab 255 0
  rw [Nat.zero_add] at h
  rw [← h]
  show (go3 255 ((List.replicate 256 0).set 0 99) 1 1).map UInt8.ofNat = sbs
  rw [go3_all, List.map_map]
  unfold sbs
  apply List.map_congr_left
  intro a ha
  show UInt8.ofNat (aff (chain a)) = _
  rw [← gpow_254 a (by simpa using ha)]; rfl
end Go.Proofs.YtkgnnlglabihkaaGreatDoor.Aes
