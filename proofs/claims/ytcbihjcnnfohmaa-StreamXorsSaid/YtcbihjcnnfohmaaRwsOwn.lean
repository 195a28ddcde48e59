/- A row of rows of the call's own is what Owned asks for; what Owned leaves as it was. -/
import Derived.Test.YtcbihjcnnfohmaaOwned
import Derived.Test.YtcbihjcnnfohmaaRws
import Derived.Test.YtcbihjcnnfohmaaKeep
namespace Go.Proofs.Ytcbihjcnnfohmaa
open Go Go.RowKit
set_option linter.unusedVariables false
def toO : Value → ORow
  | .slice A n c => ⟨A.map (·.block), n, c⟩
  | _ => ⟨none, 0, 0⟩
theorem toO_own {w : World} {base : Nat} {x : Value} {l : List UInt8} (h : Own w 5 base x l) : x = (toO x).val ∧ RowIn w (toO x) base w.heap.size ∧ x.ownBlock = (toO x).a := by
  rcases h.2 with ⟨rfl, h0⟩ | ⟨g, cap, cur, rfl, hb, hh, hnc, hcm, hs, _⟩
  · exact ⟨rfl, ⟨⟨Nat.le_refl _, (by show 0 ≤ 9223372036854775807; omega), fun _ => ⟨rfl, rfl⟩⟩, fun g hg => by cases hg⟩, rfl⟩
  · refine ⟨rfl, ⟨⟨hnc, by simp only [maxLen] at hcm; exact hcm, fun hn => by cases hn⟩, fun g' hg' => ?_⟩, rfl⟩
    injection hg' with hg'
    subst hg'
    exact ⟨hb, (Array.getElem?_eq_some_iff.1 hh).1, cur, hh, by show cur.size = cap; simpa using hs⟩
theorem owns_rws {w : World} {tb : TypeId} {base : Nat} {Ao : Option Addr} {i co : Nat} {vs : List Value} {ls : List (List UInt8)} (hR : Rws w tb 5 base (.slice Ao i co) vs ls) :
    Owns w Ao (vs.map toO) ∧ ∀ r ∈ vs.map toO, ∀ g, r.a = some g → Rws.In (.slice Ao i co) vs g := by
  have hat : ∀ (j : Nat) (hj : j < vs.length), vs[j] = (toO vs[j]).val ∧ RowIn w (toO vs[j]) base w.heap.size ∧ vs[j].ownBlock = (toO vs[j]).a := fun j hj =>
    toO_own (hR.row j _ _ (List.getElem?_eq_getElem hj) (List.getElem?_eq_getElem (by rw [← hR.len]; exact hj)))
  have hmem : ∀ r ∈ vs.map toO, ∃ (j : Nat) (hj : j < vs.length), r = toO vs[j] := fun r hr => by
    obtain ⟨x, hx, rfl⟩ := List.mem_map.1 hr
    obtain ⟨j, hj, rfl⟩ := List.getElem_of_mem hx
    exact ⟨j, hj, rfl⟩
  refine ⟨⟨fun h0 => ?_, fun r hr => ?_, fun a b ha hb g hab h1 h2 => ?_, fun r hr g hg => ?_⟩, fun r hr g hg => ?_⟩
  · rw [List.length_map] at h0
    obtain ⟨g, off, c, hv, hgb, hgl, _⟩ := hR.own.at_ h0
    injection hv with h1 h2 h3
    refine ⟨⟨g, off, none⟩, h1, fun j hj => ?_, fun r hr hg => ?_⟩
    · have hj' : j < vs.length := by simpa using hj
      obtain ⟨g2, off2, c2, hv2, _, _, hcell, _⟩ := hR.own.at_ hj'
      injection hv2 with h4 h5 h6
      have h7 := h1.symm.trans h4
      injection h7 with h7
      rw [h7, addr_add, hcell, List.getElem_map, ← (hat j hj').1]
    · obtain ⟨j, hj, rfl⟩ := hmem r hr
      have := hR.off j _ g (List.getElem?_eq_getElem hj) ((hat j hj).2.2.trans hg)
      exact this (by rw [h1]; rfl)
  · obtain ⟨j, hj, rfl⟩ := hmem r hr
    exact (hat j hj).2.1.fit
  · have ha' : a < vs.length := by simpa using ha
    have hb' : b < vs.length := by simpa using hb
    rw [List.getElem_map] at h1 h2
    have k1 := (hat a ha').2.2.trans h1
    have k2 := (hat b hb').2.2.trans h2
    rcases Nat.lt_or_gt_of_ne hab with hlt | hlt
    · exact Nat.lt_irrefl _ (hR.ord a b _ _ g g hlt (List.getElem?_eq_getElem ha') (List.getElem?_eq_getElem hb') k1 k2)
    · exact Nat.lt_irrefl _ (hR.ord b a _ _ g g hlt (List.getElem?_eq_getElem hb') (List.getElem?_eq_getElem ha') k2 k1)
  · obtain ⟨j, hj, rfl⟩ := hmem r hr
    obtain ⟨_, _, cur, h3, h4⟩ := (hat j hj).2.1.own g hg
    exact ⟨cur, h3, h4⟩
  · obtain ⟨j, hj, rfl⟩ := hmem r hr
    exact .inr ⟨j, _, List.getElem?_eq_getElem hj, (hat j hj).2.2.trans hg⟩
theorem Inv.frame {w wr : World} {rs : List ORow} {f : Nat → Nat → Prop} (h : Inv w rs f wr) {S : Nat → Prop} (hS : ∀ r ∈ rs, ∀ g, r.a = some g → ¬ S g) : Frame S w wr :=
  ⟨h.os, h.tape, h.output, by rw [h.size]; exact Nat.le_refl _, fun k hk => h.far k (fun r hr hg => hS r hr k hg hk)⟩
end Go.Proofs.Ytcbihjcnnfohmaa
