/- Rows of bytes of the call's own, each in a block of its own. No program in sight. -/
import Derived.Test.YtcbihjcnnfohmaaFrame
import Derived.Test.YtcbihjcnnfohmaaWide
namespace Go.Proofs.Ytcbihjcnnfohmaa
open Go Go.RowKit
set_option linter.unusedVariables false

structure Rws (w : World) (tb e : TypeId) (base : Nat) (v : Value) (vs : List Value) (ls : List (List UInt8)) : Prop where
  own : OwnV w tb base v vs
  len : vs.length = ls.length
  row : ∀ (i : Nat) (x : Value) (l : List UInt8), vs[i]? = some x → ls[i]? = some l → Own w e base x l
  off : ∀ (i : Nat) (x : Value) (k : Nat), vs[i]? = some x → x.ownBlock = some k → v.ownBlock ≠ some k
  ord : ∀ (i j : Nat) (x y : Value) (k m : Nat), i < j → vs[i]? = some x → vs[j]? = some y → x.ownBlock = some k → y.ownBlock = some m → k < m
section
variable {w w' : World} {tb e : TypeId} {base : Nat} {v : Value} {vs : List Value} {ls : List (List UInt8)}
theorem Rws.nil (w : World) (tb e : TypeId) (base : Nat) : Rws w tb e base (.slice none 0 0) [] [] :=
  ⟨OwnV.nil _ _ _, rfl, fun i x l h => by simp at h, fun i x k h => by simp at h, fun i j x y k m _ h => by simp at h⟩
theorem Rws.lt (h : Rws w tb e base v vs ls) : ∀ (i : Nat) (x : Value) (k : Nat), vs[i]? = some x → x.ownBlock = some k → base ≤ k ∧ k < w.heap.size := fun i x k hx hk => by
  have hi := (List.getElem?_eq_some_iff.1 hx).1
  exact Own.lt (h.row i x _ hx (List.getElem?_eq_getElem (by rw [← h.len]; exact hi))) k hk
/-- the blocks of it -/
def Rws.In (v : Value) (vs : List Value) (k : Nat) : Prop := v.ownBlock = some k ∨ ∃ (i : Nat) (x : Value), vs[i]? = some x ∧ x.ownBlock = some k
theorem Rws.keep (h : Rws w tb e base v vs ls) (hk : ∀ k, Rws.In v vs k → w'.heap[k]? = w.heap[k]?) : Rws w' tb e base v vs ls :=
  ⟨h.own.keep fun k hb => hk k (Or.inl hb), h.len, fun i x l hx hl => roww_keep (h.row i x l hx hl) fun k hb => hk k (Or.inr ⟨i, x, hx, hb⟩), h.off, h.ord⟩
theorem Rws.inlt (h : Rws w tb e base v vs ls) : ∀ k, Rws.In v vs k → base ≤ k ∧ k < w.heap.size := fun k hk => by
  rcases hk with hk | ⟨i, x, hx, hk⟩
  · exact h.own.lt k hk
  · exact h.lt i x k hx hk
theorem Rws.frame {S : Nat → Prop} (h : Rws w tb e base v vs ls) (hf : Frame S w w') (hS : ∀ k, Rws.In v vs k → S k) : Rws w' tb e base v vs ls := h.keep fun k hk => hf.block k (hS k hk)
theorem Rws.below_ (h : Rws w tb e base v vs ls) (hb : Below w.heap.size w w') : Rws w' tb e base v vs ls := h.keep fun k hk => hb.block k (h.inlt k hk).2
/-- one row more -/
theorem Rws.push (h : Rws w tb e base v vs ls) {v' x : Value} {l : List UInt8} (hF : Frame (fun k => k < w.heap.size ∧ v.ownBlock ≠ some k) w w') (hO : OwnV w' tb base v' (vs ++ [x]))
    (hv : v'.ownBlock = v.ownBlock ∨ ∃ b, v'.ownBlock = some b ∧ w.heap.size ≤ b) (hx : Own w' e base x l) (hn : ∀ k, x.ownBlock = some k → w.heap.size ≤ k ∧ v'.ownBlock ≠ some k) : Rws w' tb e base v' (vs ++ [x]) (ls ++ [l]) := by
  have hlt : ∀ (i : Nat) (y : Value), (vs ++ [x])[i]? = some y → (vs[i]? = some y ∧ i < vs.length) ∨ (i = vs.length ∧ y = x) := fun i y hy => by
    rcases Nat.lt_or_ge i vs.length with hi | hi
    · rw [List.getElem?_append_left hi] at hy; exact .inl ⟨hy, hi⟩
    · rw [List.getElem?_append_right hi] at hy
      have h0 : i - vs.length = 0 := by
        rcases Nat.lt_or_ge (i - vs.length) 1 with h' | h'
        · omega
        · rw [List.getElem?_eq_none (by simpa using h')] at hy; cases hy
      rw [h0] at hy
      injection hy with hy
      exact .inr ⟨by omega, hy.symm⟩
  refine ⟨hO, by rw [List.length_append, List.length_append, h.len]; rfl, fun i y m hy hm => ?_, fun i y k hy hk => ?_, fun i j y z k m hij hy hz hk hm => ?_⟩
  · rcases hlt i y hy with ⟨hy, hi⟩ | ⟨rfl, rfl⟩
    · rw [List.getElem?_append_left (by rw [← h.len]; exact hi)] at hm
      exact roww_keep (h.row i y m hy hm) fun k hk => hF.block k ⟨(h.lt i y k hy hk).2, h.off i y k hy hk⟩
    · rw [h.len, List.getElem?_append_right (Nat.le_refl _), Nat.sub_self] at hm
      injection hm with hm
      subst hm
      exact hx
  · rcases hlt i y hy with ⟨hy, hi⟩ | ⟨rfl, rfl⟩
    · rcases hv with hv | ⟨b, hb, hb'⟩
      · rw [hv]; exact h.off i y k hy hk
      · rw [hb]; intro e; injection e with e; have := (h.lt i y k hy hk).2; omega
    · exact (hn k hk).2
  · rcases hlt j z hz with ⟨hz, hj⟩ | ⟨rfl, rfl⟩
    · rcases hlt i y hy with ⟨hy, _⟩ | ⟨rfl, _⟩
      · exact h.ord i j y z k m hij hy hz hk hm
      · omega
    · rcases hlt i y hy with ⟨hy, _⟩ | ⟨rfl, _⟩
      · have h1 := (h.lt i y k hy hk).2
        have h2 := (hn m hm).1
        omega
      · omega
/-- a row, as it lies -/
theorem Rws.at_ (h : Rws w tb e base v vs ls) {i : Nat} {l : List UInt8} (hl : ls[i]? = some l) : ∃ A c, vs[i]? = some (.slice A l.length c) ∧ Rd w w.heap.size A l ∧ l.length ≤ c := by
  have hi : i < vs.length := by rw [h.len]; exact (List.getElem?_eq_some_iff.1 hl).1
  obtain ⟨A, c, he, hr, hc⟩ := (h.row i _ l (List.getElem?_eq_getElem hi) hl).form
  exact ⟨A, c, by rw [List.getElem?_eq_getElem hi, he], hr, hc⟩
end
end Go.Proofs.Ytcbihjcnnfohmaa
