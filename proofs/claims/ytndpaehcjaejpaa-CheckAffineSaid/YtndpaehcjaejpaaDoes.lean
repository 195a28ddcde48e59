/- The law of facts, made ready for walks: the operations waited for are written out. No program in sight. -/
import Derived.Test.YtndpaehcjaejpaaFacts
import Derived.Test.YtndpaehcjaejpaaFrame
import Derived.Deep.RegionHeld3
namespace Go.Proofs.Ytndpaehcjaejpaa
open Go Go.RowKit
set_option linter.unusedVariables false

abbrev FF := Value → World → Prop
/-- what stood stands; there may be new blocks -/
def Grows (w w' : World) : Prop := Below w.heap.size w w'
theorem Grows.refl (w : World) : Grows w w := Below.refl _ _
theorem Grows.trans {w w' w'' : World} (h : Grows w w') (h' : Grows w' w'') : Grows w w'' := Below.trans h (h'.mono h.size)
def Stable (p : FF) : Prop := ∀ v w w', p v w → Grows w w' → p v w'
def FAny : FF := fun _ _ => True
def FVal (x : Value) : FF := fun v _ => v = x
/-- a slice that reads as these bytes -/
def FRd (n : Nat) (l : List UInt8) : FF := fun v w => ∃ A c, v = .slice A n c ∧ l.length = n ∧ n ≤ c ∧ Rd w w.heap.size A l
/-- rows, written out -/
def FParts (n c : Nat) (ps : List Part) : FF := fun v w => ∃ A, v = .slice A n c ∧ ps.length = n ∧ PartsS w (fun k => k < w.heap.size) A ps
theorem stable_any : Stable FAny := fun _ _ _ _ _ => trivial
theorem stable_val (x : Value) : Stable (FVal x) := fun _ _ _ h _ => h
theorem stable_rd (n : Nat) (l : List UInt8) : Stable (FRd n l) := fun v w w' ⟨A, c, h1, h2, h3, h4⟩ hg => ⟨A, c, h1, h2, h3, (h4.below hg).more hg.size⟩
theorem stable_parts (n c : Nat) (ps : List Part) : Stable (FParts n c ps) := fun v w w' ⟨A, h1, h2, h3⟩ hg => ⟨A, h1, h2, (h3.frame (Frame.of_below hg (fun k hk => hk))).mono (fun k hk => Nat.lt_of_lt_of_le hk hg.size)⟩
def factOf (Fs : List FF) (i : Nat) : FF := Fs.getD i FAny
theorem stable_of {Fs : List FF} (h : ∀ p ∈ Fs, Stable p) (i : Nat) : Stable (factOf Fs i) := by
  unfold factOf
  rw [List.getD_eq_getElem?_getD]
  rcases Nat.lt_or_ge i Fs.length with hi | hi
  · rw [List.getElem?_eq_getElem hi]; exact h _ (List.getElem_mem hi)
  · rw [List.getElem?_eq_none hi]; exact stable_any

section
variable {P : Program} {ops : Array Oper} {Q : Exit → Act → World → Prop}
/-- the frame, with these values: numbers of operations, and their slots -/
def putPs (u : Nat → Value) : List (Nat × Option Tmp) → Act → Act
  | [], a => a
  | p :: l, a => putPs u l (a.put p.2 (u p.1))
def AllF (Fs : List FF) (u : Nat → Value) (w : World) : List (Nat × Option Tmp) → Prop
  | [] => True
  | p :: l => factOf Fs p.1 (u p.1) w ∧ AllF Fs u w l
def pairsOk (ops : Array Oper) (l : List Nat) (ps : List (Nat × Option Tmp)) : Bool := l == ps.map (·.1) && ps.all fun p => dstOf ops p.1 == p.2
theorem putPs_all (u : Nat → Value) : ∀ (ps : List (Nat × Option Tmp)) (a : Act), (ps.all fun p => dstOf ops p.1 == p.2) = true → putAll ops u (ps.map (·.1)) a = putPs u ps a
  | [], a, _ => rfl
  | p :: l, a, h => by
    simp only [List.all_cons, Bool.and_eq_true, beq_iff_eq] at h
    show putAll ops u (l.map (·.1)) (a.put (dstOf ops p.1) (u p.1)) = putPs u l (a.put p.2 (u p.1))
    rw [h.1]
    exact putPs_all u l _ h.2
theorem allF_of {Fs : List FF} {u : Nat → Value} {w : World} : ∀ (ps : List (Nat × Option Tmp)), (∀ j ∈ ps.map (·.1), factOf Fs j (u j) w) → AllF Fs u w ps
  | [], _ => trivial
  | p :: l, h => ⟨h p.1 (by simp), allF_of l fun j hj => h j (by simp only [List.map_cons]; exact List.mem_cons_of_mem _ hj)⟩
theorem does_mk {Fs : List FF} {left : List Nat} {a0 : Act} {w0 : World} {i : Nat} {o : Oper} (ps : List (Nat × Option Tmp)) (ho : ops[i]? = some o) (hps : pairsOk ops (waits .any ops left i) ps = true)
    (h : ∀ (u : Nat → Value) (w : World), Grows w0 w → AllF Fs u w ps →
      if Region.wanted o (yielded ops (putPs u ps a0).tmps) = true
      then ∀ K : Act → World → Prop, Shut (∀ v a' w', a' = (putPs u ps a0).put o.dst v → factOf Fs i (keepV o v) w' → Grows w w' → K a' w') → o.wp P (putPs u ps a0) w K NoQ
      else factOf Fs i undef w) :
    Does P .any ops left Grows (factOf Fs) a0 w0 i := by
  intro o' ho' u w hR hf
  rw [ho] at ho'
  injection ho' with ho'
  subst ho'
  unfold pairsOk at hps
  simp only [Bool.and_eq_true, beq_iff_eq] at hps
  obtain ⟨h1, h2⟩ := hps
  rw [h1] at hf ⊢
  rw [putPs_all u ps a0 h2]
  have := h u w hR (allF_of ps hf)
  split
  · rename_i hw
    rw [if_pos hw] at this
    exact this _ (fun v a' w' e h1 h2 => ⟨v, e, h1, h2⟩)
  · rename_i hw
    rw [if_neg hw] at this
    exact this
/-- the region -/
theorem wp_region_facts {id : Nat} {a0 : Act} {w : World} (Fs : List FF) (left : List Nat) (ps : List (Nat × Option Tmp)) (hm : P.follows .mixedOrders = true) (hl : left = List.range ops.size)
    (hn : neat .any ops left (Array.replicate ops.size false) a0.tmps.size = true) (hps : pairsOk ops left ps = true) (hs : ∀ p ∈ Fs, Stable p)
    (hdo : ∀ i ∈ left, Does P .any ops left Grows (factOf Fs) a0 w.drew i)
    (hend : ∀ (u : Nat → Value) (w' : World), Grows w.drew w' → AllF Fs u w' ps → Q .normal (putPs u ps a0) w') : (Code.region id ops true).wp P Q a0 w := by
  refine wp_region_any hm ?_
  unfold pairsOk at hps
  simp only [Bool.and_eq_true, beq_iff_eq] at hps
  obtain ⟨h1, h2⟩ := hps
  refine wpAny_facts (md := .any) Grows (factOf Fs) hn Grows.refl (fun _ _ _ => Grows.trans) (fun i v w w' h hg => stable_of hs i v w w' h hg) hdo (fun u w' hR hf => ?_) _ ?_
  · rw [h1] at hf ⊢
    rw [putPs_all u ps a0 h2]
    exact hend u w' hR (allF_of ps hf)
  · unfold unlisted
    refine Nat.le_trans (List.length_filter_le _ _) ?_
    simp
end
end Go.Proofs.Ytndpaehcjaejpaa
