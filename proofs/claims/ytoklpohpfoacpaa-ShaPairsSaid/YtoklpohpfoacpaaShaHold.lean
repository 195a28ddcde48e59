/- A digest that goes on, beside all that was written to it: what is kept from call to call. -/
import Derived.Test.YtoklpohpfoacpaaShaTop
import Derived.Test.YtoklpohpfoacpaaShaRefSum
import Derived.Test.YtoklpohpfoacpaaOwned
import Derived.Test.YtoklpohpfoacpaaArgR
namespace Go.Proofs.Ytoklpohpfoacpaa.Sha
open Go Go.ChangeShapes Go.WideShapes Go.ChangeAt Go.RowKit
set_option linter.unusedVariables false

theorem sha_len (l : List UInt8) : (sha l).length = 32 := by
  unfold sha
  obtain ⟨a, b, c, d, e, f, g, i, h, _⟩ := (blocks_eight ((padded l).length / 64) hw_eight (padded l)).parts
  rw [h]; rfl
structure Held (w0 w : World) (g : Nat) (rv v : Value) (LH LA : List UInt8) : Prop where
  hst : Hst w w0.heap.size g rv LH (LH.length / 64) LH.length
  own : OwnV w 5 w0.heap.size v (bvs LA)
  ng : v.ownBlock ≠ some g
  nr : ∀ k, v.ownBlock = some k → rv.ownBlock ≠ some k
def Fp (g : Nat) (rv v : Value) (k : Nat) : Prop := k = g ∨ rv.ownBlock = some k ∨ v.ownBlock = some k
section
variable {w0 w w' : World} {g : Nat} {rv v rv' v' : Value} {LH LA LH' LA' : List UInt8}
theorem Held.lt (h : Held w0 w g rv v LH LA) {k : Nat} (hk : Fp g rv v k) : w0.heap.size ≤ k ∧ k < w.heap.size := by
  rcases hk with rfl | hk | hk
  · exact ⟨h.hst.hb, h.hst.row.lt⟩
  · exact h.hst.own.lt k hk
  · exact h.own.lt k hk
theorem Held.frame {S : Nat → Prop} (h : Held w0 w g rv v LH LA) (hf : Frame S w w') (hS : ∀ k, Fp g rv v k → S k) : Held w0 w' g rv v LH LA :=
  ⟨h.hst.frame hf (hS g (.inl rfl)) (fun k hk => hS k (.inr (.inl hk))), hf.own h.own (fun k hk => hS k (.inr (.inr hk))), h.ng, h.nr⟩
theorem Held.below_ (h : Held w0 w g rv v LH LA) (hb : Below w.heap.size w w') : Held w0 w' g rv v LH LA :=
  h.frame (Frame.of_below hb (fun k hk => hk)) (fun k hk => (h.lt hk).2)
theorem Held.write (h : Held w0 w g rv v LH LA) (hH : Hst w' w0.heap.size g rv' LH' (LH'.length / 64) LH'.length) (hnew : ∀ x, rv'.ownBlock = some x → w.heap.size ≤ x) (hF : Frame (Far w g rv) w w') : Held w0 w' g rv' v LH' LA := by
  refine ⟨hH, hF.own h.own (fun k hk => ⟨(h.own.lt k hk).2, fun e => h.ng (by rw [hk, e]), h.nr k hk⟩), h.ng, fun k hk e => ?_⟩
  have h1 := hnew k e
  have h2 := (h.own.lt k hk).2
  omega
theorem Held.app (h : Held w0 w g rv v LH LA) (hO : OwnV w' 5 w0.heap.size v' (bvs LA')) (hg : w.grownBy w' v.ownBlock) (hat : v'.ownBlock = v.ownBlock ∨ v'.ownBlock = some w.heap.size) : Held w0 w' g rv v' LH LA' := by
  have hf : Frame (fun k => k < w.heap.size ∧ some k ≠ v.ownBlock) w w' := Frame.of_grown hg (fun k hk => hk)
  have hgl := h.hst.row.lt
  refine ⟨h.hst.frame hf ⟨hgl, fun e => h.ng e.symm⟩ (fun k hk => ⟨(h.hst.own.lt k hk).2, fun e => h.nr k e.symm hk⟩), hO, fun e => ?_, fun k hk e => ?_⟩
  · rcases hat with h1 | h1
    · exact h.ng (h1.symm.trans e)
    · rw [h1] at e; injection e with e; omega
  · rcases hat with h1 | h1
    · exact h.nr k (h1.symm.trans hk) e
    · rw [h1] at hk; injection hk with hk; have := (h.hst.own.lt k e).2; omega
/-- what another one sees of it -/
theorem other_app {S : Nat → Prop} (hg : w.grownBy w' v.ownBlock) (hS : ∀ k, S k → k < w.heap.size ∧ v.ownBlock ≠ some k) : Frame S w w' := Frame.of_grown hg (fun k hk => ⟨(hS k hk).1, fun e => (hS k hk).2 e.symm⟩)
theorem Held.new (hr : RowV w 51 g (u32s hw ++ [.slice none 0 0, .int .i64 0])) (hb : w0.heap.size ≤ g) : Held w0 w g (.slice none 0 0) (.slice none 0 0) [] [] :=
  ⟨Hst.new hr hb, OwnV.nil _ _ _, (fun e => by cases e), fun k hk => by cases hk⟩
end
/-- what is behind Owned -/
theorem inv_frame {w w' : World} {rs : List ORow} {f : Nat → Nat → Prop} (h : Inv w rs f w') : Frame (fun k => k < w.heap.size ∧ ∀ r ∈ rs, r.a ≠ some k) w w' :=
  ⟨h.os, h.tape, h.output, by rw [h.size]; exact Nat.le_refl _, fun k hk => h.far k hk.2⟩
/-- one part in a row of its own -/
theorem one_far {w1 : World} {g g1 n m : Nat} {rv : Value} {l : List UInt8} {T : TypeId} (hrow : Row w1 5 g1 (l ++ [77])) (hl : l.length = n) (hm : n + 1 = m) (hx : m ≤ 9223372036854775807) (hg : g1 ≠ g) (hr : rv.ownBlock ≠ some g1) (hgl : g < w1.heap.size) (hrl : ∀ k, rv.ownBlock = some k → k < w1.heap.size) :
    PartsS (w1.alloc (.cells #[.slice (some ⟨g1, 0, none⟩) n m] T)) (Far (w1.alloc (.cells #[.slice (some ⟨g1, 0, none⟩) n m] T)) g rv) (some ⟨w1.heap.size, 0, none⟩) [(⟨some ⟨g1, 0, none⟩, n, m, l⟩ : Part)] := by
  have hlt := hrow.lt
  refine parts_new (w := w1) (S := fun k => k = g1) T [(⟨some ⟨g1, 0, none⟩, n, m, l⟩ : Part)] (fun p hp => ?_) (fun k hk => by rw [hk]; exact hlt) ⟨by simp, fun e => by omega, fun e => by have := hrl _ e; omega⟩ (fun k hk => ⟨by rw [hk]; simp; omega, by rw [hk]; exact hg, by rw [hk]; exact hr⟩)
  simp only [List.mem_singleton] at hp
  subst hp
  refine ⟨hl, (by show n ≤ m; omega), hx, fun h0 => ?_⟩
  obtain ⟨ad, e1, _, e2⟩ := hrow.rd_take h0
  injection e1 with e1
  subst e1
  exact ⟨_, rfl, rfl, e2⟩
/-- Owned of one row -/
theorem owns_one {w : World} {r : ORow} {lo hi : Nat} (T : TypeId) (h : RowIn w r lo hi) (hh : hi ≤ w.heap.size) : Owns (w.alloc (.cells #[r.val] T)) (some ⟨w.heap.size, 0, none⟩) [r] := by
  have := owns_new (w := w) T [(r, lo, hi)] (by intro x hx; simp only [List.mem_singleton] at hx; subst hx; exact ⟨h, hh⟩) (by simp)
  simpa using this
/-- two digests that do not hear each other -/
structure Two (w0 w : World) (g : Nat) (rg x : Value) (A B : List UInt8) (h : Nat) (rh y : Value) (C D : List UInt8) : Prop where
  one : Held w0 w g rg x A B
  two : Held w0 w h rh y C D
  apart : ∀ k, Fp g rg x k → ¬ Fp h rh y k
section
variable {w0 w w' : World} {g h : Nat} {rg rh x y rg' x' : Value} {A B C D A' B' : List UInt8}
theorem Two.swap (t : Two w0 w g rg x A B h rh y C D) : Two w0 w h rh y C D g rg x A B := ⟨t.two, t.one, fun k hk hk' => t.apart k hk' hk⟩
theorem Two.below_ (t : Two w0 w g rg x A B h rh y C D) (hb : Below w.heap.size w w') : Two w0 w' g rg x A B h rh y C D := ⟨t.one.below_ hb, t.two.below_ hb, t.apart⟩
theorem Two.write (t : Two w0 w g rg x A B h rh y C D) (hH : Hst w' w0.heap.size g rg' A' (A'.length / 64) A'.length) (hnew : ∀ k, rg'.ownBlock = some k → w.heap.size ≤ k) (hF : Frame (Far w g rg) w w') : Two w0 w' g rg' x A' B h rh y C D := by
  refine ⟨t.one.write hH hnew hF, t.two.frame hF (fun k hk => ⟨(t.two.lt hk).2, fun e => t.apart k (.inl e) hk, fun e => t.apart k (.inr (.inl e)) hk⟩), fun k hk hk2 => ?_⟩
  rcases hk with hk | hk | hk
  · exact t.apart k (.inl hk) hk2
  · have h1 := hnew k hk; have h2 := (t.two.lt hk2).2; omega
  · exact t.apart k (.inr (.inr hk)) hk2
theorem Two.app (t : Two w0 w g rg x A B h rh y C D) (hO : OwnV w' 5 w0.heap.size x' (bvs B')) (hg : w.grownBy w' x.ownBlock) (hat : x'.ownBlock = x.ownBlock ∨ x'.ownBlock = some w.heap.size) : Two w0 w' g rg x' A B' h rh y C D := by
  refine ⟨t.one.app hO hg hat, t.two.frame (other_app (S := Fp h rh y) hg (fun k hk => ⟨(t.two.lt hk).2, fun e => t.apart k (.inr (.inr e)) hk⟩)) (fun k hk => hk), fun k hk hk2 => ?_⟩
  rcases hk with hk | hk | hk
  · exact t.apart k (.inl hk) hk2
  · exact t.apart k (.inr (.inl hk)) hk2
  · rcases hat with h1 | h1
    · exact t.apart k (.inr (.inr (h1.symm.trans hk))) hk2
    · rw [h1] at hk; injection hk with hk; have h2 := (t.two.lt hk2).2; omega
theorem Two.new (hK : Held w0 w g (.slice none 0 0) (.slice none 0 0) [] []) (hr : RowV w' 51 h (u32s hw ++ [.slice none 0 0, .int .i64 0])) (hh : w.heap.size ≤ h) (hb : Below w.heap.size w w') : Two w0 w' g (.slice none 0 0) (.slice none 0 0) [] [] h (.slice none 0 0) (.slice none 0 0) [] [] := by
  have hg := (hK.lt (.inl rfl : Fp g _ _ g))
  refine ⟨hK.below_ hb, Held.new hr (by omega), fun k hk hk2 => ?_⟩
  rcases hk with rfl | hk | hk
  · rcases hk2 with hk2 | hk2 | hk2
    · omega
    · cases hk2
    · cases hk2
  · cases hk
  · cases hk
end
/-- rows over arguments, for a digest made since -/
theorem farP {w wx : World} {g : Nat} {rv : Value} {ty : TypeId} {ps : List Part} (hb : Below w.heap.size w wx) (hg : w.heap.size ≤ g) (hgx : g < wx.heap.size) (hv : ∀ k, rv.ownBlock = some k → w.heap.size ≤ k ∧ k < wx.heap.size) (h : ∀ p ∈ ps, p.l.length = p.n ∧ p.n ≤ p.c ∧ p.c ≤ 9223372036854775807 ∧ Rd w w.heap.size p.A p.l) :
    PartsS (wx.alloc (.cells (ps.map Part.val).toArray ty)) (Far (wx.alloc (.cells (ps.map Part.val).toArray ty)) g rv) (some ⟨wx.heap.size, 0, none⟩) ps :=
  parts_new (S := fun k => k < w.heap.size) ty ps (fun p hp => by
    obtain ⟨h1, h2, h3, h4⟩ := h p hp
    exact ⟨h1, h2, h3, (h4.below hb).s (fun _ h => h)⟩) (fun k hk => Nat.lt_of_lt_of_le hk hb.size)
    ⟨by simp, fun e => by omega, fun e => by have := (hv _ e).2; omega⟩ (fun k hk => ⟨by have := hb.size; simp; omega, fun e => by omega, fun e => by have := (hv _ e).1; omega⟩)
/-- what is written of rows: those below 4096 -/
def some4 (ps : List Part) (k : Nat) : List UInt8 := bytesOf ((ps.take k).filter fun p => decide (p.n < 4096))
theorem some4_yes {ps : List Part} {k : Nat} (hk : k < ps.length) {A : Option Addr} {n c : Nat} {l : List UInt8} (h : ps[k] = ⟨A, n, c, l⟩) (hn : n < 4096) : some4 ps (k + 1) = some4 ps k ++ l := by
  unfold some4
  rw [List.take_succ_eq_append_getElem hk, List.filter_append, h]
  simp [bytesOf, hn]
theorem some4_no {ps : List Part} {k : Nat} (hk : k < ps.length) {A : Option Addr} {n c : Nat} {l : List UInt8} (h : ps[k] = ⟨A, n, c, l⟩) (hn : ¬ n < 4096) : some4 ps (k + 1) = some4 ps k := by
  unfold some4
  rw [List.take_succ_eq_append_getElem hk, List.filter_append, h]
  simp [hn]
theorem some4_end {ps : List Part} {k : Nat} (hk : ¬ k < ps.length) : some4 ps (k + 1) = some4 ps k := by
  unfold some4
  rw [List.take_of_length_le (by omega), List.take_of_length_le (by omega)]
end Go.Proofs.Ytoklpohpfoacpaa.Sha
