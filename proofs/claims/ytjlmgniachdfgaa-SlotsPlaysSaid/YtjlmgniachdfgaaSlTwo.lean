/- Two rows of queues side by side; Next in one word. -/
import Derived.Test.YtjlmgniachdfgaaSlSmall
namespace Go.Proofs.Ytjlmgniachdfgaa.Slots
open Go Go.ChangeShapes Go.WideShapes Go.ChangeAt Go.RowKit
set_option linter.unusedVariables false

/-- the same, seen from ahead of a draw -/
theorem undrew {w w' : World} {tag : Tags} (h : Frame (Rest w.drew tag) w.drew w') : Frame (Rest w tag) w w' := ⟨h.os, h.tape, h.output, h.size, h.block⟩
theorem add_plus (a : Addr) (m j : Nat) (hj : 0 < j) : a.add (m + j) = ⟨(a.add m).block, (a.add m).off + j, none⟩ := by
  rw [← add_add]
  generalize a.add m = x
  unfold Addr.add
  rw [if_neg (by omega)]
theorem putE_vals (n : Nat) (q : Qs) (t : Int) (l : List UInt8) : putE n q t l = 0 ∨ putE n q t l = 1 ∨ putE n q t l = 2 ∨ putE n q t l = 14 := by
  unfold putE; split; exact .inr (.inl rfl); split; exact .inr (.inr (.inl rfl)); split; exact .inr (.inr (.inr rfl)); exact .inl rfl
theorem put_no {n : Nat} {q : Qs} {t : Int} {l : List UInt8} (h : putE n q t l ≠ 0) : putQ n q t l = q := by unfold putQ; rw [if_neg h]
theorem put_yes {n : Nat} {q : Qs} {t : Int} {l : List UInt8} (h : putE n q t l = 0) : ∃ k : Nat, t = (k : Int) ∧ 1 ≤ k ∧ k ≤ n ∧ (q k).length < 4 ∧ l.length ≤ 400 ∧ putQ n q t l = upd q k (q k ++ [l]) := by
  have h' := h
  unfold putE at h
  split at h; cases h
  rename_i hi
  split at h; cases h
  split at h; cases h
  obtain ⟨k, rfl, h1, h2⟩ := isT_yes (by simpa using hi)
  rw [Int.toNat_natCast] at *
  exact ⟨k, rfl, h1, h2, by omega, by omega, by unfold putQ; rw [if_pos h', Int.toNat_natCast]⟩
theorem upd_far {q : Qs} {k : Nat} {x : List (List UInt8)} {a : Int} (h1 : 1 ≤ k) (h : (k : Int) ≠ a) : upd q k x a.toNat = q a.toNat := upd_other _ _ (by omega)
theorem put_other {n : Nat} {q : Qs} {t a : Int} {l : List UInt8} (h : t ≠ a) : putQ n q t l a.toNat = q a.toNat := by
  by_cases hp : putE n q t l = 0
  · obtain ⟨k, rfl, h1, _, _, _, e⟩ := put_yes hp
    rw [e]; exact upd_far h1 h
  · rw [put_no hp]
theorem put_eq {n : Nat} {q p : Qs} {a : Int} {l : List UInt8} (h : q a.toNat = p a.toNat) : putE n q a l = putE n p a l ∧ putQ n q a l a.toNat = putQ n p a l a.toNat := by
  have e : putE n q a l = putE n p a l := by unfold putE; rw [h]
  refine ⟨e, ?_⟩
  unfold putQ
  rw [e]
  split
  · rw [upd_same, upd_same, h]
  · exact h
def dropQ (n : Nat) (q : Qs) (t : Int) : Qs := if isT n t then upd q t.toNat [] else q
theorem drop_other {n : Nat} {q : Qs} {t a : Int} (h : t ≠ a) : dropQ n q t a.toNat = q a.toNat := by
  unfold dropQ
  split
  · rename_i hi
    obtain ⟨k, rfl, h1, _⟩ := isT_yes hi
    rw [Int.toNat_natCast]; exact upd_far h1 h
  · rfl
theorem drop_eq {n : Nat} {q p : Qs} {a : Int} (h : q a.toNat = p a.toNat) : cnt n q a = cnt n p a ∧ dropQ n q a a.toNat = dropQ n p a a.toNat := by
  refine ⟨by unfold cnt; rw [h], ?_⟩
  unfold dropQ
  split
  · rw [upd_same, upd_same]
  · exact h
def nextQ (n K : Nat) (q : Qs) : Qs := match q (turnOf n K) with | [] => q | _ :: r => upd q (turnOf n K) r
theorem next_eq {n K : Nat} {q p : Qs} {j : Nat} (h : q j = p j) : nextQ n K q j = nextQ n K p j := by
  unfold nextQ
  by_cases e : turnOf n K = j
  · rw [e, h]
    cases hp : p j with
    | nil => rw [hp] at h; exact h.trans hp.symm
    | cons l r => show upd q j r j = upd p j r j; rw [upd_same, upd_same]
  · have f : ∀ x : Qs, (match x (turnOf n K) with | [] => x | _ :: r => upd x (turnOf n K) r : Qs) j = x j := fun x => by
      cases x (turnOf n K) with
      | nil => rfl
      | cons l r => exact upd_other _ _ (Ne.symm e)
    rw [f, f, h]
theorem turnOf_ok {n K : Nat} (h : 1 ≤ n) : 1 ≤ turnOf n K ∧ turnOf n K ≤ n := by unfold turnOf; have := Nat.mod_lt K (show n > 0 by omega); omega
theorem next_any (base : Nat) (tag : Tags) (g n K : Nat) (q : Qs) (w : World) (h1 : 1 ≤ n) (hn : n ≤ 64) (hK : K ≤ 1000000) (h : Sl w base tag g n K q) :
    Calls Try.prog 11 #[.pointer (some ⟨g, 0, none⟩)] w fun e w' => ∃ A m c tag' l, m = l.length ∧ l = (q (turnOf n K)).headD [] ∧ e = .returned (.tuple #[.int .i64 (K : Int), .int .i64 (turnOf n K : Int), .slice A m c, .bool (!(q (turnOf n K)).isEmpty)]) ∧
      Own w' 5 base (.slice A m c) l ∧ (∀ k, Value.ownBlock (.slice A m c) = some k → tag k ≠ none ∧ tag' k = none) ∧
      Sl w' base tag' g n (K + 1) (nextQ n K q) ∧ (∀ k, tag' k ≠ none → tag k ≠ none) ∧ w'.heap.size = w.heap.size ∧ Frame (Rest w tag) w w' := by
  cases hq : q (turnOf n K) with
  | nil =>
    refine (next_none base tag g n K q w h1 hn hK h hq).mono ?_
    rintro e w' ⟨rfl, h2, h3, h4⟩
    exact ⟨none, 0, 0, tag, [], rfl, rfl, rfl, Own.nil _ _ _, fun k hk => (by cases hk), by unfold nextQ; rw [hq]; exact h2, fun k hk => hk, h3, h4⟩
  | cons l r =>
    refine (next_some base tag g n K q w h1 hn hK h hq).mono ?_
    rintro e w' ⟨v, tag', rfl, h2, h3, h4, h5, h6, h7⟩
    obtain ⟨A, c, rfl, _, _⟩ := h2.form
    exact ⟨A, _, c, tag', l, rfl, rfl, rfl, h2, h3, by unfold nextQ; rw [hq]; exact h4, h5, h6, h7⟩

/-- two rows of queues, apart in memory -/
structure Two (w : World) (base : Nat) (tg th : Tags) (g h n K J : Nat) (q p : Qs) : Prop where
  s : Sl w base tg g n K q
  t : Sl w base th h n J p
  dis : ∀ k, tg k ≠ none → th k = none
section
variable {w w' : World} {base g h n K J K' : Nat} {tg th tg' : Tags} {q p q' : Qs}
theorem Two.swap (H : Two w base tg th g h n K J q p) : Two w base th tg h g n J K p q := ⟨H.t, H.s, fun k hk => by
  cases e : tg k with
  | none => rfl
  | some x => exact absurd (H.dis k (by rw [e]; simp)) hk⟩
theorem Two.restT (H : Two w base tg th g h n K J q p) : ∀ k, th k ≠ none → Rest w tg k := fun k hk => ⟨(H.t.lt k hk).2, by
  cases e : tg k with
  | none => rfl
  | some x => exact absurd (H.dis k (by rw [e]; simp)) hk⟩
theorem Two.left (H : Two w base tg th g h n K J q p) (hS : Sl w' base tg' g n K' q') (hF : Frame (Rest w tg) w w') (ht : ∀ k, tg' k ≠ none → tg k ≠ none ∨ w.heap.size ≤ k) : Two w' base tg' th g h n K' J q' p :=
  ⟨hS, H.t.frame hF H.restT, fun k hk => by
    rcases ht k hk with h1 | h1
    · exact H.dis k h1
    · cases e : th k with
      | none => rfl
      | some x => have := (H.t.lt k (by rw [e]; simp)).2; omega⟩
theorem Two.right (H : Two w base tg th g h n K J q p) (hS : Sl w' base tg' h n K' q') (hF : Frame (Rest w th) w w') (ht : ∀ k, tg' k ≠ none → th k ≠ none ∨ w.heap.size ≤ k) : Two w' base tg tg' g h n K K' q q' :=
  (H.swap.left hS hF ht).swap
theorem Two.below_ (H : Two w base tg th g h n K J q p) (hb : Below w.heap.size w w') : Two w' base tg th g h n K J q p := ⟨H.s.below_ hb, H.t.below_ hb, H.dis⟩
theorem Two.new (hs : Sl w base tg g n K q) (hb : Below w.heap.size w w') (ht : Sl w' w.heap.size th h n J p) (hB : base ≤ w.heap.size) : Two w' base tg th g h n K J q p := by
  refine ⟨hs.below_ hb, ?_, fun k hk => ?_⟩
  · obtain ⟨gq, vs, iv, c, hx⟩ := ht
    refine ⟨gq, vs, iv, c, hx.obj, hx.rows, hx.tg, hx.tq, fun t h => (hx.own t h).mono (fun k hk => by have := (hx.own t h).lt k hk; omega), hx.to, hx.len, fun t i l h1 h2 => ?_, fun k hk => ⟨by have := (hx.lt k hk).1; omega, (hx.lt k hk).2⟩⟩
    obtain ⟨v, e1, e2, e3⟩ := hx.item t i l h1 h2
    exact ⟨v, e1, e2.mono hB, e3⟩
  · cases e : th k with
    | none => rfl
    | some x => have h1 := (ht.lt k (by rw [e]; simp)).1; have h2 := (hs.lt k hk).2; omega
/-- a block of nobody's -/
theorem Two.free (H : Two w base tg th g h n K J q p) {o : Obj} : Rest (w.alloc o) tg w.heap.size ∧ Rest (w.alloc o) th w.heap.size := by
  refine ⟨⟨by simp, ?_⟩, ⟨by simp, ?_⟩⟩
  · cases e : tg w.heap.size with
    | none => rfl
    | some x => have := (H.s.lt w.heap.size (by rw [e]; simp)).2; omega
  · cases e : th w.heap.size with
    | none => rfl
    | some x => have := (H.t.lt w.heap.size (by rw [e]; simp)).2; omega
end
end Go.Proofs.Ytjlmgniachdfgaa.Slots
