/- Words for bytes in memory: a slice that reads as a list of bytes; a row of the call's own. No program in sight. -/
import Derived.Below
import Derived.Laws.OwnMore
import Derived.Laws.Rows
import Derived.Laws.IdiomStrings
import Derived.Laws.Tables
import Derived.Laws.CopyOwn
import Derived.Maps.AppendAt
import Derived.Deep.Draws
import Derived.WalkKit
import Derived.ProofKit
import Derived.OpenShut
import Derived.Lib.Hide
import Derived.Laws.BitsAllLaws
import Derived.IntWalk
import Derived.Test.YtkgnnlglabihkaaGreatDoorRows
import Derived.WalkLawsBesides
import Derived.WalkSpells
import Derived.SizedLaws
import Derived.Deep.Matrix
import Derived.Orders
import Derived.Calls
import Derived.Deep.RegionHeld3
import Derived.OrdersHeld
namespace Go.Proofs.YtkgnnlglabihkaaGreatDoor
open Go Go.RowKit
set_option linter.unusedVariables false

/-- a byte's value -/
def bv (c : UInt8) : Value := .int .u8 ((c.toNat : Nat) : Int)
def bvs (l : List UInt8) : List Value := l.map bv
def nums (l : List UInt8) : List Int := l.map fun c => ((c.toNat : Nat) : Int)
theorem nums_vals (l : List UInt8) : (nums l).map (Value.int .u8) = bvs l := by simp [nums, bvs, bv]
theorem bvs_length (l : List UInt8) : (bvs l).length = l.length := by simp [bvs]
theorem nums_length (l : List UInt8) : (nums l).length = l.length := by simp [nums]
theorem bvs_append (a b : List UInt8) : bvs (a ++ b) = bvs a ++ bvs b := by simp [bvs]
theorem bvs_get {l : List UInt8} {j : Nat} (h : j < l.length) : (bvs l)[j]? = some (bv l[j]) := by simp [bvs, h]
theorem bvs_one (l : List UInt8) : ∀ u ∈ bvs l, u.oneCell' = true := by
  intro u hu
  simp only [bvs, List.mem_map] at hu
  obtain ⟨c, _, rfl⟩ := hu
  rfl
theorem ret_int {k : IntKind} {a b : Int} (h : a = b) : Ending.returned (.int k a) = .returned (.int k b) := by rw [h]

/-- an address in a block, so many places on -/
theorem add_block (a : Addr) (n : Nat) : (a.add n).block = a.block := by unfold Addr.add; split <;> rfl
theorem add_add (a : Addr) (i j : Nat) : (a.add i).add j = a.add (i + j) := by
  unfold Addr.add
  by_cases hi : i = 0 <;> by_cases hj : j = 0 <;> simp [hi, hj, Nat.add_assoc]

/-- A SLICE THAT READS AS THE BYTES l: whatever address where there are none; it lies below block B -/
def Rd (w : World) (B : Nat) (A : Option Addr) (l : List UInt8) : Prop :=
  0 < l.length → ∃ ad, A = some ad ∧ ad.block < B ∧ ∀ j (hj : j < l.length), w.cell? (ad.add j) = some (bv l[j])

section
variable {w w' : World} {B B' : Nat} {A : Option Addr} {l : List UInt8}
theorem Rd.nil (w : World) (B : Nat) (A : Option Addr) : Rd w B A [] := fun h => absurd h (by simp)
theorem Rd.at_ (h : Rd w B A l) {k : Nat} (hk : k < l.length) : ∃ ad, A = some ad ∧ ad.block < B ∧ w.cell? (ad.add k) = some (bv l[k]) := by
  obtain ⟨ad, e, hb, hc⟩ := h (by omega)
  exact ⟨ad, e, hb, hc k hk⟩
theorem Rd.keep (h : Rd w B A l) (hk : ∀ p : Addr, p.block < B → w'.cell? p = w.cell? p) : Rd w' B A l := fun hn => by
  obtain ⟨ad, e, hb, hc⟩ := h hn
  exact ⟨ad, e, hb, fun j hj => (hk _ (by rw [add_block]; exact hb)).trans (hc j hj)⟩
theorem Rd.more (h : Rd w B A l) (hB : B ≤ B') : Rd w B' A l := fun hn => by
  obtain ⟨ad, e, hb, hc⟩ := h hn
  exact ⟨ad, e, by omega, hc⟩
theorem Rd.below (h : Rd w B A l) (hb : Below B w w') : Rd w' B A l := h.keep fun _ hp => hb.cell hp
theorem Rd.alloc (h : Rd w B A l) (hB : B ≤ w.heap.size) (o : Obj) : Rd (w.alloc o) B A l := h.keep fun p hp => World.cell?_alloc_lt w o p (by omega)
theorem Rd.take (h : Rd w B A l) (k : Nat) : Rd w B A (l.take k) := fun hn => by
  have hl : (l.take k).length ≤ l.length := by simp; omega
  obtain ⟨ad, e, hb, hc⟩ := h (by omega)
  refine ⟨ad, e, hb, fun j hj => ?_⟩
  rw [hc j (by omega)]
  simp
theorem Rd.drop (h : Rd w B A l) (k : Nat) {cap : Nat} (hk : l.length ≤ cap) : Rd w B (if cap = k then A else A.map (·.add k)) (l.drop k) := fun hn => by
  have hl : (l.drop k).length = l.length - k := by simp
  obtain ⟨ad, rfl, hb, hc⟩ := h (by omega)
  rw [if_neg (by omega)]
  refine ⟨ad.add k, rfl, by rw [add_block]; exact hb, fun j hj => ?_⟩
  rw [add_add, hc (k + j) (by omega)]
  simp
/-- out of an owned row -/
theorem Rd.of_own {base : Nat} {e : TypeId} {n c : Nat} (h : w.ownsRow base e 1 (.slice A n c) n (bvs l)) : Rd w w.heap.size A l := fun hn => by
  have hl : l.length = n := by have := h.1; rw [bvs_length] at this; omega
  rcases h.2 with ⟨_, h0⟩ | ⟨g, cap, cur, hv, _, hh, hnc, _, hs, ht⟩
  · omega
  · have hA : A = some ⟨g, 0, none⟩ := by injection hv
    subst hA
    refine ⟨_, rfl, (Array.getElem?_eq_some_iff.1 hh).1, fun j hj => ?_⟩
    have h1 : w.cell? (Addr.add ⟨g, 0, none⟩ j) = cur[j]? := by
      have := cell_of_row w g j cur e (0, 0) hh
      rw [show Addr.add ⟨g, 0, none⟩ j = ⟨g, j, none⟩ by unfold Addr.add; split <;> simp_all]
      exact this
    rw [h1, ← bvs_get hj, ← ht]
    simp only [Nat.mul_one]
    rw [List.getElem?_take, if_pos (by omega), Array.getElem?_toList]
end

theorem below_setRow_ {B : Nat} {a w : World} (h : Below B a w) {g : Nat} (hg : B ≤ g) (cs : Array Value) : Below B a (w.setRow g cs) :=
  ⟨h.os, h.tape, h.output, by rw [setRow_size]; exact h.size, fun k hk => by rw [setRow_other w g k cs (by omega)]; exact h.block k hk⟩
/-- the bytes of a string -/
def ofStr (s : ByteArray) : List UInt8 := s.data.toList
theorem take_snoc {l : List UInt8} {k : Nat} (h : k < l.length) : l.take (k + 1) = l.take k ++ [l[k]] := by
  rw [List.take_succ_eq_append_getElem h]

/-- WHAT THE PROGRAM's TABLES SAY OF []byte -/
structure U8 (P : Program) (t e : TypeId) : Prop where
  slice : P.underlying t = some (.slice e)
  elem : P.underlying e = some (.int .u8)
  info : (P.info? e).map (fun i => (i.zero, i.size, i.bytes)) = some (some (.int .u8 0), 1, 1)
theorem bv_zero : bv 0 = .int .u8 0 := rfl
theorem made_bytes (n : Nat) : madeCells #[.int .u8 0] n = (bvs (List.replicate n 0)).toArray := by
  apply Array.toList_inj.1
  rw [toList_madeCells_one]
  simp [bvs, bv_zero]

/-- an operation whose guard says yes (or that has none) -/
theorem wpList_wanted {P : Program} {ops : Array Oper} {Q : Exit → Act → World → Prop} {a : Act} {w : World} {rest : List Oper} {o : Oper} (hgd : Region.wanted o (yielded ops a.tmps) = true)
    (h : ∀ K : Act → World → Prop, (∀ a w, wpList P ops Q rest a w → K a w) → o.wp P a w K Q) : wpList P ops Q (o :: rest) a w :=
  wpList_step fun K hK => by rw [if_pos hgd]; exact h K hK
/-- 'make([]byte, n, m)': a new block of m bytes 0 -/
theorem wpList_make_u8 {P : Program} {t e : TypeId} (hP : U8 P t e) {w : World} {ops : Array Oper} {rest : List Oper} {o : Oper} {a : Act} {Q : Exit → Act → World → Prop}
    (hg : Region.wanted o (yielded ops a.tmps) = true) (l c : Operand) (hop : o.op = Op.makeSlice t l c) (kl kc : IntKind) (L C : Int) (n m : Nat) (hl : a.eval l = .int kl L) (hc : a.eval c = .int kc C) (hL : L = (n : Int)) (hC : C = (m : Int)) (hnm : n ≤ m) (hm : m ≤ 281474976710656)
    (hK : wpList P ops Q rest (a.put o.dst (.slice (some ⟨w.heap.size, 0, none⟩) n m)) (w.alloc (.cells (bvs (List.replicate m 0)).toArray e))) :
    wpList P ops Q (o :: rest) a w := by
  refine wpList_wanted hg fun K hK' => ?_
  subst hL hC
  obtain ⟨i, hi, hz0, hz1, hz2⟩ := info_parts hP.info
  have hr := run_make (P := P) w t e i (.int .u8 0) hP.slice hi hz0 kl kc n m (by omega) (by omega) (by rw [hz2]; omega) (by omega)
  rw [hz1] at hr
  simp only [Int.toNat_natCast, Nat.mul_one] at hr
  rw [show Value.cells (.int .u8 0) = #[.int .u8 0] from rfl, made_bytes] at hr
  unfold Oper.wp
  simp [execOp, hop, hl, hc, hr, Result.andThen]
  exact hK' _ _ hK

/-- A ROW KNOWN WHOLE: block g holds just the bytes l, none frozen -/
def Row (w : World) (e : TypeId) (g : Nat) (l : List UInt8) : Prop := w.heap[g]? = some (.cells (bvs l).toArray e (0, 0))
section
variable {w w' : World} {e : TypeId} {g : Nat} {l : List UInt8}
theorem Row.lt (h : Row w e g l) : g < w.heap.size := (Array.getElem?_eq_some_iff.1 h).1
theorem Row.new (w : World) (e : TypeId) (l : List UInt8) : Row (w.alloc (.cells (bvs l).toArray e)) e w.heap.size l := heap_alloc_new w _
theorem Row.cell (h : Row w e g l) {i : Nat} (hi : i < l.length) : w.cell? ⟨g, i, none⟩ = some (bv l[i]) := by
  rw [cell_of_row w g i _ e (0, 0) h]
  simp [bvs, hi]
theorem Row.frozen (h : Row w e g l) (i : Nat) : w.frozen? ⟨g, i, none⟩ = false := frozen_of_row w g i _ e h
theorem Row.below {B : Nat} (h : Row w e g l) (hb : Below B w w') (hg : g < B) : Row w' e g l := (hb.block g hg).trans h
theorem Row.alloc (h : Row w e g l) (o : Obj) : Row (w.alloc o) e g l := (heap_alloc_old w o h.lt).trans h
theorem Row.drew (h : Row w e g l) : Row w.drew e g l := h
theorem Row.far (h : Row w e g l) {p : Addr} (hp : g ≠ p.block) (u : Value) : Row (w.setCell p u) e g l := (heap_setCell_other w p g u hp).trans h
theorem Row.set (h : Row w e g l) (i : Nat) (c : UInt8) : Row (w.setCell ⟨g, i, none⟩ (bv c)) e g (l.set i c) := by
  have := heap_setCell_same w g i _ e (bv c) h
  unfold Row
  rw [this]
  simp [bvs]
theorem add_zero_block (g j : Nat) : Addr.add ⟨g, 0, none⟩ j = ⟨g, j, none⟩ := by unfold Addr.add; split <;> simp_all
/-- a row's first n bytes, read as a slice -/
theorem Row.rd (h : Row w e g l) : Rd w w.heap.size (some ⟨g, 0, none⟩) l := fun _ => ⟨_, rfl, h.lt, fun j hj => by rw [add_zero_block]; exact h.cell hj⟩
theorem Row.own {base : Nat} (h : Row w e g l) (hb : base ≤ g) {n : Nat} (hn : n ≤ l.length) (hm : l.length ≤ maxLen) : w.ownsRow base e 1 (.slice (some ⟨g, 0, none⟩) n l.length) n (bvs (l.take n)) :=
  ⟨by simp [bvs]; omega, .inr ⟨g, l.length, _, rfl, hb, h, hn, hm, by simp [bvs], by simp [bvs]⟩⟩
end
theorem below_setCell_ {B : Nat} {a w : World} (h : Below B a w) {p : Addr} (hp : B ≤ p.block) (u : Value) : Below B a (w.setCell p u) := h.setCell hp u
/-! ### guards: an arm behind 'with_reducible refine at_slot 12 ?_' is tried at the operation that writes slot 12 alone -/
theorem at_slot {P : Program} {ops : Array Oper} {rest : List Oper} {a : Act} {w : World} {Q : Exit → Act → World → Prop} (k : Nat) {op : Op} {ty : TypeId} {pos : String} {af : Array Edge} {gd : Option (Tmp × Bool)}
    (h : wpList P ops Q ({ dst := some k, op := op, type := ty, pos := pos, after := af, guard := gd } :: rest) a w) : wpList P ops Q ({ dst := some k, op := op, type := ty, pos := pos, after := af, guard := gd } :: rest) a w := h
theorem at_store {P : Program} {ops : Array Oper} {rest : List Oper} {a : Act} {w : World} {Q : Exit → Act → World → Prop} (x : Nat) {y : Operand} {T : TypeId} {ty : TypeId} {pos : String} {af : Array Edge} {gd : Option (Tmp × Bool)}
    (h : wpList P ops Q ({ dst := none, op := .store T (.tmp x) y, type := ty, pos := pos, after := af, guard := gd } :: rest) a w) : wpList P ops Q ({ dst := none, op := .store T (.tmp x) y, type := ty, pos := pos, after := af, guard := gd } :: rest) a w := h

theorem Rd.src {w : World} {B : Nat} {A : Option Addr} {l : List UInt8} (h : Rd w B A l) (hl : 0 < l.length) : ∃ ad, A = some ad ∧ ∀ j v, (bvs l)[j]? = some v → w.cell? (ad.add j) = some v := by
  obtain ⟨ad, e, _, hc⟩ := h hl
  refine ⟨ad, e, fun j v hj => ?_⟩
  have hj' : j < l.length := by
    have := (List.getElem?_eq_some_iff.1 hj).1
    rwa [bvs_length] at this
  rw [hc j hj', ← bvs_get hj', hj]
/-- 'copy(d, s)', d in a row known whole: what is behind the call -/
theorem wpList_copy_u8 {P : Program} {t e : TypeId} (hP : U8 P t e) {w : World} {ops : Array Oper} {rest : List Oper} {o : Oper} {a : Act} {Q : Exit → Act → World → Prop}
    (hgd : Region.wanted o (yielded ops a.tmps) = true) (d s : Operand) (ho : o.op = .call { callee := .builtin .copy, args := #[d, s], argTypes := #[t, t] })
    (g off n m : Nat) (A : Option Addr) (k c : Nat) (cur l : List UInt8) (B : Nat) (hd : a.eval d = .slice (some ⟨g, off, none⟩) n m) (hs : a.eval s = .slice A k c)
    (hrow : Row w e g cur) (hr : Rd w B A l) (hk : l.length = k) (hfit : off + n ≤ cur.length)
    (h : ∀ w', Row w' e g (cur.take off ++ (l.take n ++ cur.drop (off + min k n))) → w.grownBy w' (some g) → wpList P ops Q rest (a.put o.dst (goInt ((min k n : Nat) : Int))) w') : wpList P ops Q (o :: rest) a w := by
  subst hk
  have hsz : (P.info? e).map (·.size) = some 1 := by
    obtain ⟨i, hi, _, hz1, _⟩ := info_parts hP.info
    rw [hi]; simp [hz1]
  refine wpList_wanted hgd fun K hK => ?_
  by_cases h0 : min l.length n = 0
  · have hrun := run_copy_none (P := P) w t t o.type e (some ⟨g, off, none⟩) A n m l.length c hP.slice hsz h0
    have := h w (by
      rw [h0, Nat.add_zero]
      have : l.take n = [] := by
        apply List.eq_nil_of_length_eq_zero
        rw [List.length_take, Nat.min_comm]; exact h0
      rw [this, List.nil_append, List.take_append_drop]
      exact hrow) (World.grownBy.refl _ _)
    rw [h0] at this
    unfold Oper.wp
    simp [execOp, ho, resolve, invoke, builtin, hd, hs, hrun, Result.andThen]
    exact hK _ _ this
  · obtain ⟨ad, rfl, hc⟩ := hr.src (by omega)
    have hcs : (bvs (l.take n)).length = min l.length n := by rw [bvs_length, List.length_take, Nat.min_comm]
    have hrun := run_copy_row (P := P) w t t o.type e g off n m ad l.length c (bvs cur).toArray e (bvs (l.take n)) hP.slice hsz hrow hcs
      (by
        intro j v hj
        refine hc j v ?_
        have hj' : j < (bvs (l.take n)).length := (List.getElem?_eq_some_iff.1 hj).1
        rw [bvs_length] at hj'
        have hl : (l.take n).length ≤ l.length := by rw [List.length_take]; omega
        rw [bvs_get hj'] at hj
        rw [bvs_get (by omega : j < l.length), ← hj]
        congr 2
        simp)
      (by rw [hcs]; simp [bvs]; omega) (bvs_one _)
    unfold Oper.wp
    simp only [execOp, ho, resolve, invoke, builtin, Sem.run_bind, Sem.run_pure, Result.andThen_ok, List.map_toArray, List.map_cons, List.map_nil, hd, hs, hrun]
    rw [hcs]
    refine hK _ _ (h _ ?_ ⟨rfl, rfl, rfl, by simp, fun j _ hne => setRow_other w g j _ (fun hj => hne (congrArg some hj))⟩)
    unfold Row
    rw [setRow_heap _ g _ _ e (0, 0) hrow]
    congr 3
    simp [bvs]
/-! ### a slice of bytes of the call's own, and append -/
def Own (w : World) (e : TypeId) (base : Nat) (v : Value) (l : List UInt8) : Prop := w.ownsRow base e 1 v l.length (bvs l)
section
variable {w w' : World} {e : TypeId} {base : Nat} {v : Value} {l : List UInt8}
theorem Own.nil (w : World) (e : TypeId) (base : Nat) : Own w e base (.slice none 0 0) [] := World.ownsRow_nil _ _ _ _
theorem Own.form (h : Own w e base v l) : ∃ A c, v = .slice A l.length c ∧ Rd w w.heap.size A l ∧ l.length ≤ c := by
  rcases h.2 with ⟨rfl, h0⟩ | ⟨g, cap, cur, rfl, _, _, hnc, _⟩
  · have hl : l = [] := List.eq_nil_of_length_eq_zero h0
    subst hl
    exact ⟨none, 0, rfl, Rd.nil _ _ _, Nat.le_refl _⟩
  · exact ⟨_, cap, rfl, Rd.of_own h, hnc⟩
theorem Own.lt (h : Own w e base v l) : ∀ k, v.ownBlock = some k → base ≤ k ∧ k < w.heap.size := World.ownsRow.lt h
theorem Own.kept {row : Option Nat} (h : Own w e base v l) (hg : w.grownBy w' row) (hne : v.ownBlock = none ∨ v.ownBlock ≠ row) : Own w' e base v l := World.ownsRow.kept h hg hne
theorem Own.below (h : Own w e base v l) (hb : Below w.heap.size w w') : Own w' e base v l := by
  refine ⟨h.1, ?_⟩
  rcases h.2 with hn | ⟨g, cap, cur, rfl, hb', hgg, rest⟩
  · exact .inl hn
  · exact .inr ⟨g, cap, cur, rfl, hb', (hb.block g (Array.getElem?_eq_some_iff.1 hgg).1).trans hgg, rest⟩
theorem Own.alloc (h : Own w e base v l) (o : Obj) : Own (w.alloc o) e base v l := h.below ((Below.refl _ _).alloc (Nat.le_refl _) o)
theorem Own.drew (h : Own w e base v l) : Own w.drew e base v l := h
theorem Own.mono {base' : Nat} (h : Own w e base v l) (hb : base' ≤ base) : Own w e base' v l := by
  refine ⟨h.1, ?_⟩
  rcases h.2 with hn | ⟨g, cap, cur, rfl, hb', rest⟩
  · exact .inl hn
  · exact .inr ⟨g, cap, cur, rfl, by omega, rest⟩
end
theorem Row.toOwn {w : World} {e : TypeId} {g base : Nat} {l r : List UInt8} (h : Row w e g (l ++ r)) (hb : base ≤ g) {n m : Nat} (hn : l.length = n) (hm : (l ++ r).length = m) (hx : m ≤ 9223372036854775807) : Own w e base (.slice (some ⟨g, 0, none⟩) n m) l := by
  subst hn hm
  have := h.own (n := l.length) hb (by simp) (by simp only [maxLen]; omega)
  simpa [Own] using this
theorem below_grown {B : Nat} {a w w' : World} {v : Value} {e : TypeId} {base : Nat} {l : List UInt8} (h : Below B a w) (hg : w.grownBy w' v.ownBlock) (hB : B ≤ w.heap.size) (ho : Own w e base v l) (hb : B ≤ base) : Below B a w' :=
  h.grown hg hB (fun k hk => by have := (ho.lt k hk).1; omega)
/-- a byte of a row of the call's own: it is there, may be written, and what is behind the store -/
theorem Own.at_ {w : World} {e : TypeId} {base : Nat} {v : Value} {l : List UInt8} (h : Own w e base v l) {i : Nat} (hi : i < l.length) :
    ∃ g c, v = .slice (some ⟨g, 0, none⟩) l.length c ∧ base ≤ g ∧ g < w.heap.size ∧ w.cell? ⟨g, i, none⟩ = some (bv l[i]) ∧ w.frozen? ⟨g, i, none⟩ = false ∧ ∀ x, Own (w.setCell ⟨g, i, none⟩ (bv x)) e base v (l.set i x) := by
  rcases h.2 with ⟨rfl, h0⟩ | ⟨g, cap, cur, rfl, hb, hh, hnc, hm, hs, ht⟩
  · omega
  · simp only [Nat.mul_one] at hs ht
    have hci : i < cur.size := by omega
    have hcell : cur[i]? = some (bv l[i]) := by
      rw [← bvs_get hi, ← ht, List.getElem?_take, if_pos (by omega), Array.getElem?_toList]
    refine ⟨g, cap, rfl, hb, (Array.getElem?_eq_some_iff.1 hh).1, ?_, frozen_of_row w g i cur e hh, fun x => ⟨by rw [bvs_length, List.length_set, Nat.mul_one], .inr ⟨g, cap, cur.setIfInBounds i (bv x), by rw [List.length_set], hb, heap_setCell_same w g i cur e (bv x) hh, by rw [List.length_set]; exact hnc, hm, by rw [Array.size_setIfInBounds, Nat.mul_one]; exact hs, ?_⟩⟩⟩
    · rw [cell_of_row w g i cur e (0, 0) hh, hcell]
    · rw [List.length_set, Nat.mul_one, Array.toList_setIfInBounds, List.take_set, ht]
      simp [bvs]
theorem Own.at_g {w : World} {e : TypeId} {base g n c : Nat} {l : List UInt8} (h : Own w e base (.slice (some ⟨g, 0, none⟩) n c) l) {i : Nat} (hi : i < l.length) :
    base ≤ g ∧ g < w.heap.size ∧ w.cell? ⟨g, i, none⟩ = some (bv l[i]) ∧ w.frozen? ⟨g, i, none⟩ = false ∧ ∀ x, Own (w.setCell ⟨g, i, none⟩ (bv x)) e base (.slice (some ⟨g, 0, none⟩) n c) (l.set i x) := by
  obtain ⟨g', c', he, h1, h2, h3, h4, h5⟩ := h.at_ hi
  injection he with he1 he2 he3
  injection he1 with he1
  injection he1 with he1
  subst he1
  exact ⟨h1, h2, h3, h4, h5⟩
/-- 'append(s, x...)', s the call's own -/
theorem wpList_append_u8 {P : Program} {t e : TypeId} (hP : U8 P t e) {w : World} {ops : Array Oper} {rest : List Oper} {o : Oper} {a : Act} {Q : Exit → Act → World → Prop}
    (hgd : Region.wanted o (yielded ops a.tmps) = true) (s x : Operand) (ho : o.op = .call { callee := .builtin .append, args := #[s, x], argTypes := #[t, t] })
    (base : Nat) (v : Value) (l : List UInt8) (A : Option Addr) (k c : Nat) (l' : List UInt8) (B : Nat) (hs : a.eval s = v) (hx : a.eval x = .slice A k c) (hown : Own w e base v l) (hr : Rd w B A l') (hk : l'.length = k)
    (hbytes : l.length + k ≤ 140737488355328) (hbase : base ≤ w.heap.size)
    (h : ∀ v' w', Own w' e base v' (l ++ l') → w.grownBy w' v.ownBlock → (v'.ownBlock = v.ownBlock ∨ v'.ownBlock = some w.heap.size) → wpList P ops Q rest (a.put o.dst v') w') : wpList P ops Q (o :: rest) a w := by
  subst hk
  obtain ⟨i, hi, hz0, hz1, hz2⟩ := info_parts hP.info
  refine wpList_wanted hgd fun K hK => ?_
  rcases A with _ | ad
  · have hl : l' = [] := by
      rcases Nat.eq_zero_or_pos l'.length with h0 | h0
      · exact List.eq_nil_of_length_eq_zero h0
      · obtain ⟨_, h', _⟩ := hr h0
        cases h'
    subst hl
    have hrun : (Builtin.append_ #[t, t] o.type #[v, .slice none 0 c]).run P w = .ok v w := by
      rcases hown.2 with ⟨rfl, _⟩ | ⟨g, cap, cur, rfl, _, _, hnc, _⟩
      · simp [Builtin.append_, run_underlying hP.slice, sizeOf, typeInfo, hi, Builtin.lenOf, Builtin.firstCells]
      · simp [Builtin.append_, run_underlying hP.slice, sizeOf, typeInfo, hi, Builtin.lenOf, Builtin.firstCells, hnc, storeCells]
    have := h v w (by simpa using hown) (World.grownBy.refl _ _) (.inl rfl)
    unfold Oper.wp execOp
    simp only [ho, resolve, invoke, builtin, Sem.run_bind, Sem.run_pure, Result.andThen_ok, List.map_toArray, List.map_cons, List.map_nil, hs, hx, List.length_nil, hrun]
    exact hK _ _ this
  · have hcells : ∀ j u, (bvs l')[j]? = some u → w.cell? (ad.add j) = some u := by
      intro j u hj
      have hj' : j < l'.length := by
        have := (List.getElem?_eq_some_iff.1 hj).1
        rwa [bvs_length] at this
      obtain ⟨ad', he, hc⟩ := hr.src (by omega)
      injection he with he
      subst he
      exact hc j u hj
    obtain ⟨v', w', hrun, h2, h3, _, h5⟩ := run_append_own_at (P := P) (w := w) base t o.type e i (.int .u8 0) 1 1 hP.slice hi hz0 hz1 hz2 rfl (by omega) v l.length (bvs l) hown ad l'.length c (bvs l') (by simp [bvs_length]) hcells (bvs_one _)
      (by simp only [maxLen]; omega) (by omega) hbase
    have := h v' w' (by unfold Own; rw [List.length_append, bvs_append]; exact h2) h3 h5
    unfold Oper.wp execOp
    simp only [ho, resolve, invoke, builtin, Sem.run_bind, Sem.run_pure, Result.andThen_ok, List.map_toArray, List.map_cons, List.map_nil, hs, hx, hrun]
    exact hK _ _ this
/-- 'string(b)' -/
def str (l : List UInt8) : ByteArray := ⟨l.toArray⟩
theorem str_inj {a b : List UInt8} (h : str a = str b) : a = b := by
  have := congrArg (fun s => s.data.toList) h
  simpa [str] using this
theorem Rd.str {P : Program} {t e : TypeId} (hP : U8 P t e) (ts : TypeId) (hts : P.underlying ts = some .string) {w : World} {B : Nat} {A : Option Addr} {l : List UInt8} (h : Rd w B A l) (c : Nat) :
    (convert t ts (.slice A l.length c)).run P w = .ok (.string (str l)) w := by
  rcases A with _ | a
  · have hl : l = [] := by
      rcases Nat.eq_zero_or_pos l.length with h0 | h0
      · exact List.eq_nil_of_length_eq_zero h0
      · obtain ⟨ad, h', _⟩ := h h0
        cases h'
    subst hl
    rw [run_convert_bytes_string w t ts e none [].length c hP.slice hP.elem hts]
    rfl
  · refine run_convert_bytes_back w t ts e a c l hP.slice hP.elem hts (fun j hj => ?_)
    obtain ⟨ad, he, _, hc⟩ := h (by omega)
    injection he with he
    subst he
    exact hc j hj
/-- bytes written out in a new block -/
theorem rd_lit {w : World} (T : TypeId) (l : List UInt8) {C : Array Value} (hC : (bvs l).toArray = C) : Rd (w.alloc (.cells C T)) (w.heap.size + 1) (some ⟨w.heap.size, 0, none⟩) l := by
  subst hC
  have := (Row.new w T l).rd
  simpa using this
theorem below_drewN (B : Nat) (w : World) (n : Nat) : Below B w (w.drewN n) := ⟨rfl, rfl, rfl, Nat.le_refl _, fun _ _ => rfl⟩
/-- the empty row, written out in a new block -/
theorem own_empty {w : World} (e : TypeId) {base : Nat} (hb : base ≤ w.heap.size) : Own (w.alloc (.cells #[] e)) e base (.slice (some ⟨w.heap.size, 0, none⟩) 0 0) [] :=
  (Row.new w e []).toOwn (l := []) (r := []) hb rfl rfl (by omega)
/-- the bytes of a constant string, in a new block with the run-time's mark behind its end -/
theorem rd_const {w : World} (T : TypeId) (l : List UInt8) (fr : Nat × Nat) {C : Array Value} (hC : (bvs l).toArray = C) : Rd (w.alloc (.cells C T fr)) (w.heap.size + 1) (some ⟨w.heap.size, 0, none⟩) l := by
  subst hC
  refine fun _ => ⟨_, rfl, Nat.lt_succ_self _, fun j hj => ?_⟩
  rw [add_zero_block, cell_of_row _ _ j _ T fr (heap_alloc_new w _)]
  simp [bvs, hj]
end Go.Proofs.YtkgnnlglabihkaaGreatDoor

/- Bits of Go's integers as bits of natural numbers. No program in sight. -/
namespace Go.Proofs.YtkgnnlglabihkaaGreatDoor
open Go Go.RowKit
set_option linter.unusedVariables false
theorem i64_wraps (n : Int) (h0 : 0 ≤ n) (h1 : n < 2 ^ 63) : IntKind.i64.wrap n = n := by rw [IntKind.wrap_i64]; omega
theorem i64_ofInt (a : Nat) (ha : a < 2 ^ 63) : (BitVec.ofInt 64 (a : Int)).toNat = a := by
  rw [BitVec.ofInt_natCast, BitVec.toNat_ofNat]; exact Nat.mod_eq_of_lt (by omega)
theorem i64_and (a b : Nat) (ha : a < 2 ^ 63) (hb : b < 2 ^ 63) : bits .and .i64 (a : Int) (b : Int) = ((a &&& b : Nat) : Int) :=
  (bits_nat .i64 63 (by decide) i64_wraps a b ha hb).1
theorem i64_or (a b : Nat) (ha : a < 2 ^ 63) (hb : b < 2 ^ 63) : bits .or .i64 (a : Int) (b : Int) = ((a ||| b : Nat) : Int) :=
  (bits_nat .i64 63 (by decide) i64_wraps a b ha hb).2
theorem i64_xor (a b : Nat) (ha : a < 2 ^ 63) (hb : b < 2 ^ 63) : bits .xor .i64 (a : Int) (b : Int) = ((a ^^^ b : Nat) : Int) := by
  have hx : a ^^^ b < 2 ^ 63 := Nat.xor_lt_two_pow ha hb
  show IntKind.i64.wrap ((BitVec.ofInt 64 (a : Int) ^^^ BitVec.ofInt 64 (b : Int)).toNat : Int) = _
  rw [BitVec.toNat_xor, i64_ofInt a ha, i64_ofInt b hb]
  exact i64_wraps _ (by omega) (by exact_mod_cast hx)
theorem wrap64_nat (a : Nat) (ha : a < 2 ^ 63) : wrap64 (a : Int) = (a : Int) := IntWalk.wrap64_in _ ⟨by omega, by omega⟩
/-- a bit's test, as the walk writes it -/
theorem bit_test (a k : Nat) : (((a : Int) / 2 ^ k).tmod 2 == 1) = decide (a / 2 ^ k % 2 = 1) := by
  have e : ((a : Int) / 2 ^ k) = ((a / 2 ^ k : Nat) : Int) := by simp
  rw [e, Int.tmod_eq_emod_of_nonneg (Int.natCast_nonneg _)]
  rw [Bool.eq_iff_iff]
  simp only [beq_iff_eq, decide_eq_true_eq]
  omega
theorem bit_yes {a k : Nat} (h : (((a : Int) / 2 ^ k).tmod 2 == 1) = true) : a / 2 ^ k % 2 = 1 := by rw [bit_test] at h; simpa using h
theorem bit_no {a k : Nat} (h : (((a : Int) / 2 ^ k).tmod 2 == 1) = false) : a / 2 ^ k % 2 = 0 := by rw [bit_test] at h; simp at h; exact h
end Go.Proofs.YtkgnnlglabihkaaGreatDoor

/- Lent, Kept, Owned of the statements' own package: contracts. -/
namespace Go.Proofs.YtkgnnlglabihkaaGreatDoor
open Go Go.ChangeShapes Go.WideShapes Go.ChangeAt Go.RowKit
set_option linter.unusedVariables false

theorem u8 : U8 Tryz.prog 22 5 := ⟨Tryz.underlying22, Tryz.underlying5, by kernel_rfl⟩
theorem u8size : (Tryz.prog.info? 5).map (·.size) = some 1 := by kernel_rfl

theorem Row.rd_take {w : World} {e : TypeId} {g : Nat} {l r : List UInt8} (h : Row w e g (l ++ r)) : Rd w w.heap.size (some ⟨g, 0, none⟩) l := by
  have := h.rd.take l.length
  simpa using this
end Go.Proofs.YtkgnnlglabihkaaGreatDoor

/- A slice of the call's own, wherever in its block it begins, elements of one cell: reading, storing, cutting, append. No program in sight. -/
namespace Go.Proofs.YtkgnnlglabihkaaGreatDoor
open Go Go.RowKit
set_option linter.unusedVariables false

/-- what the program's tables say of a slice type whose elements take one cell -/
structure El (P : Program) (t e : TypeId) (z : Value) (bytes : Nat) : Prop where
  slice : P.underlying t = some (.slice e)
  info : (P.info? e).map (fun i => (i.zero, i.size, i.bytes)) = some (some z, 1, bytes)
  zone : z.cells.size = 1
theorem U8.el {P : Program} {t e : TypeId} (h : U8 P t e) : El P t e (.int .u8 0) 1 := ⟨h.slice, h.info, rfl⟩

def OwnV (w : World) (e : TypeId) (base : Nat) (v : Value) (xs : List Value) : Prop :=
  (v = .slice none 0 0 ∧ xs = []) ∨
  ∃ g off cap cur, v = .slice (some ⟨g, off, none⟩) xs.length cap ∧ base ≤ g ∧ w.heap[g]? = some (.cells cur e (0, 0)) ∧ xs.length ≤ cap ∧ cap ≤ maxLen ∧ off + cap ≤ cur.size ∧ (cur.toList.drop off).take xs.length = xs

section
variable {w w' : World} {e : TypeId} {base : Nat} {v : Value} {xs : List Value}
theorem OwnV.nil (w : World) (e : TypeId) (base : Nat) : OwnV w e base (.slice none 0 0) [] := .inl ⟨rfl, rfl⟩
theorem OwnV.of_row {n : Nat} (h : w.ownsRow base e 1 v n xs) : OwnV w e base v xs := by
  have hl : xs.length = n := by have := h.1; omega
  rcases h.2 with ⟨rfl, h0⟩ | ⟨g, cap, cur, rfl, hb, hg, hnc, hm, hs, ht⟩
  · exact .inl ⟨rfl, List.eq_nil_of_length_eq_zero (by omega)⟩
  · refine .inr ⟨g, 0, cap, cur, by rw [hl], hb, hg, by omega, hm, by omega, ?_⟩
    rw [List.drop_zero, hl]
    simpa using ht
theorem OwnV.lt (h : OwnV w e base v xs) : ∀ k, v.ownBlock = some k → base ≤ k ∧ k < w.heap.size := by
  intro k hk
  rcases h with ⟨rfl, _⟩ | ⟨g, off, cap, cur, rfl, hb, hg, _⟩
  · cases hk
  · injection hk with hk
    subst hk
    exact ⟨hb, (Array.getElem?_eq_some_iff.1 hg).1⟩
theorem OwnV.keep (h : OwnV w e base v xs) (hk : ∀ k, v.ownBlock = some k → w'.heap[k]? = w.heap[k]?) : OwnV w' e base v xs := by
  rcases h with h | ⟨g, off, cap, cur, rfl, hb, hg, rest⟩
  · exact .inl h
  · exact .inr ⟨g, off, cap, cur, rfl, hb, (hk g rfl).trans hg, rest⟩
theorem OwnV.kept {row : Option Nat} (h : OwnV w e base v xs) (hg : w.grownBy w' row) (hne : v.ownBlock = none ∨ v.ownBlock ≠ row) : OwnV w' e base v xs :=
  h.keep fun k hk => hg.block k (h.lt k hk).2 (by rcases hne with hn | hn; (rw [hn] at hk; cases hk); (rw [← hk]; exact hn))
theorem OwnV.below {B : Nat} (h : OwnV w e base v xs) (hb : Below B w w') (hB : ∀ k, v.ownBlock = some k → k < B) : OwnV w' e base v xs :=
  h.keep fun k hk => hb.block k (hB k hk)
theorem OwnV.below_ (h : OwnV w e base v xs) (hb : Below w.heap.size w w') : OwnV w' e base v xs := h.below hb fun k hk => (h.lt k hk).2
theorem OwnV.alloc (h : OwnV w e base v xs) (o : Obj) : OwnV (w.alloc o) e base v xs := h.below_ ((Below.refl _ _).alloc (Nat.le_refl _) o)
theorem OwnV.drew (h : OwnV w e base v xs) : OwnV w.drew e base v xs := h
theorem OwnV.drewN (h : OwnV w e base v xs) (n : Nat) : OwnV (w.drewN n) e base v xs := h
theorem OwnV.far (h : OwnV w e base v xs) {p : Addr} (hp : v.ownBlock ≠ some p.block) (u : Value) : OwnV (w.setCell p u) e base v xs :=
  h.keep fun k hk => heap_setCell_other w p k u (by rintro rfl; exact hp hk)
theorem OwnV.mono {base' : Nat} (h : OwnV w e base v xs) (hb : ∀ k, v.ownBlock = some k → base' ≤ k) : OwnV w e base' v xs := by
  rcases h with h | ⟨g, off, cap, cur, rfl, _, rest⟩
  · exact .inl h
  · exact .inr ⟨g, off, cap, cur, rfl, hb g rfl, rest⟩
theorem OwnV.len (h : OwnV w e base v xs) : ∃ A c, v = .slice A xs.length c ∧ xs.length ≤ c ∧ c ≤ 9223372036854775807 ∧ (A = none → c = 0) := by
  rcases h with ⟨rfl, rfl⟩ | ⟨g, off, cap, cur, rfl, hb, hg, hn, hm, _⟩
  · exact ⟨none, 0, rfl, Nat.le_refl _, by omega, fun _ => rfl⟩
  · exact ⟨_, cap, rfl, hn, by simp only [maxLen] at hm; omega, fun h => by cases h⟩
theorem addr_add (g off i : Nat) : Addr.add ⟨g, off, none⟩ i = ⟨g, off + i, none⟩ := by unfold Addr.add; split <;> simp_all
/-- an element, where it lies; what is behind a store -/
theorem OwnV.at_ (h : OwnV w e base v xs) {i : Nat} (hi : i < xs.length) :
    ∃ g off c, v = .slice (some ⟨g, off, none⟩) xs.length c ∧ base ≤ g ∧ g < w.heap.size ∧ w.cell? ⟨g, off + i, none⟩ = some xs[i] ∧ w.frozen? ⟨g, off + i, none⟩ = false ∧
      ∀ x, OwnV (w.setCell ⟨g, off + i, none⟩ x) e base v (xs.set i x) := by
  rcases h with ⟨rfl, rfl⟩ | ⟨g, off, cap, cur, rfl, hb, hh, hn, hm, hs, ht⟩
  · simp at hi
  · have hcell : cur[off + i]? = some xs[i] := by
      have e1 : xs[i]? = some xs[i] := List.getElem?_eq_getElem hi
      have e2 : ((cur.toList.drop off).take xs.length)[i]? = some xs[i] := by rw [ht]; exact e1
      rw [List.getElem?_take, if_pos hi, List.getElem?_drop, Array.getElem?_toList] at e2
      exact e2
    refine ⟨g, off, cap, rfl, hb, (Array.getElem?_eq_some_iff.1 hh).1, ?_, frozen_of_row w g _ cur e hh, fun x => .inr ⟨g, off, cap, cur.setIfInBounds (off + i) x, by rw [List.length_set], hb, heap_setCell_same w g _ cur e x hh, by rw [List.length_set]; exact hn, hm, by rw [Array.size_setIfInBounds]; exact hs, ?_⟩⟩
    · rw [cell_of_row w g _ cur e (0, 0) hh, hcell]
    · rw [List.length_set, Array.toList_setIfInBounds, List.drop_set, if_neg (by omega), show off + i - off = i by omega, List.take_set, ht]
/-- s[k:] -/
theorem OwnV.cut {A : Option Addr} {n c : Nat} (h : OwnV w e base (.slice A n c) xs) {k : Nat} (hk : k ≤ xs.length) :
    OwnV w e base (.slice (if c = k then A else A.map (·.add k)) (n - k) (c - k)) (xs.drop k) := by
  rcases h with ⟨h1, rfl⟩ | ⟨g, off, cap, cur, h1, hb, hh, hn, hm, hs, ht⟩
  · injection h1 with h1 h2 h3
    subst h1 h2 h3
    simp only [List.length_nil, Nat.le_zero_eq] at hk
    subst hk
    exact .inl ⟨rfl, rfl⟩
  · injection h1 with h1 h2 h3
    subst h1 h2 h3
    have hdl : (xs.drop k).length = xs.length - k := by simp
    by_cases hck : c = k
    · rw [if_pos hck]
      have h0 : xs.drop k = [] := List.drop_eq_nil_of_le (by omega)
      refine .inr ⟨g, off, c - k, cur, by rw [hdl], hb, hh, by omega, by omega, by omega, ?_⟩
      rw [h0, List.length_nil, List.take_zero]
    · rw [if_neg hck]
      refine .inr ⟨g, off + k, c - k, cur, by rw [hdl, Option.map_some, addr_add], hb, hh, by omega, by omega, by omega, ?_⟩
      rw [hdl]
      conv => rhs; rw [← ht]
      rw [← List.drop_drop, List.drop_take]
end

/-- append onto it, all at once -/
theorem run_append_v {P : Program} {t e : TypeId} {z : Value} {bytes : Nat} (hE : El P t e z bytes) (w : World) (ty : TypeId) (base : Nat) (v : Value) (xs : List Value) (hown : OwnV w e base v xs)
    (A : Option Addr) (m c : Nat) (news : List Value) (hl : news.length = m) (hsrc : 0 < m → ∃ ad, A = some ad ∧ ∀ j u, news[j]? = some u → w.cell? (ad.add j) = some u) (h1 : ∀ u ∈ news, u.oneCell' = true)
    (hbytes : (xs.length + m) * bytes ≤ 140737488355328) (hsz : xs.length + m ≤ 140737488355328) (hbase : base ≤ w.heap.size) :
    ∃ v' w', (Builtin.append_ #[t, t] ty #[v, .slice A m c]).run P w = .ok v' w' ∧ OwnV w' e base v' (xs ++ news) ∧ w.grownBy w' v.ownBlock ∧ (v'.ownBlock = v.ownBlock ∨ v'.ownBlock = some w.heap.size) := by
  subst hl
  obtain ⟨i, hi, hz0, hz1, hz2⟩ := info_parts hE.info
  by_cases h0 : news.length = 0
  · have hnil : news = [] := List.eq_nil_of_length_eq_zero h0
    subst hnil
    refine ⟨v, w, ?_, by simpa using hown, World.grownBy.refl _ _, .inl rfl⟩
    rcases hown with ⟨rfl, rfl⟩ | ⟨g, off, cap, cur, rfl, hb, hh, hn, hm, hs, ht⟩
    · rcases A with _ | ad <;> simp [Builtin.append_, run_underlying hE.slice, sizeOf, typeInfo, hi, Builtin.lenOf, Builtin.firstCells, loadCells, loadCellsFrom]
    · rcases A with _ | ad <;> simp [Builtin.append_, run_underlying hE.slice, sizeOf, typeInfo, hi, Builtin.lenOf, Builtin.firstCells, hn, storeCells, loadCells, loadCellsFrom]
  · obtain ⟨ad, rfl, hcells⟩ := hsrc (by omega)
    rcases hown with ⟨rfl, rfl⟩ | ⟨g, off, cap, cur, rfl, hb, hh, hn, hm, hs, ht⟩
    · simp only [List.length_nil, Nat.zero_add] at hbytes hsz
      obtain ⟨v', w', hrun, h2, h3, _, h5⟩ := run_append_own_at (P := P) w base t ty e i z 1 bytes hE.slice hi hz0 hz1 hz2 hE.zone (by omega) (.slice none 0 0) 0 [] (World.ownsRow_nil _ _ _ _) ad news.length c news (by simp) hcells h1
        (by simp only [maxLen]; omega) (by simpa using hbytes) hbase
      exact ⟨v', w', hrun, by simpa using OwnV.of_row h2, h3, h5⟩
    · have holds : ∀ j u, xs[j]? = some u → w.cell? ((⟨g, off, none⟩ : Addr).add j) = some u := by
        intro j u hj
        rw [addr_add, cell_of_row w g _ cur e (0, 0) hh]
        have hj' : j < xs.length := (List.getElem?_eq_some_iff.1 hj).1
        rw [← ht, List.getElem?_take, if_pos hj', List.getElem?_drop, Array.getElem?_toList] at hj
        exact hj
      by_cases hroom : xs.length + news.length ≤ cap
      · have hf := run_firstCells_some (P := P) w i.size news.length ad news.length c news (by rw [hz1, Nat.mul_one]) hcells
        have hst := run_storeCells_at P g (off + xs.length) e news 0 cur w hh (by omega) h1
        simp only [Nat.add_zero] at hst
        have hadd : Addr.add ⟨g, off, none⟩ (xs.length * i.size) = ⟨g, off + xs.length, none⟩ := by rw [addr_add, hz1, Nat.mul_one]
        refine ⟨.slice (some ⟨g, off, none⟩) (xs.length + news.length) cap, w.setRow g (cur.toList.take (off + xs.length) ++ news ++ cur.toList.drop (off + xs.length + news.length)).toArray, ?_, ?_, ?_, .inl rfl⟩
        · rw [hz1] at hf hadd
          simp only [Nat.mul_one, addr_add] at hadd
          simp [Builtin.append_, run_underlying hE.slice, sizeOf, typeInfo, hi, hz1, Builtin.lenOf, hroom, hf, addr_add, hst]
        · refine .inr ⟨g, off, cap, _, by rw [List.length_append], hb, setRow_heap w g cur _ e _ hh, by rw [List.length_append]; exact hroom, hm, ?_, ?_⟩
          · simp only [List.size_toArray, List.length_append, List.length_take, List.length_drop, Array.length_toList]
            omega
          · have e1 : (cur.toList.take (off + xs.length)).drop off = xs := by
              rw [List.drop_take, show off + xs.length - off = xs.length by omega, ht]
            have hle : off ≤ (cur.toList.take (off + xs.length)).length := by
              simp only [List.length_take, Array.length_toList]; omega
            show List.take (xs ++ news).length (List.drop off (cur.toList.take (off + xs.length) ++ news ++ cur.toList.drop (off + xs.length + news.length))) = xs ++ news
            rw [List.append_assoc, List.drop_append_of_le_length hle, e1, ← List.append_assoc]
            exact List.take_left
        · exact ⟨rfl, rfl, rfl, by simp, fun k _ hk => setRow_other w g k _ (fun e => hk (by simp [Value.ownBlock, e]))⟩
      · obtain ⟨v', w', hrun, h2, h3⟩ := run_append_arg_grows (P := P) w t ty e i z 1 bytes hE.slice hi hz0 hz1 hz2 hE.zone (by omega) ⟨g, off, none⟩ xs.length cap xs (by simp) holds ad news.length c news (by simp) hcells (by omega) (by simp only [maxLen]; omega) hbytes
        have hblk : v'.ownBlock = some w.heap.size ∨ v'.ownBlock = none := by
          rcases h2.2 with ⟨rfl, h9⟩ | ⟨g', cap', cur', rfl, hb', hh', _⟩
          · exact .inr rfl
          · have hg := run_append_grow (P := P) w t ty e i z hE.slice hi hz0 ⟨g, off, none⟩ xs.length cap xs (by rw [hz1, Nat.mul_one]) holds ad news.length c news (by rw [hz1, Nat.mul_one]) hcells (by omega) (by omega) (growslice_fits (by omega) (by rw [hz2]; exact hbytes))
            rw [hg] at hrun
            injection hrun with hr1 hr2
            injection hr1 with hr1
            injection hr1 with hr1
            injection hr1 with hr1
            exact .inl (by simp only [Value.ownBlock]; rw [← hr1])
        refine ⟨v', w', hrun, (OwnV.of_row h2).mono (fun k hk => by have := (OwnV.of_row h2).lt k hk; omega), ⟨h3.os, h3.tape, h3.output, h3.size, fun k hk _ => h3.block k hk (by simp)⟩, ?_⟩
        rcases hblk with h | h
        · exact .inr h
        · exfalso
          rcases h2.2 with ⟨rfl, h9⟩ | ⟨g', cap', cur', rfl, hb', hh', _⟩
          · omega
          · cases h
theorem wp_append_v {P : Program} {t e : TypeId} {z : Value} {bytes : Nat} (hE : El P t e z bytes) {w : World} {o : Oper} {a : Act} {K : Act → World → Prop} {Q : Exit → Act → World → Prop}
    (s x : Operand) (ho : o.op = .call { callee := .builtin .append, args := #[s, x], argTypes := #[t, t] }) (base : Nat) (v : Value) (xs : List Value) (A : Option Addr) (m c : Nat) (news : List Value)
    (hs : a.eval s = v) (hx : a.eval x = .slice A m c) (hown : OwnV w e base v xs) (hl : news.length = m) (hsrc : 0 < m → ∃ ad, A = some ad ∧ ∀ j u, news[j]? = some u → w.cell? (ad.add j) = some u) (h1 : ∀ u ∈ news, u.oneCell' = true)
    (hbytes : (xs.length + m) * bytes ≤ 140737488355328) (hsz : xs.length + m ≤ 140737488355328) (hbase : base ≤ w.heap.size)
    (h : ∀ v' w', OwnV w' e base v' (xs ++ news) → w.grownBy w' v.ownBlock → (v'.ownBlock = v.ownBlock ∨ v'.ownBlock = some w.heap.size) → K (a.put o.dst v') w') : o.wp P a w K Q := by
  obtain ⟨v', w', hr, h2, h3, h4⟩ := run_append_v hE w o.type base v xs hown A m c news hl hsrc h1 hbytes hsz hbase
  unfold Oper.wp execOp
  simp only [ho, resolve, invoke, builtin, Sem.run_bind, Sem.run_pure, Result.andThen_ok, List.map_toArray, List.map_cons, List.map_nil, hs, hx, hr]
  exact h v' w' h2 h3 h4
/-- in a plain region -/
theorem wpList_append_v {P : Program} {t e : TypeId} {z : Value} {bytes : Nat} (hE : El P t e z bytes) {w : World} {ops : Array Oper} {rest : List Oper} {o : Oper} {a : Act} {Q : Exit → Act → World → Prop}
    (hgd : Region.wanted o (yielded ops a.tmps) = true) (s x : Operand) (ho : o.op = .call { callee := .builtin .append, args := #[s, x], argTypes := #[t, t] }) (base : Nat) (v : Value) (xs : List Value) (A : Option Addr) (m c : Nat) (news : List Value)
    (hs : a.eval s = v) (hx : a.eval x = .slice A m c) (hown : OwnV w e base v xs) (hl : news.length = m) (hsrc : 0 < m → ∃ ad, A = some ad ∧ ∀ j u, news[j]? = some u → w.cell? (ad.add j) = some u) (h1 : ∀ u ∈ news, u.oneCell' = true)
    (hbytes : (xs.length + m) * bytes ≤ 140737488355328) (hsz : xs.length + m ≤ 140737488355328) (hbase : base ≤ w.heap.size)
    (h : ∀ v' w', OwnV w' e base v' (xs ++ news) → w.grownBy w' v.ownBlock → (v'.ownBlock = v.ownBlock ∨ v'.ownBlock = some w.heap.size) → wpList P ops Q rest (a.put o.dst v') w') : wpList P ops Q (o :: rest) a w :=
  wpList_wanted hgd fun _ hK => wp_append_v hE s x ho base v xs A m c news hs hx hown hl hsrc h1 hbytes hsz hbase fun v' w' h2 h3 h4 => hK _ _ (h v' w' h2 h3 h4)
/-- at a step of a region that draws its order -/
theorem step_append_v {P : Program} {t e : TypeId} {z : Value} {bytes : Nat} (hE : El P t e z bytes) {w : World} {ops : Array Oper} {o : Oper} {a : Act} {K : Act → World → Prop} {Q : Exit → Act → World → Prop} {E : Prop}
    (hgd : Region.wanted o (yielded ops a.tmps) = true) (s x : Operand) (ho : o.op = .call { callee := .builtin .append, args := #[s, x], argTypes := #[t, t] }) (base : Nat) (v : Value) (xs : List Value) (A : Option Addr) (m c : Nat) (news : List Value)
    (hs : a.eval s = v) (hx : a.eval x = .slice A m c) (hown : OwnV w e base v xs) (hl : news.length = m) (hsrc : 0 < m → ∃ ad, A = some ad ∧ ∀ j u, news[j]? = some u → w.cell? (ad.add j) = some u) (h1 : ∀ u ∈ news, u.oneCell' = true)
    (hbytes : (xs.length + m) * bytes ≤ 140737488355328) (hsz : xs.length + m ≤ 140737488355328) (hbase : base ≤ w.heap.size)
    (h : ∀ v' w', OwnV w' e base v' (xs ++ news) → w.grownBy w' v.ownBlock → (v'.ownBlock = v.ownBlock ∨ v'.ownBlock = some w.heap.size) → K (a.put o.dst v') w') :
    if Region.wanted o (yielded ops a.tmps) = true then Oper.wp P o a w K Q else E := by
  rw [if_pos hgd]
  exact wp_append_v hE s x ho base v xs A m c news hs hx hown hl hsrc h1 hbytes hsz hbase h

/-! ### bytes -/
def OwnB (w : World) (e : TypeId) (base : Nat) (v : Value) (l : List UInt8) : Prop := OwnV w e base v (bvs l)
theorem Own.b {w : World} {e : TypeId} {base : Nat} {v : Value} {l : List UInt8} (h : Own w e base v l) : OwnB w e base v l := OwnV.of_row h
theorem OwnB.form {w : World} {e : TypeId} {base : Nat} {v : Value} {l : List UInt8} (h : OwnB w e base v l) : ∃ A c, v = .slice A l.length c ∧ Rd w w.heap.size A l ∧ l.length ≤ c := by
  rcases h with ⟨rfl, h0⟩ | ⟨g, off, cap, cur, hv, hb, hh, hn, hm, hs, ht⟩
  · have hl : l = [] := List.eq_nil_of_length_eq_zero (by rw [← bvs_length, h0]; rfl)
    subst hl
    exact ⟨none, 0, rfl, Rd.nil _ _ _, Nat.le_refl _⟩
  · rw [bvs_length] at hv hn ht
    refine ⟨_, cap, hv, fun hpos => ⟨_, rfl, (Array.getElem?_eq_some_iff.1 hh).1, fun j hj => ?_⟩, hn⟩
    have e2 : ((cur.toList.drop off).take l.length)[j]? = some (bv l[j]) := by rw [ht]; exact bvs_get hj
    rw [List.getElem?_take, if_pos hj, List.getElem?_drop, Array.getElem?_toList] at e2
    rw [addr_add, cell_of_row w g _ cur e (0, 0) hh, e2]
theorem Rd.news {w : World} {B : Nat} {A : Option Addr} {l : List UInt8} (h : Rd w B A l) (m : Nat) (hm : l.length = m) : 0 < m → ∃ ad, A = some ad ∧ ∀ j u, (bvs l)[j]? = some u → w.cell? (ad.add j) = some u := fun h0 => h.src (by omega)
end Go.Proofs.YtkgnnlglabihkaaGreatDoor

/- Which blocks stay as they are; bytes and rows of bytes that lie in such blocks. No program in sight. -/
namespace Go.Proofs.YtkgnnlglabihkaaGreatDoor
open Go Go.RowKit
set_option linter.unusedVariables false

/-- w' is w but for new blocks and for the blocks outside S -/
structure Frame (S : Nat → Prop) (w w' : World) : Prop where
  os : w'.os = w.os
  tape : w'.tape = w.tape
  output : w'.output = w.output
  size : w.heap.size ≤ w'.heap.size
  block : ∀ k, S k → w'.heap[k]? = w.heap[k]?
section
variable {S T : Nat → Prop} {w w' w'' : World}
theorem Frame.refl (S : Nat → Prop) (w : World) : Frame S w w := ⟨rfl, rfl, rfl, Nat.le_refl _, fun _ _ => rfl⟩
theorem Frame.trans (h : Frame S w w') (h' : Frame T w' w'') (hS : ∀ k, S k → T k) : Frame S w w'' :=
  ⟨h'.os.trans h.os, h'.tape.trans h.tape, h'.output.trans h.output, Nat.le_trans h.size h'.size, fun k hk => (h'.block k (hS k hk)).trans (h.block k hk)⟩
theorem Frame.mono (h : Frame S w w') (hS : ∀ k, T k → S k) : Frame T w w' := ⟨h.os, h.tape, h.output, h.size, fun k hk => h.block k (hS k hk)⟩
theorem Frame.of_below {B : Nat} (h : Below B w w') (hS : ∀ k, S k → k < B) : Frame S w w' := ⟨h.os, h.tape, h.output, h.size, fun k hk => h.block k (hS k hk)⟩
theorem Frame.toBelow {B : Nat} (h : Frame S w w') (hS : ∀ k, k < B → S k) : Below B w w' := ⟨h.os, h.tape, h.output, h.size, fun k hk => h.block k (hS k hk)⟩
theorem Frame.of_grown {row : Option Nat} (h : w.grownBy w' row) (hS : ∀ k, S k → k < w.heap.size ∧ some k ≠ row) : Frame S w w' := ⟨h.os, h.tape, h.output, h.size, fun k hk => h.block k (hS k hk).1 (hS k hk).2⟩
theorem Frame.setCell (h : Frame S w w') {p : Addr} (hp : ¬ S p.block) (u : Value) : Frame S w (w'.setCell p u) :=
  ⟨h.os, h.tape, h.output, by simpa using h.size, fun k hk => (heap_setCell_other w' p k u (by rintro rfl; exact hp hk)).trans (h.block k hk)⟩
theorem Frame.setRow (h : Frame S w w') {g : Nat} (hp : ¬ S g) (cs : Array Value) : Frame S w (w'.setRow g cs) :=
  ⟨h.os, h.tape, h.output, by rw [setRow_size]; exact h.size, fun k hk => (setRow_other w' g k cs (by rintro rfl; exact hp hk)).trans (h.block k hk)⟩
theorem Frame.alloc (h : Frame S w w') (hS : ∀ k, S k → k < w'.heap.size) (o : Obj) : Frame S w (w'.alloc o) :=
  ⟨h.os, h.tape, h.output, Nat.le_trans h.size (by simp), fun k hk => (heap_alloc_old w' o (hS k hk)).trans (h.block k hk)⟩
theorem Frame.drewN (h : Frame S w w') (n : Nat) : Frame S w (w'.drewN n) := ⟨h.os, h.tape, h.output, h.size, h.block⟩
theorem Frame.drew (h : Frame S w w') : Frame S w w'.drew := ⟨h.os, h.tape, h.output, h.size, h.block⟩
theorem Frame.row {T : TypeId} {g : Nat} {xs : Array Value} {fr : Nat × Nat} (h : Frame S w w') (hg : S g) (hr : w.heap[g]? = some (.cells xs T fr)) : w'.heap[g]? = some (.cells xs T fr) := (h.block g hg).trans hr
theorem Frame.own {e : TypeId} {base : Nat} {v : Value} {xs : List Value} (h : Frame S w w') (hv : OwnV w e base v xs) (hS : ∀ k, v.ownBlock = some k → S k) : OwnV w' e base v xs := hv.keep fun k hk => h.block k (hS k hk)
end
/-- what was there reads as before -/
theorem bcell {W w1 : World} {B : Nat} (hb : Below B W w1) : (∀ b o, b < B → w1.cell? ⟨b, o, none⟩ = W.cell? ⟨b, o, none⟩) ∧ (∀ b o, b < B → w1.frozen? ⟨b, o, none⟩ = W.frozen? ⟨b, o, none⟩) :=
  ⟨fun b o h => hb.cell (p := ⟨b, o, none⟩) h, fun b o h => hb.frozen (p := ⟨b, o, none⟩) h⟩
/-- bytes in a block of S -/
def RdS (w : World) (S : Nat → Prop) (A : Option Addr) (l : List UInt8) : Prop :=
  0 < l.length → ∃ ad, A = some ad ∧ S ad.block ∧ ∀ j (hj : j < l.length), w.cell? (ad.add j) = some (bv l[j])
section
variable {S T : Nat → Prop} {w w' : World} {A : Option Addr} {l : List UInt8}
theorem RdS.nil (w : World) (S : Nat → Prop) (A : Option Addr) : RdS w S A [] := fun h => absurd h (by simp)
theorem Rd.s {B : Nat} (h : Rd w B A l) (hS : ∀ k, k < B → S k) : RdS w S A l := fun h0 => by
  obtain ⟨ad, e, hb, hc⟩ := h h0
  exact ⟨ad, e, hS _ hb, hc⟩
theorem RdS.rd {B : Nat} (h : RdS w S A l) (hS : ∀ k, S k → k < B) : Rd w B A l := fun h0 => by
  obtain ⟨ad, e, hb, hc⟩ := h h0
  exact ⟨ad, e, hS _ hb, hc⟩
theorem RdS.mono (h : RdS w S A l) (hS : ∀ k, S k → T k) : RdS w T A l := fun h0 => by
  obtain ⟨ad, e, hb, hc⟩ := h h0
  exact ⟨ad, e, hS _ hb, hc⟩
theorem RdS.frame (h : RdS w S A l) (hf : Frame S w w') : RdS w' S A l := fun h0 => by
  obtain ⟨ad, e, hb, hc⟩ := h h0
  refine ⟨ad, e, hb, fun j hj => ?_⟩
  rw [← hc j hj]
  exact World.cell?_of_block (by rw [add_block]; exact hf.block _ hb)
theorem RdS.at_ (h : RdS w S A l) {k : Nat} (hk : k < l.length) : ∃ ad, A = some ad ∧ S ad.block ∧ w.cell? (ad.add k) = some (bv l[k]) := by
  obtain ⟨ad, e, hb, hc⟩ := h (by omega)
  exact ⟨ad, e, hb, hc k hk⟩
end
/-- rows of bytes: each in a block of S, the row of rows too -/
structure Part where
  A : Option Addr
  n : Nat
  c : Nat
  l : List UInt8
def Part.val (p : Part) : Value := .slice p.A p.n p.c
structure PartsS (w : World) (S : Nat → Prop) (A : Option Addr) (ps : List Part) : Prop where
  at_ : 0 < ps.length → ∃ ad, A = some ad ∧ S ad.block ∧ ∀ j (hj : j < ps.length), w.cell? (ad.add j) = some ps[j].val
  part : ∀ p ∈ ps, p.l.length = p.n ∧ p.n ≤ p.c ∧ p.c ≤ 9223372036854775807 ∧ RdS w S p.A p.l
def bytesOf (ps : List Part) : List UInt8 := (ps.map (·.l)).flatten
theorem bytesOf_step (ps : List Part) (k : Nat) (h : k < ps.length) : bytesOf (ps.take (k+1)) = bytesOf (ps.take k) ++ ps[k].l := by
  unfold bytesOf; rw [List.take_succ_eq_append_getElem h, List.map_append, List.flatten_append]; simp
section
variable {S T : Nat → Prop} {w w' : World} {A : Option Addr} {ps : List Part}
theorem PartsS.frame (h : PartsS w S A ps) (hf : Frame S w w') : PartsS w' S A ps := by
  refine ⟨fun h0 => ?_, fun p hp => ?_⟩
  · obtain ⟨ad, e, hb, hc⟩ := h.at_ h0
    refine ⟨ad, e, hb, fun j hj => ?_⟩
    rw [← hc j hj]
    exact World.cell?_of_block (by rw [add_block]; exact hf.block _ hb)
  · obtain ⟨h1, h2, h3, h4⟩ := h.part p hp
    exact ⟨h1, h2, h3, h4.frame hf⟩
theorem PartsS.mono (h : PartsS w S A ps) (hS : ∀ k, S k → T k) : PartsS w T A ps := by
  refine ⟨fun h0 => ?_, fun p hp => ?_⟩
  · obtain ⟨ad, e, hb, hc⟩ := h.at_ h0
    exact ⟨ad, e, hS _ hb, hc⟩
  · obtain ⟨h1, h2, h3, h4⟩ := h.part p hp
    exact ⟨h1, h2, h3, h4.mono hS⟩
/-- rows written out in a new block -/
theorem parts_new {w : World} {S : Nat → Prop} (T : TypeId) (ps : List Part) (h : ∀ p ∈ ps, p.l.length = p.n ∧ p.n ≤ p.c ∧ p.c ≤ 9223372036854775807 ∧ RdS w S p.A p.l) (hS : ∀ k, S k → k < w.heap.size) {T' : Nat → Prop} (hN : T' w.heap.size) (hT : ∀ k, S k → T' k) :
    PartsS (w.alloc (.cells (ps.map Part.val).toArray T)) T' (some ⟨w.heap.size, 0, none⟩) ps := by
  refine ⟨fun _ => ⟨_, rfl, hN, fun j hj => ?_⟩, fun p hp => ?_⟩
  · rw [add_zero_block, cell_of_row _ _ j _ T (0, 0) (heap_alloc_new w _)]
    simp [hj]
  · obtain ⟨h1, h2, h3, h4⟩ := h p hp
    exact ⟨h1, h2, h3, (h4.frame ((Frame.refl S w).alloc hS _)).mono hT⟩
end
/-- a row of rows of the call's own -/
theorem own_parts {w : World} {e : TypeId} {base n c : Nat} {A : Option Addr} {S : Nat → Prop} {ps : List Part} (h : OwnV w e base (.slice A n c) (ps.map Part.val)) (hS : ∀ k, base ≤ k → k < w.heap.size → S k)
    (hp : ∀ p ∈ ps, p.l.length = p.n ∧ p.n ≤ p.c ∧ p.c ≤ 9223372036854775807 ∧ RdS w S p.A p.l) : PartsS w S A ps := by
  refine ⟨fun h0 => ?_, hp⟩
  obtain ⟨g, off, c', hv, hb, hg, _⟩ := h.at_ (i := 0) (by rw [List.length_map]; exact h0)
  injection hv with hv1 hv2 hv3
  subst hv1
  refine ⟨_, rfl, hS _ hb hg, fun j hj => ?_⟩
  obtain ⟨g', off', c'', hv', _, _, hc, _⟩ := h.at_ (i := j) (by rw [List.length_map]; exact hj)
  injection hv' with hv1 _ _
  injection hv1 with hv1
  injection hv1 with hv1 hv2
  subst hv1 hv2
  rw [addr_add, hc, List.getElem_map]
theorem ArgS {w : World} {A : Option Addr} {l : List UInt8} (h : Rd w w.heap.size A l) : RdS w (fun k => k < w.heap.size) A l := h.s (fun _ hk => hk)
end Go.Proofs.YtkgnnlglabihkaaGreatDoor

/- The arguments of a statement, opened in this seat's words: bytes, with the reach that every row grants. -/
namespace Go.Proofs.YtkgnnlglabihkaaGreatDoor
open Go Go.ChangeShapes Go.WideShapes Go.ChangeAt Go.RowKit
set_option linter.unusedVariables false

/-- what the walk is told of bytes that came in -/
structure ArgB (w : World) (a : Option Addr) (len cap : Nat) (l : List UInt8) : Prop where
  hlen : l.length = len
  fit : len ≤ cap
  room : cap ≤ 140737488351232
  rd : Rd w w.heap.size a l

theorem u8_of_wf {x : Int} (h : (Lit.int .u8 x).wf = true) : ((UInt8.ofNat x.toNat).toNat : Int) = x := by
  obtain ⟨h0, h1⟩ := bounds_u8 h
  rw [UInt8.toNat_ofNat']
  omega

theorem open_bytes {H : Type} {enc : TypeId × Value → H} {P : Program} {t e : TypeId} (hP : U8 P t e) (hc : P.cellsOf e = 1) (hb : P.bytesOf e = 1) {W : World} {a0 : Option Addr} {len cap : Nat} {d0 : DataW H} {p : List MemPlace}
    (h0 : DataW.Trod enc P W 0 (fun _ => true) true t (.slice a0 len cap) d0 p) {ts : List TypeId} {ds : List (DataW H)} {j : Nat} (hsz : (DataW.weightsEach P ts ds).all (· ≤ reachBytes) = true) (ht : ts[j]? = some t) (hd : ds[j]? = some d0) :
    ∃ l, ArgB W a0 len cap l := by
  obtain ⟨fuel, hf⟩ := h0
  rcases open_ints hP.slice hP.elem hc hf with ⟨hcs, hx⟩ | ⟨a, len', cap', zs, hcs, _, hl, hm, hz, hx, hcell, hwz⟩
  · simp [Value.cells] at hcs
    obtain ⟨rfl, rfl, rfl⟩ := hcs
    exact ⟨[], rfl, Nat.le_refl _, by omega, Rd.nil _ _ _⟩
  · simp [Value.cells] at hcs
    obtain ⟨rfl, rfl, rfl⟩ := hcs
    simp only [Prod.mk.injEq] at hx
    obtain ⟨hdx, _⟩ := hx
    simp only [if_true] at hz
    rw [hdx] at hd
    have hs := sized_slice hsz ht hd hP.slice
    rw [hb] at hs
    simp only [lits, List.length_map, List.length_take, List.length_drop, reachBytes, Nat.mul_one] at hs
    have hcap : cap ≤ 140737488351232 := by omega
    refine ⟨(zs.take len).map fun n => UInt8.ofNat n.toNat, by simp; omega, hl, hcap, fun hpos => ?_⟩
    have hlz : 0 < zs.length := by simp at hpos; omega
    refine ⟨a, rfl, ?_, fun i hi => ?_⟩
    · have := hcell 0 hlz
      have hlt := block_lt_of_cell this
      rwa [add_block] at hlt
    · have hi' : i < len ∧ i < zs.length := by simp at hi; omega
      rw [hcell i hi'.2]
      have hw := hwz zs[i] (List.getElem_mem hi'.2)
      simp only [bv, List.getElem_map, List.getElem_take, u8_of_wf hw, List.getD, List.getElem?_eq_getElem hi'.2, Option.getD_some]
end Go.Proofs.YtkgnnlglabihkaaGreatDoor

/- Rows of bytes that came in, opened in this seat's words. -/
namespace Go.Proofs.YtkgnnlglabihkaaGreatDoor
open Go Go.ChangeShapes Go.WideShapes Go.ChangeAt Go.RowKit
set_option linter.unusedVariables false

/-- what the walk is told of rows of bytes that came in -/
structure ArgR (w : World) (a : Option Addr) (len cap : Nat) (ps : List Part) : Prop where
  hlen : ps.length = len
  fit : len ≤ cap
  room : cap ≤ 9223372036854775807
  rows : PartsS w (fun k => k < w.heap.size) a ps

theorem open_rows {H : Type} {enc : TypeId × Value → H} {P : Program} {t e q : TypeId} (ht : P.underlying t = some (.slice e)) (he : P.underlying e = some (.slice q)) (hq : P.underlying q = some (.int .u8)) (ce : P.cellsOf e = 1) (cq : P.cellsOf q = 1) {W : World} {a0 : Option Addr} {len cap : Nat} {d0 : DataW H} {p : List MemPlace}
    (h0 : DataW.Trod enc P W 0 (fun _ => true) true t (.slice a0 len cap) d0 p) : ∃ ps, ArgR W a0 len cap ps := by
  obtain ⟨fuel, hf⟩ := h0
  rcases Go.Deep.open_int_rows ht he hq ce cq hf with ⟨hcs, _⟩ | ⟨a, len', cap', A, L, C, Z, hcs, _, hl, hm, _, hr⟩
  · simp [Value.cells] at hcs
    obtain ⟨rfl, rfl, rfl⟩ := hcs
    exact ⟨[], rfl, Nat.le_refl _, by omega, ⟨fun h => absurd h (by simp), fun p hp => by cases hp⟩⟩
  · simp [Value.cells] at hcs
    obtain ⟨rfl, rfl, rfl⟩ := hcs
    refine ⟨(List.range len).map fun r => ⟨A r, L r, C r, ((Z r).take (L r)).map fun n => UInt8.ofNat n.toNat⟩, by simp, hl, by simp only [maxLen] at hm; omega, ⟨fun h => ?_, fun p hp => ?_⟩⟩
    · have h0 : 0 < len := by simpa using h
      refine ⟨a, rfl, ?_, fun j hj => ?_⟩
      · have := block_lt_of_cell (hr 0 (by omega)).1
        rwa [add_block] at this
      · have hj' : j < len := by simpa using hj
        rw [(hr j (by omega)).1]
        simp [Part.val]
    · simp only [List.mem_map, List.mem_range] at hp
      obtain ⟨r, hrl, rfl⟩ := hp
      obtain ⟨_, h2, h3, h4, h5, h6, h7⟩ := hr r (by omega)
      refine ⟨by simp; omega, h2, by simp only [maxLen] at h3; exact (by show C r ≤ _; omega), fun hpos => ?_⟩
      have hL : 0 < L r := by simp at hpos; omega
      rcases hA : A r with _ | ad
      · have := h6 hA; omega
      · obtain ⟨_, hc⟩ := h7 ad hA
        refine ⟨ad, rfl, ?_, fun j hj => ?_⟩
        · have := block_lt_of_cell (hc 0 (by omega))
          rwa [add_block] at this
        · have hj' : j < L r := by simp at hj; omega
          have hz : j < (Z r).length := by omega
          rw [hc j (by omega)]
          have hw := h5 (Z r)[j] (List.getElem_mem hz)
          simp only [bv, List.getElem_map, List.getElem_take, u8_of_wf hw, List.getD, List.getElem?_eq_getElem hz, Option.getD_some]
end Go.Proofs.YtkgnnlglabihkaaGreatDoor

/- bytes.Clone, walked: contract. -/
namespace Go.Proofs.YtkgnnlglabihkaaGreatDoor
open Go Go.ChangeShapes Go.WideShapes Go.ChangeAt Go.RowKit
set_option linter.unusedVariables false
set_option maxRecDepth 100000 in
set_option maxHeartbeats 1000000 in
theorem bclone_any (A : Option Addr) (n c : Nat) (l : List UInt8) (w : World) (B : Nat) (hB : B ≤ w.heap.size) (hn : l.length = n) (hm : n ≤ 140737488355328) (hr : Rd w B A l) :
    Calls Tryz.prog 26 #[.slice A n c] w fun e w' => ∃ v, e = .returned v ∧ Own w' 5 w.heap.size v l ∧ Below w.heap.size w w' := by
  subst hn
  rcases A with _ | ad
  · have hl : l = [] := by
      rcases Nat.eq_zero_or_pos l.length with h0 | h0
      · exact List.eq_nil_of_length_eq_zero h0
      · obtain ⟨_, h', _⟩ := hr h0
        cases h'
    subst hl
    have kn := fun w' : World => Lib.run_eql_slice_nil (P := Tryz.prog) w' 22 5 none 0 c 0 0 Tryz.underlying22
    rw [List.length_nil]
    go_enter Tryz.func26, Tryz.ntmps26
    go_wp2
    go_ret
    exact ⟨_, rfl, Own.nil _ _ _, Below.refl _ _⟩
  · have kn := fun w' : World => Lib.run_eql_slice_nil (P := Tryz.prog) w' 22 5 (some ad) l.length c 0 0 Tryz.underlying22
    have hOe := own_empty 5 (Nat.le_refl w.heap.size)
    have hbe := (Below.refl w.heap.size w).alloc (Nat.le_refl _) (.cells #[] 5)
    have hre := hr.alloc hB (.cells #[] 5)
    have hse := hbe.size
    go_enter Tryz.func26, Tryz.ntmps26
    go_wp2_with (with_reducible refine at_slot 7 ?_
                 refine wpList_append_u8 u8 rfl (.tmp 5) (.tmp 6) rfl w.heap.size _ [] _ l.length c l B rfl rfl hOe hre rfl (by simp; omega) hse ?_
                 intro v2 w2 hO2 hg2 hat2)
    go_ret
    rw [List.nil_append] at hO2
    exact ⟨v2, rfl, hO2, below_grown hbe hg2 hse hOe (Nat.le_refl _)⟩
end Go.Proofs.YtkgnnlglabihkaaGreatDoor

/- append onto a slice of the call's own: what it held stands where it stood. No program in sight. -/
namespace Go.Proofs.YtkgnnlglabihkaaGreatDoor
open Go Go.RowKit
set_option linter.unusedVariables false

/-- append onto it; what it held stands where it stood -/
theorem run_append_k {P : Program} {t e : TypeId} {z : Value} {bytes : Nat} (hE : El P t e z bytes) (w : World) (ty : TypeId) (base : Nat) (v : Value) (xs : List Value) (hown : OwnV w e base v xs)
    (A : Option Addr) (m c : Nat) (news : List Value) (hl : news.length = m) (hsrc : 0 < m → ∃ ad, A = some ad ∧ ∀ j u, news[j]? = some u → w.cell? (ad.add j) = some u) (h1 : ∀ u ∈ news, u.oneCell' = true)
    (hbytes : (xs.length + m) * bytes ≤ 140737488355328) (hsz : xs.length + m ≤ 140737488355328) (hbase : base ≤ w.heap.size) :
    ∃ v' w', (Builtin.append_ #[t, t] ty #[v, .slice A m c]).run P w = .ok v' w' ∧ OwnV w' e base v' (xs ++ news) ∧ w.grownBy w' v.ownBlock ∧ (v'.ownBlock = v.ownBlock ∨ v'.ownBlock = some w.heap.size) ∧ OwnV w' e base v xs := by
  subst hl
  obtain ⟨i, hi, hz0, hz1, hz2⟩ := info_parts hE.info
  by_cases h0 : news.length = 0
  · have hnil : news = [] := List.eq_nil_of_length_eq_zero h0
    subst hnil
    refine ⟨v, w, ?_, by simpa using hown, World.grownBy.refl _ _, .inl rfl, hown⟩
    rcases hown with ⟨rfl, rfl⟩ | ⟨g, off, cap, cur, rfl, hb, hh, hn, hm, hs, ht⟩
    · rcases A with _ | ad <;> simp [Builtin.append_, run_underlying hE.slice, sizeOf, typeInfo, hi, Builtin.lenOf, Builtin.firstCells, loadCells, loadCellsFrom]
    · rcases A with _ | ad <;> simp [Builtin.append_, run_underlying hE.slice, sizeOf, typeInfo, hi, Builtin.lenOf, Builtin.firstCells, hn, storeCells, loadCells, loadCellsFrom]
  · obtain ⟨ad, rfl, hcells⟩ := hsrc (by omega)
    rcases hown with ⟨rfl, rfl⟩ | ⟨g, off, cap, cur, rfl, hb, hh, hn, hm, hs, ht⟩
    · simp only [List.length_nil, Nat.zero_add] at hbytes hsz
      obtain ⟨v', w', hrun, h2, h3, _, h5⟩ := run_append_own_at (P := P) w base t ty e i z 1 bytes hE.slice hi hz0 hz1 hz2 hE.zone (by omega) (.slice none 0 0) 0 [] (World.ownsRow_nil _ _ _ _) ad news.length c news (by simp) hcells h1
        (by simp only [maxLen]; omega) (by simpa using hbytes) hbase
      exact ⟨v', w', hrun, by simpa using OwnV.of_row h2, h3, h5, .inl ⟨rfl, rfl⟩⟩
    · have holds : ∀ j u, xs[j]? = some u → w.cell? ((⟨g, off, none⟩ : Addr).add j) = some u := by
        intro j u hj
        rw [addr_add, cell_of_row w g _ cur e (0, 0) hh]
        have hj' : j < xs.length := (List.getElem?_eq_some_iff.1 hj).1
        rw [← ht, List.getElem?_take, if_pos hj', List.getElem?_drop, Array.getElem?_toList] at hj
        exact hj
      by_cases hroom : xs.length + news.length ≤ cap
      · have hf := run_firstCells_some (P := P) w i.size news.length ad news.length c news (by rw [hz1, Nat.mul_one]) hcells
        have hst := run_storeCells_at P g (off + xs.length) e news 0 cur w hh (by omega) h1
        simp only [Nat.add_zero] at hst
        have hadd : Addr.add ⟨g, off, none⟩ (xs.length * i.size) = ⟨g, off + xs.length, none⟩ := by rw [addr_add, hz1, Nat.mul_one]
        refine ⟨.slice (some ⟨g, off, none⟩) (xs.length + news.length) cap, w.setRow g (cur.toList.take (off + xs.length) ++ news ++ cur.toList.drop (off + xs.length + news.length)).toArray, ?_, ?_, ?_, .inl rfl, ?_⟩
        · rw [hz1] at hf hadd
          simp only [Nat.mul_one, addr_add] at hadd
          simp [Builtin.append_, run_underlying hE.slice, sizeOf, typeInfo, hi, hz1, Builtin.lenOf, hroom, hf, addr_add, hst]
        · refine .inr ⟨g, off, cap, _, by rw [List.length_append], hb, setRow_heap w g cur _ e _ hh, by rw [List.length_append]; exact hroom, hm, ?_, ?_⟩
          · simp only [List.size_toArray, List.length_append, List.length_take, List.length_drop, Array.length_toList]
            omega
          · have e1 : (cur.toList.take (off + xs.length)).drop off = xs := by
              rw [List.drop_take, show off + xs.length - off = xs.length by omega, ht]
            have hle : off ≤ (cur.toList.take (off + xs.length)).length := by
              simp only [List.length_take, Array.length_toList]; omega
            show List.take (xs ++ news).length (List.drop off (cur.toList.take (off + xs.length) ++ news ++ cur.toList.drop (off + xs.length + news.length))) = xs ++ news
            rw [List.append_assoc, List.drop_append_of_le_length hle, e1, ← List.append_assoc]
            exact List.take_left
        · exact ⟨rfl, rfl, rfl, by simp, fun k _ hk => setRow_other w g k _ (fun e => hk (by simp [Value.ownBlock, e]))⟩
        · refine .inr ⟨g, off, cap, _, rfl, hb, setRow_heap w g cur _ e _ hh, hn, hm, ?_, ?_⟩
          · simp only [List.size_toArray, List.length_append, List.length_take, List.length_drop, Array.length_toList]
            omega
          · have e1 : (cur.toList.take (off + xs.length)).drop off = xs := by
              rw [List.drop_take, show off + xs.length - off = xs.length by omega, ht]
            have hle : off ≤ (cur.toList.take (off + xs.length)).length := by
              simp only [List.length_take, Array.length_toList]; omega
            show List.take xs.length (List.drop off (cur.toList.take (off + xs.length) ++ news ++ cur.toList.drop (off + xs.length + news.length))) = xs
            rw [List.append_assoc, List.drop_append_of_le_length hle, e1]
            exact List.take_left
      · obtain ⟨v', w', hrun, h2, h3⟩ := run_append_arg_grows (P := P) w t ty e i z 1 bytes hE.slice hi hz0 hz1 hz2 hE.zone (by omega) ⟨g, off, none⟩ xs.length cap xs (by simp) holds ad news.length c news (by simp) hcells (by omega) (by simp only [maxLen]; omega) hbytes
        have hblk : v'.ownBlock = some w.heap.size ∨ v'.ownBlock = none := by
          rcases h2.2 with ⟨rfl, h9⟩ | ⟨g', cap', cur', rfl, hb', hh', _⟩
          · exact .inr rfl
          · have hg := run_append_grow (P := P) w t ty e i z hE.slice hi hz0 ⟨g, off, none⟩ xs.length cap xs (by rw [hz1, Nat.mul_one]) holds ad news.length c news (by rw [hz1, Nat.mul_one]) hcells (by omega) (by omega) (growslice_fits (by omega) (by rw [hz2]; exact hbytes))
            rw [hg] at hrun
            injection hrun with hr1 hr2
            injection hr1 with hr1
            injection hr1 with hr1
            injection hr1 with hr1
            exact .inl (by simp only [Value.ownBlock]; rw [← hr1])
        refine ⟨v', w', hrun, (OwnV.of_row h2).mono (fun k hk => by have := (OwnV.of_row h2).lt k hk; omega), ⟨h3.os, h3.tape, h3.output, h3.size, fun k hk _ => h3.block k hk (by simp)⟩, ?_, (OwnV.keep (w' := w') (v := .slice (some ⟨g, off, none⟩) xs.length cap) (.inr ⟨g, off, cap, cur, rfl, hb, hh, hn, hm, hs, ht⟩) fun k hk => h3.block k (by injection hk with hk; rw [← hk]; exact (Array.getElem?_eq_some_iff.1 hh).1) (by simp))⟩
        rcases hblk with h | h
        · exact .inr h
        · exfalso
          rcases h2.2 with ⟨rfl, h9⟩ | ⟨g', cap', cur', rfl, hb', hh', _⟩
          · omega
          · cases h
theorem wp_append_k {P : Program} {t e : TypeId} {z : Value} {bytes : Nat} (hE : El P t e z bytes) {w : World} {o : Oper} {a : Act} {K : Act → World → Prop} {Q : Exit → Act → World → Prop}
    (s x : Operand) (ho : o.op = .call { callee := .builtin .append, args := #[s, x], argTypes := #[t, t] }) (base : Nat) (v : Value) (xs : List Value) (A : Option Addr) (m c : Nat) (news : List Value)
    (hs : a.eval s = v) (hx : a.eval x = .slice A m c) (hown : OwnV w e base v xs) (hl : news.length = m) (hsrc : 0 < m → ∃ ad, A = some ad ∧ ∀ j u, news[j]? = some u → w.cell? (ad.add j) = some u) (h1 : ∀ u ∈ news, u.oneCell' = true)
    (hbytes : (xs.length + m) * bytes ≤ 140737488355328) (hsz : xs.length + m ≤ 140737488355328) (hbase : base ≤ w.heap.size)
    (h : ∀ v' w', OwnV w' e base v' (xs ++ news) → w.grownBy w' v.ownBlock → (v'.ownBlock = v.ownBlock ∨ v'.ownBlock = some w.heap.size) → OwnV w' e base v xs → K (a.put o.dst v') w') : o.wp P a w K Q := by
  obtain ⟨v', w', hr, h2, h3, h4, h5⟩ := run_append_k hE w o.type base v xs hown A m c news hl hsrc h1 hbytes hsz hbase
  unfold Oper.wp execOp
  simp only [ho, resolve, invoke, builtin, Sem.run_bind, Sem.run_pure, Result.andThen_ok, List.map_toArray, List.map_cons, List.map_nil, hs, hx, hr]
  exact h v' w' h2 h3 h4 h5
/-- in a plain region -/
theorem wpList_append_k {P : Program} {t e : TypeId} {z : Value} {bytes : Nat} (hE : El P t e z bytes) {w : World} {ops : Array Oper} {rest : List Oper} {o : Oper} {a : Act} {Q : Exit → Act → World → Prop}
    (hgd : Region.wanted o (yielded ops a.tmps) = true) (s x : Operand) (ho : o.op = .call { callee := .builtin .append, args := #[s, x], argTypes := #[t, t] }) (base : Nat) (v : Value) (xs : List Value) (A : Option Addr) (m c : Nat) (news : List Value)
    (hs : a.eval s = v) (hx : a.eval x = .slice A m c) (hown : OwnV w e base v xs) (hl : news.length = m) (hsrc : 0 < m → ∃ ad, A = some ad ∧ ∀ j u, news[j]? = some u → w.cell? (ad.add j) = some u) (h1 : ∀ u ∈ news, u.oneCell' = true)
    (hbytes : (xs.length + m) * bytes ≤ 140737488355328) (hsz : xs.length + m ≤ 140737488355328) (hbase : base ≤ w.heap.size)
    (h : ∀ v' w', OwnV w' e base v' (xs ++ news) → w.grownBy w' v.ownBlock → (v'.ownBlock = v.ownBlock ∨ v'.ownBlock = some w.heap.size) → OwnV w' e base v xs → wpList P ops Q rest (a.put o.dst v') w') : wpList P ops Q (o :: rest) a w :=
  wpList_wanted hgd fun _ hK => wp_append_k hE s x ho base v xs A m c news hs hx hown hl hsrc h1 hbytes hsz hbase fun v' w' h2 h3 h4 h5 => hK _ _ (h v' w' h2 h3 h4 h5)
/-- at a step of a region that draws its order -/
theorem step_append_k {P : Program} {t e : TypeId} {z : Value} {bytes : Nat} (hE : El P t e z bytes) {w : World} {ops : Array Oper} {o : Oper} {a : Act} {K : Act → World → Prop} {Q : Exit → Act → World → Prop} {E : Prop}
    (hgd : Region.wanted o (yielded ops a.tmps) = true) (s x : Operand) (ho : o.op = .call { callee := .builtin .append, args := #[s, x], argTypes := #[t, t] }) (base : Nat) (v : Value) (xs : List Value) (A : Option Addr) (m c : Nat) (news : List Value)
    (hs : a.eval s = v) (hx : a.eval x = .slice A m c) (hown : OwnV w e base v xs) (hl : news.length = m) (hsrc : 0 < m → ∃ ad, A = some ad ∧ ∀ j u, news[j]? = some u → w.cell? (ad.add j) = some u) (h1 : ∀ u ∈ news, u.oneCell' = true)
    (hbytes : (xs.length + m) * bytes ≤ 140737488355328) (hsz : xs.length + m ≤ 140737488355328) (hbase : base ≤ w.heap.size)
    (h : ∀ v' w', OwnV w' e base v' (xs ++ news) → w.grownBy w' v.ownBlock → (v'.ownBlock = v.ownBlock ∨ v'.ownBlock = some w.heap.size) → OwnV w' e base v xs → K (a.put o.dst v') w') :
    if Region.wanted o (yielded ops a.tmps) = true then Oper.wp P o a w K Q else E := by
  rw [if_pos hgd]
  exact wp_append_k hE s x ho base v xs A m c news hs hx hown hl hsrc h1 hbytes hsz hbase h

/-- where it lies, and what is read there -/
theorem OwnV.ptr {w : World} {e : TypeId} {base n : Nat} {v : Value} {xs : List Value} (h : OwnV w e base v xs) (hn : xs.length = n) (h0 : 0 < n) :
    ∃ g off c, v = .slice (some ⟨g, off, none⟩) n c ∧ n ≤ c ∧ c ≤ 9223372036854775807 ∧ base ≤ g ∧ g < w.heap.size ∧ ∀ i u, xs[i]? = some u → w.cell? ⟨g, off + i, none⟩ = some u := by
  subst hn
  rcases h with ⟨rfl, rfl⟩ | ⟨g, off, cap, cur, rfl, hb, hh, hn, hm, hs, ht⟩
  · simp at h0
  · refine ⟨g, off, cap, rfl, hn, by simp only [maxLen] at hm; omega, hb, (Array.getElem?_eq_some_iff.1 hh).1, fun i u hi => ?_⟩
    have hi' : i < xs.length := (List.getElem?_eq_some_iff.1 hi).1
    rw [cell_of_row w g _ cur e (0, 0) hh]
    rw [← ht, List.getElem?_take, if_pos hi', List.getElem?_drop, Array.getElem?_toList] at hi
    exact hi
/-- read anew, the address known -/
theorem OwnV.again {w : World} {e : TypeId} {base n g off c : Nat} {xs : List Value} (h : OwnV w e base (.slice (some ⟨g, off, none⟩) n c) xs) {i : Nat} {u : Value} (hi : xs[i]? = some u) : w.cell? ⟨g, off + i, none⟩ = some u := by
  rcases h with ⟨h1, _⟩ | ⟨g', off', cap, cur, h1, hb, hh, hn, hm, hs, ht⟩
  · cases h1
  · injection h1 with h1 _ _
    injection h1 with h1
    injection h1 with h1 h2
    subst h1 h2
    have hi' : i < xs.length := (List.getElem?_eq_some_iff.1 hi).1
    rw [cell_of_row w _ _ cur e (0, 0) hh]
    rw [← ht, List.getElem?_take, if_pos hi', List.getElem?_drop, Array.getElem?_toList] at hi
    exact hi
end Go.Proofs.YtkgnnlglabihkaaGreatDoor

/- Rows whose elements take several cells: their form, their cells, append. No program in sight. -/
namespace Go.Proofs.YtkgnnlglabihkaaGreatDoor
open Go Go.RowKit
set_option linter.unusedVariables false

/-- what the program's tables say of a slice type whose elements take several cells -/
structure ElW (P : Program) (t e : TypeId) (z : Value) (size bytes : Nat) : Prop where
  slice : P.underlying t = some (.slice e)
  info : (P.info? e).map (fun i => (i.zero, i.size, i.bytes)) = some (some z, size, bytes)
  zone : z.cells.size = size
  pos : 0 < size
section
variable {w w' : World} {e : TypeId} {base size n : Nat} {v : Value} {xs : List Value}
theorem roww_keep (h : w.ownsRow base e size v n xs) (hk : ∀ k, v.ownBlock = some k → w'.heap[k]? = w.heap[k]?) : w'.ownsRow base e size v n xs := by
  refine ⟨h.1, ?_⟩
  rcases h.2 with hn | ⟨g, cap, cur, rfl, hb, hg, rest⟩
  · exact .inl hn
  · exact .inr ⟨g, cap, cur, rfl, hb, (hk g rfl).trans hg, rest⟩
theorem roww_below (h : w.ownsRow base e size v n xs) (hb : Below w.heap.size w w') : w'.ownsRow base e size v n xs := roww_keep h fun k hk => hb.block k (World.ownsRow.lt h k hk).2
theorem roww_mono {base' : Nat} (h : w.ownsRow base e size v n xs) (hb : ∀ k, v.ownBlock = some k → base' ≤ k) : w.ownsRow base' e size v n xs := by
  refine ⟨h.1, ?_⟩
  rcases h.2 with hn | ⟨g, cap, cur, rfl, _, rest⟩
  · exact .inl hn
  · exact .inr ⟨g, cap, cur, rfl, hb g rfl, rest⟩
theorem roww_len (h : w.ownsRow base e size v n xs) : ∃ A c, v = .slice A n c ∧ n ≤ c ∧ c ≤ 9223372036854775807 := by
  rcases h.2 with ⟨rfl, rfl⟩ | ⟨g, cap, cur, rfl, hb, hg, hn, hm, _⟩
  · exact ⟨none, 0, rfl, Nat.le_refl _, by omega⟩
  · exact ⟨_, cap, rfl, hn, by simp only [maxLen] at hm; omega⟩
/-- where the elements lie -/
theorem roww_at (h : w.ownsRow base e size v n xs) (hn : 0 < n) : ∃ g c, v = .slice (some ⟨g, 0, none⟩) n c ∧ n ≤ c ∧ c ≤ 9223372036854775807 ∧ base ≤ g ∧ g < w.heap.size ∧ ∀ j u, xs[j]? = some u → w.cell? ⟨g, j, none⟩ = some u := by
  rcases h.2 with ⟨_, h0⟩ | ⟨g, cap, cur, rfl, hb, hg, hnc, hm, _⟩
  · omega
  · refine ⟨g, cap, rfl, hnc, by simp only [maxLen] at hm; omega, hb, (Array.getElem?_eq_some_iff.1 hg).1, fun j u hj => ?_⟩
    have hl : j < n * size := by have := (List.getElem?_eq_some_iff.1 hj).1; rw [h.1] at this; exact this
    rw [World.ownsRow.cellAt h j hl, hj]
/-- a part of it, as append's source -/
theorem roww_src (h : w.ownsRow base e size v n xs) (hn : 0 < n) (k : Nat) {g c : Nat} (hv : v = .slice (some ⟨g, 0, none⟩) n c) : ∀ j u, (xs.drop k)[j]? = some u → w.cell? ((⟨g, k, none⟩ : Addr).add j) = some u := by
  obtain ⟨g', c', hv', _, _, _, _, hc⟩ := roww_at h hn
  rw [hv] at hv'
  injection hv' with hv'
  injection hv' with hv'
  injection hv' with hv'
  subst hv'
  intro j u hj
  rw [addr_add, hc (k + j) u (by rw [← hj, List.getElem?_drop])]
end
/-- append onto it, all at once -/
theorem run_append_w {P : Program} {t e : TypeId} {z : Value} {size bytes : Nat} (hE : ElW P t e z size bytes) (w : World) (ty : TypeId) (base : Nat) (v : Value) (n : Nat) (xs : List Value) (hown : w.ownsRow base e size v n xs)
    (A : Option Addr) (m c : Nat) (news : List Value) (hl : news.length = m * size) (hsrc : 0 < m → ∃ ad, A = some ad ∧ ∀ j u, news[j]? = some u → w.cell? (ad.add j) = some u) (h1 : ∀ u ∈ news, u.oneCell' = true)
    (hbytes : (n + m) * bytes ≤ 140737488355328) (hsz : n + m ≤ 140737488355328) (hbase : base ≤ w.heap.size) :
    ∃ v' w', (Builtin.append_ #[t, t] ty #[v, .slice A m c]).run P w = .ok v' w' ∧ w'.ownsRow base e size v' (n + m) (xs ++ news) ∧ w.grownBy w' v.ownBlock ∧ (v'.ownBlock = v.ownBlock ∨ v'.ownBlock = some w.heap.size) := by
  obtain ⟨i, hi, hz0, hz1, hz2⟩ := info_parts hE.info
  by_cases h0 : m = 0
  · subst h0
    have hnil : news = [] := List.eq_nil_of_length_eq_zero (by omega)
    subst hnil
    refine ⟨v, w, ?_, by simpa using hown, World.grownBy.refl _ _, .inl rfl⟩
    rcases hown.2 with ⟨rfl, _⟩ | ⟨g, cap, cur, rfl, hb, hh, hn, _⟩
    · rcases A with _ | ad <;> simp [Builtin.append_, run_underlying hE.slice, sizeOf, typeInfo, hi, Builtin.lenOf, Builtin.firstCells, loadCells, loadCellsFrom]
    · rcases A with _ | ad <;> simp [Builtin.append_, run_underlying hE.slice, sizeOf, typeInfo, hi, Builtin.lenOf, Builtin.firstCells, hn, storeCells, loadCells, loadCellsFrom]
  · obtain ⟨ad, rfl, hcells⟩ := hsrc (by omega)
    obtain ⟨v', w', hrun, h2, h3, _, h5⟩ := run_append_own_at (P := P) w base t ty e i z size bytes hE.slice hi hz0 hz1 hz2 hE.zone hE.pos v n xs hown ad m c news hl hcells h1 (by simp only [maxLen]; omega) hbytes hbase
    exact ⟨v', w', hrun, h2, h3, h5⟩
theorem wp_append_w {P : Program} {t e : TypeId} {z : Value} {size bytes : Nat} (hE : ElW P t e z size bytes) {w : World} {o : Oper} {a : Act} {K : Act → World → Prop} {Q : Exit → Act → World → Prop}
    (s x : Operand) (ho : o.op = .call { callee := .builtin .append, args := #[s, x], argTypes := #[t, t] }) (base : Nat) (v : Value) (n : Nat) (xs : List Value) (A : Option Addr) (m c : Nat) (news : List Value)
    (hs : a.eval s = v) (hx : a.eval x = .slice A m c) (hown : w.ownsRow base e size v n xs) (hl : news.length = m * size) (hsrc : 0 < m → ∃ ad, A = some ad ∧ ∀ j u, news[j]? = some u → w.cell? (ad.add j) = some u) (h1 : ∀ u ∈ news, u.oneCell' = true)
    (hbytes : (n + m) * bytes ≤ 140737488355328) (hsz : n + m ≤ 140737488355328) (hbase : base ≤ w.heap.size)
    (h : ∀ v' w', w'.ownsRow base e size v' (n + m) (xs ++ news) → w.grownBy w' v.ownBlock → (v'.ownBlock = v.ownBlock ∨ v'.ownBlock = some w.heap.size) → K (a.put o.dst v') w') : o.wp P a w K Q := by
  obtain ⟨v', w', hr, h2, h3, h4⟩ := run_append_w hE w o.type base v n xs hown A m c news hl hsrc h1 hbytes hsz hbase
  unfold Oper.wp execOp
  simp only [ho, resolve, invoke, builtin, Sem.run_bind, Sem.run_pure, Result.andThen_ok, List.map_toArray, List.map_cons, List.map_nil, hs, hx, hr]
  exact h v' w' h2 h3 h4
/-- in a plain region -/
theorem wpList_append_w {P : Program} {t e : TypeId} {z : Value} {size bytes : Nat} (hE : ElW P t e z size bytes) {w : World} {ops : Array Oper} {rest : List Oper} {o : Oper} {a : Act} {Q : Exit → Act → World → Prop}
    (hgd : Region.wanted o (yielded ops a.tmps) = true) (s x : Operand) (ho : o.op = .call { callee := .builtin .append, args := #[s, x], argTypes := #[t, t] }) (base : Nat) (v : Value) (n : Nat) (xs : List Value) (A : Option Addr) (m c : Nat) (news : List Value)
    (hs : a.eval s = v) (hx : a.eval x = .slice A m c) (hown : w.ownsRow base e size v n xs) (hl : news.length = m * size) (hsrc : 0 < m → ∃ ad, A = some ad ∧ ∀ j u, news[j]? = some u → w.cell? (ad.add j) = some u) (h1 : ∀ u ∈ news, u.oneCell' = true)
    (hbytes : (n + m) * bytes ≤ 140737488355328) (hsz : n + m ≤ 140737488355328) (hbase : base ≤ w.heap.size)
    (h : ∀ v' w', w'.ownsRow base e size v' (n + m) (xs ++ news) → w.grownBy w' v.ownBlock → (v'.ownBlock = v.ownBlock ∨ v'.ownBlock = some w.heap.size) → wpList P ops Q rest (a.put o.dst v') w') : wpList P ops Q (o :: rest) a w :=
  wpList_wanted hgd fun _ hK => wp_append_w hE s x ho base v n xs A m c news hs hx hown hl hsrc h1 hbytes hsz hbase fun v' w' h2 h3 h4 => hK _ _ (h v' w' h2 h3 h4)
/-- at a step of a region that draws its order -/
theorem step_append_w {P : Program} {t e : TypeId} {z : Value} {size bytes : Nat} (hE : ElW P t e z size bytes) {w : World} {ops : Array Oper} {o : Oper} {a : Act} {K : Act → World → Prop} {Q : Exit → Act → World → Prop} {E : Prop}
    (hgd : Region.wanted o (yielded ops a.tmps) = true) (s x : Operand) (ho : o.op = .call { callee := .builtin .append, args := #[s, x], argTypes := #[t, t] }) (base : Nat) (v : Value) (n : Nat) (xs : List Value) (A : Option Addr) (m c : Nat) (news : List Value)
    (hs : a.eval s = v) (hx : a.eval x = .slice A m c) (hown : w.ownsRow base e size v n xs) (hl : news.length = m * size) (hsrc : 0 < m → ∃ ad, A = some ad ∧ ∀ j u, news[j]? = some u → w.cell? (ad.add j) = some u) (h1 : ∀ u ∈ news, u.oneCell' = true)
    (hbytes : (n + m) * bytes ≤ 140737488355328) (hsz : n + m ≤ 140737488355328) (hbase : base ≤ w.heap.size)
    (h : ∀ v' w', w'.ownsRow base e size v' (n + m) (xs ++ news) → w.grownBy w' v.ownBlock → (v'.ownBlock = v.ownBlock ∨ v'.ownBlock = some w.heap.size) → K (a.put o.dst v') w') :
    if Region.wanted o (yielded ops a.tmps) = true then Oper.wp P o a w K Q else E := by
  rw [if_pos hgd]
  exact wp_append_w hE s x ho base v n xs A m c news hs hx hown hl hsrc h1 hbytes hsz hbase h
end Go.Proofs.YtkgnnlglabihkaaGreatDoor

/- A region that draws its order, by one fact an operation: whatever order is drawn, each operation meets the facts of those it waits for. No program in sight. -/
namespace Go.Proofs.YtkgnnlglabihkaaGreatDoor
open Go
set_option linter.unusedVariables false
section
variable {P : Program} {ops : Array Oper} {Q : Exit → Act → World → Prop} {md : Region.Mode}

/-- nothing but the normal way -/
def NoQ : Exit → Act → World → Prop := fun _ _ _ => False
theorem wp_noQ {o : Oper} {a : Act} {w : World} {K K' : Act → World → Prop} (h : ∀ a w, K a w → K' a w) (hh : o.wp P a w K NoQ) : o.wp P a w K' Q := by
  unfold Oper.wp at *
  generalize (execOp a.eval o).run P w = r at *
  cases r with
  | ok n w' =>
    cases n <;> simp only [Oper.upon] at hh ⊢ <;>
      first
        | exact h _ _ hh
        | exact Calls.mono hh (fun e w'' he => by
            cases e with
            | returned v => exact h _ _ he
            | panicked c => exact he.elim
            | outgrown => obtain ⟨_, _, hf⟩ := he; exact hf.elim)
        | exact Rows.mono hh (fun _ _ he => h _ _ he)
  | halt x w' => cases x <;> simp only [Oper.upon] at hh ⊢ <;> exact hh.elim

def dstOf (ops : Array Oper) (i : Nat) : Option Tmp := (ops[i]?).bind (·.dst)
/-- what operation i has left in its slot -/
def slotAt (ops : Array Oper) (a : Act) (i : Nat) : Value :=
  match dstOf ops i with
  | some d => a.tmps.getD d undef
  | none => undef
/-- the frame, with these operations' values -/
def putAll (ops : Array Oper) (u : Nat → Value) : List Nat → Act → Act
  | [], a => a
  | i :: l, a => putAll ops u l (a.put (dstOf ops i) (u i))
/-- the operations that operation i waits for, of those that are left -/
def waits (md : Region.Mode) (ops : Array Oper) (left : List Nat) (i : Nat) : List Nat :=
  match ops[i]? with
  | some o => left.filter fun j => o.after.any fun e => Region.binds md e && e.on == j
  | none => []
/-- the region's shape, as the law wants it -/
def neat (md : Region.Mode) (ops : Array Oper) (left : List Nat) (listed : Array Bool) (size : Nat) : Bool :=
  listed.size == ops.size && Region.noSelect ops &&
  ((List.range ops.size).all fun i => (listed.getD i true == !left.contains i)) &&
  left.all fun i => match ops[i]? with
    | none => false
    | some o => (o.after.all fun e => !Region.binds md e || (decide (e.on < i) && decide (e.on < ops.size))) &&
      (match o.dst with
       | none => true
       | some d => decide (d < size) && left.all fun j => j == i || dstOf ops j != some d) &&
      (o.looksAt ops).all fun t => (left.all fun j => dstOf ops j != some t || (waits md ops left j).contains i) || (waits md ops left i).any fun j => dstOf ops j == some t

/-- what stands in the slot of an operation that yields v -/
def keepV (o : Oper) (v : Value) : Value := match o.dst with | some _ => v | none => undef
/-- what is asked of operation i -/
def Does (P : Program) (md : Region.Mode) (ops : Array Oper) (left : List Nat) (R : World → World → Prop) (F : Nat → Value → World → Prop) (a0 : Act) (w0 : World) (i : Nat) : Prop :=
  ∀ o, ops[i]? = some o → ∀ (u : Nat → Value) (w : World), R w0 w → (∀ j ∈ waits md ops left i, F j (u j) w) →
    if Region.wanted o (yielded ops (putAll ops u (waits md ops left i) a0).tmps) = true
    then o.wp P (putAll ops u (waits md ops left i) a0) w (fun a' w' => ∃ v, a' = (putAll ops u (waits md ops left i) a0).put o.dst v ∧ F i (keepV o v) w' ∧ R w w') NoQ
    else F i undef w

structure Like (ops : Array Oper) (left : List Nat) (listed : Array Bool) (a0 a : Act) : Prop where
  defers : a.defers = a0.defers
  size : a.tmps.size = a0.tmps.size
  same : ∀ t, (∀ i ∈ left, dstOf ops i = some t → listed.getD i true = false) → a.tmps[t]? = a0.tmps[t]?

theorem put_size (a : Act) (d : Option Tmp) (v : Value) : (a.put d v).tmps.size = a.tmps.size := by cases d <;> simp [Act.put]
theorem put_defs (a : Act) (d : Option Tmp) (v : Value) : (a.put d v).defers = a.defers := by cases d <;> rfl
theorem put_ne (a : Act) (d : Option Tmp) (v : Value) {t : Nat} (h : d ≠ some t) : (a.put d v).tmps[t]? = a.tmps[t]? := by
  cases d with
  | none => rfl
  | some e => simp only [Act.put]; rw [Array.getElem?_setIfInBounds_ne (fun he => h (by rw [he]))]
theorem put_eq (a : Act) (d : Nat) (v : Value) (h : d < a.tmps.size) : (a.put (some d) v).tmps[d]? = some v := by
  simp [Act.put, h]
theorem putAll_size (u : Nat → Value) (l : List Nat) (a : Act) : (putAll ops u l a).tmps.size = a.tmps.size := by
  induction l generalizing a with
  | nil => rfl
  | cons i l ih => rw [putAll, ih, put_size]
theorem putAll_defers (u : Nat → Value) (l : List Nat) (a : Act) : (putAll ops u l a).defers = a.defers := by
  induction l generalizing a with
  | nil => rfl
  | cons i l ih => rw [putAll, ih, put_defs]
theorem putAll_ne (u : Nat → Value) (l : List Nat) (a : Act) {t : Nat} (h : ∀ i ∈ l, dstOf ops i ≠ some t) : (putAll ops u l a).tmps[t]? = a.tmps[t]? := by
  induction l generalizing a with
  | nil => rfl
  | cons i l ih => rw [putAll, ih _ (fun j hj => h j (List.mem_cons_of_mem _ hj)), put_ne _ _ _ (h i List.mem_cons_self)]
/-- a slot that one of them writes: its value, where no other one writes it -/
theorem putAll_eq (u : Nat → Value) (l : List Nat) (a : Act) {t i : Nat} (hi : i ∈ l) (ht : dstOf ops i = some t) (hs : t < a.tmps.size) (h : ∀ j ∈ l, j ≠ i → dstOf ops j ≠ some t) : (putAll ops u l a).tmps[t]? = some (u i) := by
  induction l generalizing a with
  | nil => cases hi
  | cons j l ih =>
    rw [putAll]
    by_cases hil : i ∈ l
    · exact ih _ hil (by rw [put_size]; exact hs) (fun k hk => h k (List.mem_cons_of_mem _ hk))
    · have hij : i = j := by
        rcases List.mem_cons.1 hi with h' | h'
        · exact h'
        · exact absurd h' hil
      subst hij
      rw [putAll_ne _ _ _ (fun k hk => h k (List.mem_cons_of_mem _ hk) (fun e => hil (e ▸ hk))), ht, put_eq _ _ _ hs]

theorem put_inj {o : Oper} {b : Act} {v v' : Value} (h : b.put o.dst v = b.put o.dst v') (hs : ∀ d, o.dst = some d → d < b.tmps.size) : keepV o v = keepV o v' := by
  unfold keepV
  cases hd : o.dst with
  | none => rfl
  | some d =>
    have h1 := put_eq b d v (hs d hd)
    have h2 := put_eq b d v' (hs d hd)
    rw [hd] at h
    rw [h, h2] at h1
    injection h1 with h1
    exact h1.symm
theorem slotAt_get {a : Act} {i d : Nat} (hd : dstOf ops i = some d) (hs : d < a.tmps.size) : a.tmps[d]? = some (slotAt ops a i) := by
  unfold slotAt
  rw [hd]
  simp [Array.getElem?_eq_getElem hs]

structure NeatP (md : Region.Mode) (ops : Array Oper) (left : List Nat) (listed : Array Bool) (size : Nat) : Prop where
  lsize : listed.size = ops.size
  nosel : Region.noSelect ops = true
  listed : ∀ i, i < ops.size → (listed.getD i true = true ↔ i ∉ left)
  oper : ∀ i ∈ left, ∃ o, ops[i]? = some o ∧ (∀ e ∈ o.after, Region.binds md e = true → e.on < i ∧ e.on < ops.size) ∧
    (∀ d, o.dst = some d → d < size ∧ ∀ j ∈ left, j ≠ i → dstOf ops j ≠ some d) ∧
    (∀ t ∈ o.looksAt ops, (∀ j ∈ left, dstOf ops j = some t → i ∈ waits md ops left j) ∨ ∃ j ∈ waits md ops left i, dstOf ops j = some t)

theorem neat_spec {left : List Nat} {listed : Array Bool} {size : Nat} (h : neat md ops left listed size = true) : NeatP md ops left listed size := by
  unfold neat at h
  simp only [Bool.and_eq_true, beq_iff_eq, List.all_eq_true, List.mem_range] at h
  obtain ⟨⟨⟨h1, h2⟩, h3⟩, h4⟩ := h
  refine ⟨h1, h2, fun i hi => ?_, fun i hi => ?_⟩
  · rw [h3 i hi]
    simp
  · have h5 := h4 i hi
    cases ho : ops[i]? with
    | none => simp [ho] at h5
    | some o =>
      simp only [ho, Bool.and_eq_true] at h5
      obtain ⟨⟨h6, h7⟩, h8⟩ := h5
      refine ⟨o, rfl, fun e he hb => ?_, fun d hd => ?_, fun t ht => ?_⟩
      · have := Array.all_eq_true_iff_forall_mem.1 h6 e he
        simp [hb] at this
        exact this
      · rw [hd] at h7
        simp only [Bool.and_eq_true, decide_eq_true_eq, List.all_eq_true, Bool.or_eq_true, beq_iff_eq, bne_iff_ne] at h7
        exact ⟨h7.1, fun j hj hne => (h7.2 j hj).resolve_left hne⟩
      · have := List.all_eq_true.1 h8 t ht
        simp only [Bool.or_eq_true, List.all_eq_true, List.any_eq_true, beq_iff_eq, bne_iff_ne, List.contains_iff_mem] at this
        rcases this with h | h
        · exact .inl fun j hj hd => (h j hj).resolve_left (fun hne => hne hd)
        · exact .inr h

/-- how many have not come up yet -/
def unlisted (n : Nat) (listed : Array Bool) : Nat := ((List.range n).filter fun i => !listed.getD i true).length
theorem filter_lt {p q : Nat → Bool} {i : Nat} : ∀ {l : List Nat}, i ∈ l → p i = true → q i = false → (∀ j, q j = true → p j = true) → (l.filter q).length < (l.filter p).length
  | [], h, _, _, _ => by cases h
  | x :: l, h, hp, hq, hm => by
    have hle : ∀ l : List Nat, (l.filter q).length ≤ (l.filter p).length := by
      intro l
      induction l with
      | nil => simp
      | cons y l ih =>
        simp only [List.filter_cons]
        by_cases hy : q y = true
        · rw [if_pos hy, if_pos (hm y hy)]; simpa using ih
        · rw [if_neg hy]; split <;> (try simp only [List.length_cons]) <;> omega
    rcases List.mem_cons.1 h with rfl | h'
    · simp only [List.filter_cons, hp, hq, if_true]
      have := hle l
      simp; omega
    · have ih := filter_lt h' hp hq hm
      simp only [List.filter_cons]
      by_cases hy : q x = true
      · rw [if_pos hy, if_pos (hm x hy)]; simpa using ih
      · rw [if_neg hy]; split <;> (try simp only [List.length_cons]) <;> omega
theorem unlisted_set {listed : Array Bool} {i : Nat} (hi : i < ops.size) (hs : listed.size = ops.size) (h : listed.getD i true = false) : unlisted ops.size (listed.setIfInBounds i true) < unlisted ops.size listed := by
  refine filter_lt (i := i) (List.mem_range.2 hi) (by simp [h]) ?_ ?_
  · simp [hs, hi]
  · intro j hj
    by_cases hij : i = j
    · subst hij; simp [hs, hi] at hj
    · rw [getD_set_ne true hij] at hj; exact hj

/-- **THE LAW** -/
theorem wpAny_facts {left : List Nat} {listed0 : Array Bool} {a0 : Act} {w0 : World} (R : World → World → Prop) (F : Nat → Value → World → Prop)
    (hn : neat md ops left listed0 a0.tmps.size = true) (hrefl : ∀ w, R w w) (htrans : ∀ w w' w'', R w w' → R w' w'' → R w w'')
    (hF : ∀ i v w w', F i v w → R w w' → F i v w') (hdo : ∀ i ∈ left, Does P md ops left R F a0 w0 i)
    (hend : ∀ (u : Nat → Value) (w : World), R w0 w → (∀ j ∈ left, F j (u j) w) → Q .normal (putAll ops u left a0) w) :
    ∀ fuel, unlisted ops.size listed0 ≤ fuel → wpAny P md ops Q fuel listed0 a0 w0 := by
  obtain ⟨nl, ns, nlist, nop⟩ := neat_spec hn
  have main : ∀ (fuel : Nat) (listed : Array Bool) (a : Act) (w : World), unlisted ops.size listed ≤ fuel → listed.size = ops.size → R w0 w → Like ops left listed a0 a → (∀ j ∈ left, listed.getD j true = true → ∀ k ∈ waits md ops left j, listed.getD k true = true) →
      (∀ i, i < ops.size → i ∉ left → listed.getD i true = true) → (∀ i ∈ left, listed.getD i true = true → F i (slotAt ops a i) w) → wpAny P md ops Q fuel listed a w := by
    intro fuel
    induction fuel with
    | zero => ?_
    | succ fuel ih => ?_
    all_goals
      intro listed a w hu hs hR hL hcl hout hin
      have hdone : Region.ready md ops listed = [] → Q .normal a w := by
        intro hr
        have hall : ∀ n i, i < n → i ∈ left → listed.getD i true = true := by
          intro n
          induction n with
          | zero => intro i h; omega
          | succ n ihn =>
            intro i hi hil
            cases hlb : listed.getD i true with
            | true => rfl
            | false =>
              exfalso
              obtain ⟨o, ho, hedge, _⟩ := nop i hil
              have : i ∈ Region.ready md ops listed := by
                rw [mem_ready]
                refine ⟨hlb, o, ho, fun e he hb => ?_⟩
                obtain ⟨e1, e2⟩ := hedge e he hb
                have et : listed.getD e.on true = true := by
                  by_cases hel : e.on ∈ left
                  · exact ihn e.on (by omega) hel
                  · exact hout _ e2 hel
                have hlt : e.on < listed.size := by omega
                simp [hlt] at et ⊢
                exact et
              rw [hr] at this
              cases this
        have ha : a = putAll ops (slotAt ops a) left a0 := by
          have htm : a.tmps = (putAll ops (slotAt ops a) left a0).tmps := by
            apply Array.ext_getElem?
            intro t
            by_cases ht : ∀ i ∈ left, dstOf ops i ≠ some t
            · rw [hL.same t (fun i hi hd => absurd hd (ht i hi)), putAll_ne _ _ _ ht]
            · have : ∃ i, i ∈ left ∧ dstOf ops i = some t := by
                apply Classical.byContradiction
                intro hc
                exact ht fun i hi hd => hc ⟨i, hi, hd⟩
              obtain ⟨i, hi, hd⟩ := this
              obtain ⟨o, ho, _, hdst, _⟩ := nop i hi
              have hd' : o.dst = some t := by simpa [dstOf, ho] using hd
              obtain ⟨hlt, huniq⟩ := hdst t hd'
              rw [putAll_eq _ _ _ hi hd hlt huniq, slotAt_get hd (by rw [hL.size]; exact hlt)]
          have hdf := hL.defers
          have e2 := putAll_defers (ops := ops) (slotAt ops a) left a0
          cases a
          cases hx : putAll ops (slotAt ops ⟨_, _⟩) left a0
          simp_all
        rw [ha]
        exact hend _ _ hR fun j hj => hin j hj (hall (j+1) j (by omega) hj)
    · -- nothing may be left
      refine ⟨?_, ?_⟩
      · cases hr : Region.ready md ops listed with
        | nil => rfl
        | cons x xs =>
          exfalso
          have hx : x ∈ Region.ready md ops listed := by rw [hr]; exact List.mem_cons_self
          obtain ⟨h0, o, ho, _⟩ := mem_ready.1 hx
          have hlt : x < ops.size := (Array.getElem?_eq_some_iff.1 ho).1
          have := unlisted_set (ops := ops) hlt hs h0
          omega
      · refine hdone ?_
        cases hr : Region.ready md ops listed with
        | nil => rfl
        | cons x xs =>
          exfalso
          have hx : x ∈ Region.ready md ops listed := by rw [hr]; exact List.mem_cons_self
          obtain ⟨h0, o, ho, _⟩ := mem_ready.1 hx
          have hlt : x < ops.size := (Array.getElem?_eq_some_iff.1 ho).1
          have := unlisted_set (ops := ops) hlt hs h0
          omega
    · refine ⟨hdone, fun i hi => ?_⟩
      obtain ⟨h0, o, ho, hpre⟩ := mem_ready.1 hi
      have hlt : i < ops.size := (Array.getElem?_eq_some_iff.1 ho).1
      have hil : i ∈ left := by
        apply Classical.byContradiction
        intro hc
        rw [hout i hlt hc] at h0
        cases h0
      obtain ⟨o', ho', hedge, hdst, hlook⟩ := nop i hil
      rw [ho] at ho'
      injection ho' with ho'
      subst ho'
      have hwl : ∀ j ∈ waits md ops left i, j ∈ left ∧ listed.getD j true = true := by
        intro j hj
        simp only [waits, ho, List.mem_filter] at hj
        refine ⟨hj.1, ?_⟩
        obtain ⟨e, he, hb⟩ := Array.any_eq_true'.1 hj.2
        simp only [Bool.and_eq_true, beq_iff_eq] at hb
        have := hpre e he hb.1
        rw [hb.2] at this
        have hlt' : j < listed.size := by
          rcases Nat.lt_or_ge j listed.size with h' | h'
          · exact h'
          · simp [Array.getElem?_eq_none h'] at this
        simp [hlt'] at this ⊢
        exact this
      have hd := hdo i hil o ho (slotAt ops a) w hR (fun j hj => hin j (hwl j hj).1 (hwl j hj).2)
      have hloc : ∀ t ∈ o.looksAt ops, (putAll ops (slotAt ops a) (waits md ops left i) a0).tmps[t]? = a.tmps[t]? := by
        intro t ht
        rcases hlook t ht with hno | ⟨j, hj, hjd⟩
        · have hun : ∀ j ∈ left, dstOf ops j = some t → listed.getD j true = false := fun j hj hd => by
            cases hb : listed.getD j true with
            | false => rfl
            | true => rw [hcl j hj hb i (hno j hj hd)] at h0; cases h0
          rw [putAll_ne _ _ _ (fun j hj hd => by have := hun j (hwl j hj).1 hd; rw [(hwl j hj).2] at this; cases this), hL.same t hun]
        · obtain ⟨oj, hoj, _, hdj, _⟩ := nop j (hwl j hj).1
          have hd' : oj.dst = some t := by simpa [dstOf, hoj] using hjd
          obtain ⟨hlt', huniq⟩ := hdj t hd'
          rw [putAll_eq _ _ _ hj hjd hlt' (fun k hk => huniq k (hwl k hk).1), slotAt_get hjd (by rw [hL.size]; exact hlt')]
      generalize hb : putAll ops (slotAt ops a) (waits md ops left i) a0 = b at hd hloc
      have hev : execOp a.eval o = execOp b.eval o := execOp_congr o (fun cs b => Region.noSelect_spec ns i o cs b ho) fun x hx => by
        cases x with
        | tmp t =>
          have := hloc t (List.mem_append_left _ (List.mem_filterMap.2 ⟨.tmp t, by simpa using hx, rfl⟩))
          simp only [Act.eval, Array.getD_eq_getD_getElem?, this]
        | _ => rfl
      have hwa : Region.wanted o (yielded ops a.tmps) = Region.wanted o (yielded ops b.tmps) := by
        unfold Region.wanted
        cases hg : o.guard with
        | none => rfl
        | some gw =>
          obtain ⟨g, want⟩ := gw
          have hy : yielded ops a.tmps g = yielded ops b.tmps g := by
            unfold yielded
            cases ht : (ops[g]?).bind (·.dst) with
            | none => rfl
            | some t =>
              have := hloc t (List.mem_append_right _ (by simp [hg, ht]))
              simp only [Option.bind_some, this]
          simp only [hy]
      -- what is behind it
      have next : ∀ (v : Value) (w' : World), F i (keepV o v) w' → R w w' → wpAny P md ops Q fuel (listed.setIfInBounds i true) (a.put o.dst v) w' := by
        intro v w' hv hR'
        have hdo' : dstOf ops i = o.dst := by simp [dstOf, ho]
        refine ih _ _ _ (by have := unlisted_set (ops := ops) hlt hs h0; omega) (by simpa using hs) (htrans _ _ _ hR hR') ⟨by rw [put_defs]; exact hL.defers, by rw [put_size]; exact hL.size, fun t ht => ?_⟩ (fun j hj hjl k hk => ?_) (fun k hk hkl => ?_) (fun k hk hkl => ?_)
        · have hse : (listed.setIfInBounds i true).getD i true = true := by
            have hlt' : i < listed.size := by omega
            simp [hlt']
          rw [put_ne _ _ _ (by intro hd; rw [← hdo'] at hd; have := ht i hil hd; rw [hse] at this; cases this)]
          refine hL.same t fun j hj hd => ?_
          have h1 := ht j hj hd
          by_cases hji : i = j
          · subst hji; rw [hse] at h1; cases h1
          · rw [getD_set_ne true hji] at h1; exact h1
        · have up : listed.getD k true = true → (listed.setIfInBounds i true).getD k true = true := fun h => by
            by_cases hik : i = k
            · subst hik
              have hlt' : i < listed.size := by omega
              simp [hlt']
            · rw [getD_set_ne true hik]; exact h
          by_cases hji : i = j
          · subst hji; exact up (hwl k hk).2
          · rw [getD_set_ne true hji] at hjl
            exact up (hcl j hj hjl k hk)
        · have := hout k hk hkl
          rw [getD_set_ne true (fun e => hkl (by rw [← e]; exact hil))]
          exact this
        · by_cases hki : k = i
          · subst hki
            have : slotAt ops (a.put o.dst v) k = keepV o v := by
              unfold slotAt keepV
              rw [hdo']
              cases hdd : o.dst with
              | none => rfl
              | some d =>
                have hds := (hdst d hdd).1
                simp only [Array.getD_eq_getD_getElem?]
                rw [put_eq _ _ _ (by rw [hL.size]; exact hds)]
                rfl
            rw [this]; exact hv
          · have hl' : listed.getD k true = true := by
              rw [getD_set_ne true (Ne.symm hki)] at hkl
              exact hkl
            have hsl : slotAt ops (a.put o.dst v) k = slotAt ops a k := by
              unfold slotAt
              cases hdk : dstOf ops k with
              | none => rfl
              | some d =>
                simp only [Array.getD_eq_getD_getElem?]
                rw [put_ne _ _ _ (fun e => (hdst d e).2 k hk hki hdk)]
            rw [hsl]
            exact hF _ _ _ _ (hin k hk hl') hR'
      unfold wpOp
      simp only [ho]
      rw [hwa]
      split
      · rename_i hw
        rw [if_pos hw] at hd
        refine .inl ?_
        have hd2 : o.wp P b w (fun a' w' => ∃ v, a' = b.put o.dst v ∧ F i (keepV o v) w' ∧ R w w') NoQ := hd
        unfold Oper.wp at hd2 ⊢
        rw [hev]
        have hbs : ∀ d, o.dst = some d → d < b.tmps.size := fun d hd => by
          rw [← hb, putAll_size]; exact (hdst d hd).1
        generalize (execOp b.eval o).run P w = r at hd2
        cases r with
        | ok n w' =>
          cases n <;> simp only [Oper.upon] at hd2 ⊢
          case value v =>
            obtain ⟨v', e, h1, h2⟩ := hd2
            exact next v w' (by rw [put_inj e hbs]; exact h1) h2
          case skip =>
            obtain ⟨v', e, h1, h2⟩ := hd2
            exact next _ w' (by rw [put_inj e hbs]; exact h1) h2
          case defer d =>
            obtain ⟨v', e, _⟩ := hd2
            have := congrArg Act.defers e
            rw [put_defs, put_defs] at this
            have := congrArg List.length this
            simp at this
          case enter f args =>
            refine Calls.mono hd2 fun e w'' he => ?_
            cases e with
            | returned v =>
              obtain ⟨v', e, h1, h2⟩ := he
              exact next v w'' (by rw [put_inj e hbs]; exact h1) h2
            | panicked c => exact he.elim
            | outgrown => obtain ⟨_, _, hf⟩ := he; exact hf.elim
          case row r args =>
            refine Rows.mono hd2 fun v w'' he => ?_
            obtain ⟨v', e, h1, h2⟩ := he
            exact next v w'' (by rw [put_inj e hbs]; exact h1) h2
        | halt x w' => cases x <;> simp only [Oper.upon] at hd2 ⊢ <;> exact hd2.elim
      · rename_i hw
        rw [if_neg hw] at hd
        exact next _ _ (by unfold keepV; split <;> exact hd) (hrefl _)
  intro fuel hf
  refine main fuel listed0 a0 w0 hf nl (hrefl _) ⟨rfl, rfl, fun _ _ => rfl⟩ (fun j hj hjl => ?_) (fun i hi hil => (nlist i hi).2 hil) (fun i hi hl => ?_)
  · obtain ⟨o, ho, _⟩ := nop j hj
    exact absurd hj ((nlist j (Array.getElem?_eq_some_iff.1 ho).1).1 hjl)
  obtain ⟨o, ho, _⟩ := nop i hi
  exact absurd hi ((nlist i (Array.getElem?_eq_some_iff.1 ho).1).1 hl)
/-- **THE LAW, WITH A LAST OPERATION** that waits for all others (a store, say): it is handed over as it stands, behind the facts of all others -/
theorem wpAny_facts_last {L : Nat} {left : List Nat} {listed0 : Array Bool} {a0 : Act} {w0 : World} (R : World → World → Prop) (F : Nat → Value → World → Prop)
    (hn : neat md ops left listed0 a0.tmps.size = true) (hLl : left.contains L = true) (hwL : (left.all fun i => i == L || (waits md ops left L).contains i) = true) (hrefl : ∀ w, R w w) (htrans : ∀ w w' w'', R w w' → R w' w'' → R w w'')
    (hF : ∀ i v w w', F i v w → R w w' → F i v w') (hdo : ∀ i ∈ waits md ops left L, Does P md ops left R F a0 w0 i)
    (hend : ∀ (u : Nat → Value) (w : World), R w0 w → (∀ j ∈ waits md ops left L, F j (u j) w) → wpOp P ops Q L (fun a w => Q .normal a w) (putAll ops u (waits md ops left L) a0) w) :
    ∀ fuel, unlisted ops.size listed0 ≤ fuel → wpAny P md ops Q fuel listed0 a0 w0 := by
  obtain ⟨nl, ns, nlist, nop⟩ := neat_spec hn
  have hLm : L ∈ left := by simpa using hLl
  have hwm : ∀ i ∈ left, i ≠ L → i ∈ waits md ops left L := fun i hi hne => by
    have := List.all_eq_true.1 hwL i hi
    simp only [Bool.or_eq_true, beq_iff_eq, List.contains_iff_mem] at this
    exact this.resolve_left hne
  have hLL : L ∉ waits md ops left L := fun h => by
    obtain ⟨o, ho, hedge, _⟩ := nop L hLm
    simp only [waits, ho, List.mem_filter] at h
    obtain ⟨e, he, hb⟩ := Array.any_eq_true'.1 h.2
    simp only [Bool.and_eq_true, beq_iff_eq] at hb
    have := (hedge e he hb.1).1
    omega
  have main : ∀ (fuel : Nat) (listed : Array Bool) (a : Act) (w : World), listed.getD L true = false → unlisted ops.size listed ≤ fuel → listed.size = ops.size → R w0 w → Like ops left listed a0 a → (∀ j ∈ left, listed.getD j true = true → ∀ k ∈ waits md ops left j, listed.getD k true = true) →
      (∀ i, i < ops.size → i ∉ left → listed.getD i true = true) → (∀ i ∈ left, listed.getD i true = true → F i (slotAt ops a i) w) → wpAny P md ops Q fuel listed a w := by
    intro fuel
    induction fuel with
    | zero => ?_
    | succ fuel ih => ?_
    all_goals
      intro listed a w hLu hu hs hR hL hcl hout hin
      have hdone : Region.ready md ops listed = [] → Q .normal a w := by
        intro hr
        exfalso
        have hall : ∀ n i, i < n → i ∈ left → listed.getD i true = true := by
          intro n
          induction n with
          | zero => intro i h; omega
          | succ n ihn =>
            intro i hi hil
            cases hlb : listed.getD i true with
            | true => rfl
            | false =>
              exfalso
              obtain ⟨o, ho, hedge, _⟩ := nop i hil
              have : i ∈ Region.ready md ops listed := by
                rw [mem_ready]
                refine ⟨hlb, o, ho, fun e he hb => ?_⟩
                obtain ⟨e1, e2⟩ := hedge e he hb
                have et : listed.getD e.on true = true := by
                  by_cases hel : e.on ∈ left
                  · exact ihn e.on (by omega) hel
                  · exact hout _ e2 hel
                have hlt : e.on < listed.size := by omega
                simp [hlt] at et ⊢
                exact et
              rw [hr] at this
              cases this
        have := hall (L + 1) L (by omega) hLm
        rw [hLu] at this
        cases this
    · -- nothing may be left
      refine ⟨?_, ?_⟩
      · cases hr : Region.ready md ops listed with
        | nil => rfl
        | cons x xs =>
          exfalso
          have hx : x ∈ Region.ready md ops listed := by rw [hr]; exact List.mem_cons_self
          obtain ⟨h0, o, ho, _⟩ := mem_ready.1 hx
          have hlt : x < ops.size := (Array.getElem?_eq_some_iff.1 ho).1
          have := unlisted_set (ops := ops) hlt hs h0
          omega
      · refine hdone ?_
        cases hr : Region.ready md ops listed with
        | nil => rfl
        | cons x xs =>
          exfalso
          have hx : x ∈ Region.ready md ops listed := by rw [hr]; exact List.mem_cons_self
          obtain ⟨h0, o, ho, _⟩ := mem_ready.1 hx
          have hlt : x < ops.size := (Array.getElem?_eq_some_iff.1 ho).1
          have := unlisted_set (ops := ops) hlt hs h0
          omega
    · refine ⟨hdone, fun i hi => ?_⟩
      obtain ⟨h0, o, ho, hpre⟩ := mem_ready.1 hi
      have hlt : i < ops.size := (Array.getElem?_eq_some_iff.1 ho).1
      have hil : i ∈ left := by
        apply Classical.byContradiction
        intro hc
        rw [hout i hlt hc] at h0
        cases h0
      obtain ⟨o', ho', hedge, hdst, hlook⟩ := nop i hil
      rw [ho] at ho'
      injection ho' with ho'
      subst ho'
      have hwl : ∀ j ∈ waits md ops left i, j ∈ left ∧ listed.getD j true = true := by
        intro j hj
        simp only [waits, ho, List.mem_filter] at hj
        refine ⟨hj.1, ?_⟩
        obtain ⟨e, he, hb⟩ := Array.any_eq_true'.1 hj.2
        simp only [Bool.and_eq_true, beq_iff_eq] at hb
        have := hpre e he hb.1
        rw [hb.2] at this
        have hlt' : j < listed.size := by
          rcases Nat.lt_or_ge j listed.size with h' | h'
          · exact h'
          · simp [Array.getElem?_eq_none h'] at this
        simp [hlt'] at this ⊢
        exact this
      by_cases hiL : i = L
      · subst hiL
        have ha : a = putAll ops (slotAt ops a) (waits md ops left i) a0 := by
          have htm : a.tmps = (putAll ops (slotAt ops a) (waits md ops left i) a0).tmps := by
            apply Array.ext_getElem?
            intro t
            by_cases ht : ∀ j ∈ waits md ops left i, dstOf ops j ≠ some t
            · rw [hL.same t (fun j hj hd => by
                by_cases hji : j = i
                · subst hji; exact h0
                · exact absurd hd (ht j (hwm j hj hji))), putAll_ne _ _ _ ht]
            · have : ∃ j, j ∈ waits md ops left i ∧ dstOf ops j = some t := by
                apply Classical.byContradiction
                intro hc
                exact ht fun j hj hd => hc ⟨j, hj, hd⟩
              obtain ⟨j, hj, hd⟩ := this
              obtain ⟨oj, hoj, _, hdj, _⟩ := nop j (hwl j hj).1
              have hd' : oj.dst = some t := by simpa [dstOf, hoj] using hd
              obtain ⟨hlt', huniq⟩ := hdj t hd'
              rw [putAll_eq _ _ _ hj hd hlt' (fun k hk => huniq k (hwl k hk).1), slotAt_get hd (by rw [hL.size]; exact hlt')]
          have hdf := hL.defers
          have e2 := putAll_defers (ops := ops) (slotAt ops a) (waits md ops left i) a0
          cases a
          cases hx : putAll ops (slotAt ops ⟨_, _⟩) (waits md ops left i) a0
          simp_all
        have he := hend (slotAt ops a) w hR (fun j hj => hin j (hwl j hj).1 (hwl j hj).2)
        rw [← ha] at he
        refine wpOp_mono (fun a' w' hq => wpAny_done ?_ hq _) he
        cases hr : Region.ready md ops (listed.setIfInBounds i true) with
        | nil => rfl
        | cons x xs =>
          exfalso
          have hx : x ∈ Region.ready md ops (listed.setIfInBounds i true) := by rw [hr]; exact List.mem_cons_self
          obtain ⟨hx0, ox, hox, _⟩ := mem_ready.1 hx
          have hxlt : x < ops.size := (Array.getElem?_eq_some_iff.1 hox).1
          by_cases hxi : i = x
          · subst hxi
            have hlt' : i < listed.size := by omega
            simp [hlt'] at hx0
          · rw [getD_set_ne true hxi] at hx0
            by_cases hxl : x ∈ left
            · rw [(hwl x (hwm x hxl (Ne.symm hxi))).2] at hx0; cases hx0
            · rw [hout x hxlt hxl] at hx0; cases hx0
      have hd := hdo i (hwm i hil hiL) o ho (slotAt ops a) w hR (fun j hj => hin j (hwl j hj).1 (hwl j hj).2)
      have hloc : ∀ t ∈ o.looksAt ops, (putAll ops (slotAt ops a) (waits md ops left i) a0).tmps[t]? = a.tmps[t]? := by
        intro t ht
        rcases hlook t ht with hno | ⟨j, hj, hjd⟩
        · have hun : ∀ j ∈ left, dstOf ops j = some t → listed.getD j true = false := fun j hj hd => by
            cases hb : listed.getD j true with
            | false => rfl
            | true => rw [hcl j hj hb i (hno j hj hd)] at h0; cases h0
          rw [putAll_ne _ _ _ (fun j hj hd => by have := hun j (hwl j hj).1 hd; rw [(hwl j hj).2] at this; cases this), hL.same t hun]
        · obtain ⟨oj, hoj, _, hdj, _⟩ := nop j (hwl j hj).1
          have hd' : oj.dst = some t := by simpa [dstOf, hoj] using hjd
          obtain ⟨hlt', huniq⟩ := hdj t hd'
          rw [putAll_eq _ _ _ hj hjd hlt' (fun k hk => huniq k (hwl k hk).1), slotAt_get hjd (by rw [hL.size]; exact hlt')]
      generalize hb : putAll ops (slotAt ops a) (waits md ops left i) a0 = b at hd hloc
      have hev : execOp a.eval o = execOp b.eval o := execOp_congr o (fun cs b => Region.noSelect_spec ns i o cs b ho) fun x hx => by
        cases x with
        | tmp t =>
          have := hloc t (List.mem_append_left _ (List.mem_filterMap.2 ⟨.tmp t, by simpa using hx, rfl⟩))
          simp only [Act.eval, Array.getD_eq_getD_getElem?, this]
        | _ => rfl
      have hwa : Region.wanted o (yielded ops a.tmps) = Region.wanted o (yielded ops b.tmps) := by
        unfold Region.wanted
        cases hg : o.guard with
        | none => rfl
        | some gw =>
          obtain ⟨g, want⟩ := gw
          have hy : yielded ops a.tmps g = yielded ops b.tmps g := by
            unfold yielded
            cases ht : (ops[g]?).bind (·.dst) with
            | none => rfl
            | some t =>
              have := hloc t (List.mem_append_right _ (by simp [hg, ht]))
              simp only [Option.bind_some, this]
          simp only [hy]
      -- what is behind it
      have next : ∀ (v : Value) (w' : World), F i (keepV o v) w' → R w w' → wpAny P md ops Q fuel (listed.setIfInBounds i true) (a.put o.dst v) w' := by
        intro v w' hv hR'
        have hdo' : dstOf ops i = o.dst := by simp [dstOf, ho]
        refine ih _ _ _ (by rw [getD_set_ne true hiL]; exact hLu) (by have := unlisted_set (ops := ops) hlt hs h0; omega) (by simpa using hs) (htrans _ _ _ hR hR') ⟨by rw [put_defs]; exact hL.defers, by rw [put_size]; exact hL.size, fun t ht => ?_⟩ (fun j hj hjl k hk => ?_) (fun k hk hkl => ?_) (fun k hk hkl => ?_)
        · have hse : (listed.setIfInBounds i true).getD i true = true := by
            have hlt' : i < listed.size := by omega
            simp [hlt']
          rw [put_ne _ _ _ (by intro hd; rw [← hdo'] at hd; have := ht i hil hd; rw [hse] at this; cases this)]
          refine hL.same t fun j hj hd => ?_
          have h1 := ht j hj hd
          by_cases hji : i = j
          · subst hji; rw [hse] at h1; cases h1
          · rw [getD_set_ne true hji] at h1; exact h1
        · have up : listed.getD k true = true → (listed.setIfInBounds i true).getD k true = true := fun h => by
            by_cases hik : i = k
            · subst hik
              have hlt' : i < listed.size := by omega
              simp [hlt']
            · rw [getD_set_ne true hik]; exact h
          by_cases hji : i = j
          · subst hji; exact up (hwl k hk).2
          · rw [getD_set_ne true hji] at hjl
            exact up (hcl j hj hjl k hk)
        · have := hout k hk hkl
          rw [getD_set_ne true (fun e => hkl (by rw [← e]; exact hil))]
          exact this
        · by_cases hki : k = i
          · subst hki
            have : slotAt ops (a.put o.dst v) k = keepV o v := by
              unfold slotAt keepV
              rw [hdo']
              cases hdd : o.dst with
              | none => rfl
              | some d =>
                have hds := (hdst d hdd).1
                simp only [Array.getD_eq_getD_getElem?]
                rw [put_eq _ _ _ (by rw [hL.size]; exact hds)]
                rfl
            rw [this]; exact hv
          · have hl' : listed.getD k true = true := by
              rw [getD_set_ne true (Ne.symm hki)] at hkl
              exact hkl
            have hsl : slotAt ops (a.put o.dst v) k = slotAt ops a k := by
              unfold slotAt
              cases hdk : dstOf ops k with
              | none => rfl
              | some d =>
                simp only [Array.getD_eq_getD_getElem?]
                rw [put_ne _ _ _ (fun e => (hdst d e).2 k hk hki hdk)]
            rw [hsl]
            exact hF _ _ _ _ (hin k hk hl') hR'
      unfold wpOp
      simp only [ho]
      rw [hwa]
      split
      · rename_i hw
        rw [if_pos hw] at hd
        refine .inl ?_
        have hd2 : o.wp P b w (fun a' w' => ∃ v, a' = b.put o.dst v ∧ F i (keepV o v) w' ∧ R w w') NoQ := hd
        unfold Oper.wp at hd2 ⊢
        rw [hev]
        have hbs : ∀ d, o.dst = some d → d < b.tmps.size := fun d hd => by
          rw [← hb, putAll_size]; exact (hdst d hd).1
        generalize (execOp b.eval o).run P w = r at hd2
        cases r with
        | ok n w' =>
          cases n <;> simp only [Oper.upon] at hd2 ⊢
          case value v =>
            obtain ⟨v', e, h1, h2⟩ := hd2
            exact next v w' (by rw [put_inj e hbs]; exact h1) h2
          case skip =>
            obtain ⟨v', e, h1, h2⟩ := hd2
            exact next _ w' (by rw [put_inj e hbs]; exact h1) h2
          case defer d =>
            obtain ⟨v', e, _⟩ := hd2
            have := congrArg Act.defers e
            rw [put_defs, put_defs] at this
            have := congrArg List.length this
            simp at this
          case enter f args =>
            refine Calls.mono hd2 fun e w'' he => ?_
            cases e with
            | returned v =>
              obtain ⟨v', e, h1, h2⟩ := he
              exact next v w'' (by rw [put_inj e hbs]; exact h1) h2
            | panicked c => exact he.elim
            | outgrown => obtain ⟨_, _, hf⟩ := he; exact hf.elim
          case row r args =>
            refine Rows.mono hd2 fun v w'' he => ?_
            obtain ⟨v', e, h1, h2⟩ := he
            exact next v w'' (by rw [put_inj e hbs]; exact h1) h2
        | halt x w' => cases x <;> simp only [Oper.upon] at hd2 ⊢ <;> exact hd2.elim
      · rename_i hw
        rw [if_neg hw] at hd
        exact next _ _ (by unfold keepV; split <;> exact hd) (hrefl _)
  intro fuel hf
  refine main fuel listed0 a0 w0 (by
    cases hb : listed0.getD L true with
    | false => rfl
    | true =>
      obtain ⟨o, ho, _⟩ := nop L hLm
      exact absurd hLm ((nlist L (Array.getElem?_eq_some_iff.1 ho).1).1 hb)) hf nl (hrefl _) ⟨rfl, rfl, fun _ _ => rfl⟩ (fun j hj hjl => ?_) (fun i hi hil => (nlist i hi).2 hil) (fun i hi hl => ?_)
  · obtain ⟨o, ho, _⟩ := nop j hj
    exact absurd hj ((nlist j (Array.getElem?_eq_some_iff.1 ho).1).1 hjl)
  obtain ⟨o, ho, _⟩ := nop i hi
  exact absurd hi ((nlist i (Array.getElem?_eq_some_iff.1 ho).1).1 hl)
end
end Go.Proofs.YtkgnnlglabihkaaGreatDoor

/- The law of facts, made ready for walks: the operations waited for are written out. No program in sight. -/
namespace Go.Proofs.YtkgnnlglabihkaaGreatDoor
open Go Go.RowKit
set_option linter.unusedVariables false

abbrev FF := Value → World → Prop
/-- what stood stands; there may be new blocks -/
def Grows (w w' : World) : Prop := Below w.heap.size w w'
theorem Grows.refl (w : World) : Grows w w := Below.refl _ _
theorem Grows.trans {w w' w'' : World} (h : Grows w w') (h' : Grows w' w'') : Grows w w'' := Below.trans h (h'.mono h.size)
def Stable (p : FF) : Prop := ∀ v w w', p v w → Grows w w' → p v w'
def FAny : FF := fun _ _ => True
def FVal (x : Value) : FF := fun v _ => v = x
/-- a slice that reads as these bytes -/
def FRd (n : Nat) (l : List UInt8) : FF := fun v w => ∃ A c, v = .slice A n c ∧ l.length = n ∧ n ≤ c ∧ Rd w w.heap.size A l
/-- rows, written out -/
def FParts (n c : Nat) (ps : List Part) : FF := fun v w => ∃ A, v = .slice A n c ∧ ps.length = n ∧ PartsS w (fun k => k < w.heap.size) A ps
theorem stable_any : Stable FAny := fun _ _ _ _ _ => trivial
theorem stable_val (x : Value) : Stable (FVal x) := fun _ _ _ h _ => h
theorem stable_rd (n : Nat) (l : List UInt8) : Stable (FRd n l) := fun v w w' ⟨A, c, h1, h2, h3, h4⟩ hg => ⟨A, c, h1, h2, h3, (h4.below hg).more hg.size⟩
theorem stable_parts (n c : Nat) (ps : List Part) : Stable (FParts n c ps) := fun v w w' ⟨A, h1, h2, h3⟩ hg => ⟨A, h1, h2, (h3.frame (Frame.of_below hg (fun k hk => hk))).mono (fun k hk => Nat.lt_of_lt_of_le hk hg.size)⟩
def factOf (Fs : List FF) (i : Nat) : FF := Fs.getD i FAny
theorem stable_of {Fs : List FF} (h : ∀ p ∈ Fs, Stable p) (i : Nat) : Stable (factOf Fs i) := by
  unfold factOf
  rw [List.getD_eq_getElem?_getD]
  rcases Nat.lt_or_ge i Fs.length with hi | hi
  · rw [List.getElem?_eq_getElem hi]; exact h _ (List.getElem_mem hi)
  · rw [List.getElem?_eq_none hi]; exact stable_any

section
variable {P : Program} {ops : Array Oper} {Q : Exit → Act → World → Prop}
/-- the frame, with these values: numbers of operations, and their slots -/
def putPs (u : Nat → Value) : List (Nat × Option Tmp) → Act → Act
  | [], a => a
  | p :: l, a => putPs u l (a.put p.2 (u p.1))
def AllF (Fs : List FF) (u : Nat → Value) (w : World) : List (Nat × Option Tmp) → Prop
  | [] => True
  | p :: l => factOf Fs p.1 (u p.1) w ∧ AllF Fs u w l
def pairsOk (ops : Array Oper) (l : List Nat) (ps : List (Nat × Option Tmp)) : Bool := l == ps.map (·.1) && ps.all fun p => dstOf ops p.1 == p.2
theorem putPs_all (u : Nat → Value) : ∀ (ps : List (Nat × Option Tmp)) (a : Act), (ps.all fun p => dstOf ops p.1 == p.2) = true → putAll ops u (ps.map (·.1)) a = putPs u ps a
  | [], a, _ => rfl
  | p :: l, a, h => by
    simp only [List.all_cons, Bool.and_eq_true, beq_iff_eq] at h
    show putAll ops u (l.map (·.1)) (a.put (dstOf ops p.1) (u p.1)) = putPs u l (a.put p.2 (u p.1))
    rw [h.1]
    exact putPs_all u l _ h.2
theorem allF_of {Fs : List FF} {u : Nat → Value} {w : World} : ∀ (ps : List (Nat × Option Tmp)), (∀ j ∈ ps.map (·.1), factOf Fs j (u j) w) → AllF Fs u w ps
  | [], _ => trivial
  | p :: l, h => ⟨h p.1 (by simp), allF_of l fun j hj => h j (by simp only [List.map_cons]; exact List.mem_cons_of_mem _ hj)⟩
theorem does_mk {Fs : List FF} {left : List Nat} {a0 : Act} {w0 : World} {i : Nat} {o : Oper} (ps : List (Nat × Option Tmp)) (ho : ops[i]? = some o) (hps : pairsOk ops (waits .any ops left i) ps = true)
    (h : ∀ (u : Nat → Value) (w : World), Grows w0 w → AllF Fs u w ps →
      if Region.wanted o (yielded ops (putPs u ps a0).tmps) = true
      then ∀ K : Act → World → Prop, Shut (∀ v a' w', a' = (putPs u ps a0).put o.dst v → factOf Fs i (keepV o v) w' → Grows w w' → K a' w') → o.wp P (putPs u ps a0) w K NoQ
      else factOf Fs i undef w) :
    Does P .any ops left Grows (factOf Fs) a0 w0 i := by
  intro o' ho' u w hR hf
  rw [ho] at ho'
  injection ho' with ho'
  subst ho'
  unfold pairsOk at hps
  simp only [Bool.and_eq_true, beq_iff_eq] at hps
  obtain ⟨h1, h2⟩ := hps
  rw [h1] at hf ⊢
  rw [putPs_all u ps a0 h2]
  have := h u w hR (allF_of ps hf)
  split
  · rename_i hw
    rw [if_pos hw] at this
    exact this _ (fun v a' w' e h1 h2 => ⟨v, e, h1, h2⟩)
  · rename_i hw
    rw [if_neg hw] at this
    exact this
/-- the region -/
theorem wp_region_facts {id : Nat} {a0 : Act} {w : World} (Fs : List FF) (left : List Nat) (ps : List (Nat × Option Tmp)) (hm : P.follows .mixedOrders = true) (hl : left = List.range ops.size)
    (hn : neat .any ops left (Array.replicate ops.size false) a0.tmps.size = true) (hps : pairsOk ops left ps = true) (hs : ∀ p ∈ Fs, Stable p)
    (hdo : ∀ i ∈ left, Does P .any ops left Grows (factOf Fs) a0 w.drew i)
    (hend : ∀ (u : Nat → Value) (w' : World), Grows w.drew w' → AllF Fs u w' ps → Q .normal (putPs u ps a0) w') : (Code.region id ops true).wp P Q a0 w := by
  refine wp_region_any hm ?_
  unfold pairsOk at hps
  simp only [Bool.and_eq_true, beq_iff_eq] at hps
  obtain ⟨h1, h2⟩ := hps
  refine wpAny_facts (md := .any) Grows (factOf Fs) hn Grows.refl (fun _ _ _ => Grows.trans) (fun i v w w' h hg => stable_of hs i v w w' h hg) hdo (fun u w' hR hf => ?_) _ ?_
  · rw [h1] at hf ⊢
    rw [putPs_all u ps a0 h2]
    exact hend u w' hR (allF_of ps hf)
  · unfold unlisted
    refine Nat.le_trans (List.length_filter_le _ _) ?_
    simp
end
end Go.Proofs.YtkgnnlglabihkaaGreatDoor

/- A region whose loads are taken first under a condition S that its LAST operation (a store that waits for all others) need not keep. No program in sight. -/
namespace Go.Proofs.YtkgnnlglabihkaaGreatDoor
open Go
set_option linter.unusedVariables false
section
variable {P : Program} {ops : Array Oper} {Q : Exit → Act → World → Prop} {md : Region.Mode} {S : World → Prop} {L : Nat}

def wpAnyS (P : Program) (md : Region.Mode) (ops : Array Oper) (Q : Exit → Act → World → Prop) (S : World → Prop) (L : Nat) : Nat → Array Bool → Act → World → Prop
  | 0, listed, a, w => Region.ready md ops listed = [] ∧ Q .normal a w
  | fuel + 1, listed, a, w =>
    (Region.ready md ops listed = [] → Q .normal a w) ∧
    ∀ i ∈ Region.ready md ops listed, wpOp P ops Q i (fun a' w' => (i ≠ L → S w') ∧ wpAnyS P md ops Q S L fuel (listed.setIfInBounds i true) a' w') a w
theorem wpAny_of_S : ∀ (fuel : Nat) (listed : Array Bool) (a : Act) (w : World), wpAnyS P md ops Q S L fuel listed a w → wpAny P md ops Q fuel listed a w
  | 0, _, _, _, h => h
  | fuel + 1, _, _, _, h => ⟨h.1, fun i hi => wpOp_mono (fun a' w' h' => wpAny_of_S fuel _ a' w' h'.2) (h.2 i hi)⟩
/-- the last operation waits for number i -/
def lastWaits (md : Region.Mode) (ops : Array Oper) (L i : Nat) : Bool := match ops[L]? with | some o => i != L && o.after.any fun e => Region.binds md e && e.on == i | none => false
theorem not_last {i j : Nat} {listed : Array Bool} (hw : lastWaits md ops L i = true) (hi : i ∈ Region.ready md ops listed) (hj : j ∈ Region.ready md ops listed) : j ≠ L := by
  rintro rfl
  unfold lastWaits at hw
  obtain ⟨_, o, ho, hall⟩ := mem_ready.1 hj
  rw [ho] at hw
  simp only [Bool.and_eq_true] at hw
  obtain ⟨e, he, hb⟩ := Array.any_eq_true'.1 hw.2
  simp only [Bool.and_eq_true, beq_iff_eq] at hb
  have h1 := hall e he hb.1
  have h0 := (mem_ready.1 hi).1
  rw [hb.2] at h1
  rcases Nat.lt_or_ge i listed.size with h' | h'
  · simp [h'] at h0 h1; rw [h0] at h1; cases h1
  · simp [Array.getElem?_eq_none h'] at h1
theorem wpAnyS_first {i : Nat} {oi : Oper} {v : Value} (hi : ops[i]? = some oi) (hsel : ∀ (j : Nat) (o : Oper) cs b, ops[j]? = some o → o.op ≠ .select cs b)
    (hQ : ∀ c a w, Q (.panic c) (a.put oi.dst v) w → Q (.panic c) a w) (hLw : lastWaits md ops L i = true) :
    ∀ (fuel : Nat) (listed : Array Bool) (a : Act) (w : World),
      (∀ j oj, ops[j]? = some oj → j ≠ i → listed.getD j true = false → (∀ e ∈ oj.after, Region.binds md e = true → e.on ≠ i) → oi.apart ops oj = true) →
      i ∈ Region.ready md ops listed → YieldsIf P ops S oi v a → S w →
      wpAnyS P md ops Q S L fuel (listed.setIfInBounds i true) (a.put oi.dst v) w → wpAnyS P md ops Q S L (fuel + 1) listed a w := by
  intro fuel
  induction fuel with
  | zero =>
    intro listed a w _ hr hy hS H
    refine ⟨fun h => (by rw [h] at hr; cases hr), fun j hj => ?_⟩
    by_cases hji : j = i
    · subst hji; exact hy.wpOp hi hS ⟨fun _ => hS, H⟩
    · have := ready_mono hj hji
      rw [H.1] at this
      cases this
  | succ fuel ih =>
    intro listed a w hfree hr hy hS H
    refine ⟨fun h => (by rw [h] at hr; cases hr), fun j hj => ?_⟩
    by_cases hji : j = i
    · subst hji; exact hy.wpOp hi hS ⟨fun _ => hS, H⟩
    · have h1 := H.2 j (ready_mono hj hji)
      have hjL := not_last hLw hr hj
      obtain ⟨hjun, oj, hoj, hall⟩ := mem_ready.1 hj
      have hnot : ∀ e ∈ oj.after, Region.binds md e = true → e.on ≠ i := fun e he hb heq => by
        have h1 := hall e he hb
        have h0 := (mem_ready.1 hr).1
        rw [heq] at h1
        rcases Nat.lt_or_ge i listed.size with h' | h'
        · simp [h'] at h0 h1; rw [h0] at h1; cases h1
        · simp [Array.getElem?_eq_none h'] at h1
      have h2 := wpOp_putIf hoj (hfree j oj hoj hji hjun hnot) (fun cs b => hsel i oi cs b hi) (fun cs b => hsel j oj cs b hoj) hQ hy h1
      have hfree' : ∀ k ok, ops[k]? = some ok → k ≠ i → (listed.setIfInBounds j true).getD k true = false →
          (∀ e ∈ ok.after, Region.binds md e = true → e.on ≠ i) → oi.apart ops ok = true := fun k ok hk hki hun hno => by
        refine hfree k ok hk hki ?_ hno
        by_cases hjk : j = k
        · subst hjk; exact hjun
        · rw [getD_set_ne true hjk] at hun; exact hun
      refine wpOp_mono (fun a' w' h3 => ⟨fun _ => h3.2.1 hjL, ih (listed.setIfInBounds j true) a' w' hfree' (ready_mono hr (Ne.symm hji)) h3.1 (h3.2.1 hjL) ?_⟩) h2
      rw [Array.setIfInBounds_comm _ _ hji]
      exact h3.2.2
theorem wpAnyS_take {i : Nat} {oi : Oper} {v : Value} {fuel : Nat} {listed : Array Bool} {a : Act} {w : World} (hi : ops[i]? = some oi)
    (hs : Region.noSelect ops = true) (hf : Region.free md ops listed i = true) (hr : (Region.ready md ops listed).contains i = true) (hLw : lastWaits md ops L i = true)
    (hQ : ∀ c a w, Q (.panic c) (a.put oi.dst v) w → Q (.panic c) a w) (hy : YieldsIf P ops S oi v a) (hS : S w)
    (h : wpAnyS P md ops Q S L fuel (listed.setIfInBounds i true) (a.put oi.dst v) w) : wpAnyS P md ops Q S L (fuel + 1) listed a w :=
  wpAnyS_first hi (Region.noSelect_spec hs) hQ hLw fuel listed a w (Region.free_spec hi hf) (by simpa using hr) hy hS h
/-- what comes up alone, S anew behind it -/
theorem wpAnyS_one {i : Nat} {o : Oper} {fuel : Nat} {listed : Array Bool} {a : Act} {w : World} (hr : Region.ready md ops listed = [i]) (ho : ops[i]? = some o)
    (h : ∀ K' : Act → World → Prop, Shut (∀ a w, S w → (S w → wpAnyS P md ops Q S L fuel (listed.setIfInBounds i true) a w) → K' a w) → if Region.wanted o (yielded ops a.tmps) = true then Oper.wp P o a w K' Q else K' (a.put o.dst undef) w) :
    wpAnyS P md ops Q S L (fuel + 1) listed a w := by
  refine ⟨fun h0 => by (rw [hr] at h0; cases h0), fun j hj => ?_⟩
  rw [hr] at hj
  simp only [List.mem_singleton] at hj
  subst hj
  exact wpOp_step ho (fun K' hK => h K' (fun a w hS hW => hK a w ⟨fun _ => hS, hW hS⟩))
/-- the last one -/
theorem wpAnyS_last {o : Oper} {fuel : Nat} {listed : Array Bool} {a : Act} {w : World} (hr : Region.ready md ops listed = [L]) (ho : ops[L]? = some o) (hdone : Region.ready md ops (listed.setIfInBounds L true) = [])
    (h : ∀ K' : Act → World → Prop, Shut (∀ a w, Q .normal a w → K' a w) → if Region.wanted o (yielded ops a.tmps) = true then Oper.wp P o a w K' Q else K' (a.put o.dst undef) w) :
    wpAnyS P md ops Q S L (fuel + 1) listed a w := by
  refine ⟨fun h0 => by (rw [hr] at h0; cases h0), fun j hj => ?_⟩
  rw [hr] at hj
  simp only [List.mem_singleton] at hj
  subst hj
  refine wpOp_step ho (fun K' hK => h K' (fun a w hq => hK a w ⟨fun hne => absurd rfl hne, ?_⟩))
  cases fuel with
  | zero => exact ⟨hdone, hq⟩
  | succ f => exact ⟨fun _ => hq, by rw [hdone]; intro i hi; cases hi⟩
theorem wp_region_last {id : Nat} {a : Act} {w : World} (L : Nat) (hm : P.follows .mixedOrders = true) (hS : S w.drew)
    (h : S w.drew → wpAnyS P .any ops Q S L ops.size (Array.replicate ops.size false) a w.drew) : (Code.region id ops true).wp P Q a w :=
  wp_region_any hm (wpAny_of_S _ _ _ _ (h hS))
end
end Go.Proofs.YtkgnnlglabihkaaGreatDoor

/- A slice written out, of one element of several cells. No program in sight. -/
namespace Go.Proofs.YtkgnnlglabihkaaGreatDoor
open Go Go.RowKit
set_option linter.unusedVariables false

theorem fold_put (cs : List Value) : ∀ (o : Nat) (C : Array Value), o + cs.length ≤ C.size → ((cs.zipIdx o).foldl (fun (a : Array Value) (p : Value × Nat) => a.setIfInBounds p.2 p.1) C).toList = C.toList.take o ++ cs ++ C.toList.drop (o + cs.length) := by
  induction cs with
  | nil => intro o C h; simp
  | cons c cs ih =>
    intro o C h
    simp only [List.length_cons] at h
    rw [List.zipIdx_cons, List.foldl_cons, ih (o+1) _ (by simp; omega)]
    have ho : o < C.toList.length := by simp; omega
    simp only [Array.toList_setIfInBounds, List.length_cons]
    rw [show o + 1 + cs.length = o + (cs.length + 1) by omega, List.take_set, List.take_succ_eq_append_getElem ho, List.set_append_right _ _ (by simp; exact Nat.min_le_left _ _), List.drop_set_of_lt (by omega)]
    simp [Nat.min_eq_left (show o ≤ C.size by omega)]
theorem fill_one (cs C : Array Value) (v : Value) (hv : v.cells = cs) (hs : C.size = cs.size) : Instr.fill (fun i => some (i * cs.size, cs.size)) C [(0, v)] = some cs := by
  have h := fold_put cs.toList 0 C (by simp; omega)
  rw [List.take_zero, List.nil_append, Nat.zero_add, List.drop_eq_nil_of_le (by simp; omega), List.append_nil] at h
  unfold Instr.fill
  simp only [hv, Nat.zero_mul, Nat.zero_add, hs, ne_eq, not_true_eq_false, decide_false, Bool.false_or, gt_iff_lt, Nat.lt_irrefl, Bool.false_eq_true, if_false]
  unfold Instr.fill
  congr 1
  apply Array.toList_inj.1
  rw [← h, ← Array.foldl_toList, Array.toList_zipIdx]
theorem run_buildSlice_one {P : Program} {t e : TypeId} {z : Value} {size bytes : Nat} (hE : ElW P t e z size bytes) (hsm : size ≤ 1048576) (w : World) (cs : Array Value) (hs : cs.size = size) :
    (Instr.buildSlice t 1 #[(0, .agg cs)]).run P w = .ok (.slice (some ⟨w.heap.size, 0, none⟩) 1 1) (w.alloc (.cells cs e)) := by
  obtain ⟨i, hi, hz0, hz1, hz2⟩ := info_parts hE.info
  have hpos := hE.pos
  subst hs
  have hf := fill_one cs ((Array.range (1 * cs.size)).map (z.cells[· % z.cells.size]!)) (.agg cs) rfl (by simp)
  have h1 : ¬ (1 * cs.size > 2 ^ 24) := by omega
  have h2 : ¬ (1 * cs.size = 0) := by omega
  simp only [Nat.one_mul] at hf h1 h2
  simp [Instr.buildSlice, run_underlying hE.slice, sizeOf, typeInfo, hi, hz1, zeroValue, hz0, hf, newRow]
  rw [if_neg (by omega), if_neg (by rintro rfl; simp at hpos)]
/-- at a step of a region that draws its order -/
theorem step_buildSlice_one {P : Program} {t e : TypeId} {z : Value} {size bytes : Nat} (hE : ElW P t e z size bytes) (hsm : size ≤ 1048576) {w : World} {ops : Array Oper} {o : Oper} {a : Act} {K : Act → World → Prop} {Q : Exit → Act → World → Prop} {E : Prop}
    (hgd : Region.wanted o (yielded ops a.tmps) = true) (x : Operand) (ho : o.op = .buildSlice t 1 #[(0, x)]) (cs : Array Value) (hs : cs.size = size) (hx : a.eval x = .agg cs)
    (h : K (a.put o.dst (.slice (some ⟨w.heap.size, 0, none⟩) 1 1)) (w.alloc (.cells cs e))) : if Region.wanted o (yielded ops a.tmps) = true then Oper.wp P o a w K Q else E := by
  rw [if_pos hgd]
  have hr := run_buildSlice_one hE hsm w cs hs
  unfold Oper.wp execOp
  simp only [ho, List.map_toArray, List.map_cons, List.map_nil, hx, hr, Sem.run_bind, Sem.run_pure, Result.andThen_ok]
  exact h
end Go.Proofs.YtkgnnlglabihkaaGreatDoor

/- Rows of bytes of the call's own, each in a block of its own. No program in sight. -/
namespace Go.Proofs.YtkgnnlglabihkaaGreatDoor
open Go Go.RowKit
set_option linter.unusedVariables false

structure Rws (w : World) (tb e : TypeId) (base : Nat) (v : Value) (vs : List Value) (ls : List (List UInt8)) : Prop where
  own : OwnV w tb base v vs
  len : vs.length = ls.length
  row : ∀ (i : Nat) (x : Value) (l : List UInt8), vs[i]? = some x → ls[i]? = some l → Own w e base x l
  off : ∀ (i : Nat) (x : Value) (k : Nat), vs[i]? = some x → x.ownBlock = some k → v.ownBlock ≠ some k
  ord : ∀ (i j : Nat) (x y : Value) (k m : Nat), i < j → vs[i]? = some x → vs[j]? = some y → x.ownBlock = some k → y.ownBlock = some m → k < m
section
variable {w w' : World} {tb e : TypeId} {base : Nat} {v : Value} {vs : List Value} {ls : List (List UInt8)}
theorem Rws.nil (w : World) (tb e : TypeId) (base : Nat) : Rws w tb e base (.slice none 0 0) [] [] :=
  ⟨OwnV.nil _ _ _, rfl, fun i x l h => by simp at h, fun i x k h => by simp at h, fun i j x y k m _ h => by simp at h⟩
theorem Rws.lt (h : Rws w tb e base v vs ls) : ∀ (i : Nat) (x : Value) (k : Nat), vs[i]? = some x → x.ownBlock = some k → base ≤ k ∧ k < w.heap.size := fun i x k hx hk => by
  have hi := (List.getElem?_eq_some_iff.1 hx).1
  exact Own.lt (h.row i x _ hx (List.getElem?_eq_getElem (by rw [← h.len]; exact hi))) k hk
/-- the blocks of it -/
def Rws.In (v : Value) (vs : List Value) (k : Nat) : Prop := v.ownBlock = some k ∨ ∃ (i : Nat) (x : Value), vs[i]? = some x ∧ x.ownBlock = some k
theorem Rws.keep (h : Rws w tb e base v vs ls) (hk : ∀ k, Rws.In v vs k → w'.heap[k]? = w.heap[k]?) : Rws w' tb e base v vs ls :=
  ⟨h.own.keep fun k hb => hk k (Or.inl hb), h.len, fun i x l hx hl => roww_keep (h.row i x l hx hl) fun k hb => hk k (Or.inr ⟨i, x, hx, hb⟩), h.off, h.ord⟩
theorem Rws.inlt (h : Rws w tb e base v vs ls) : ∀ k, Rws.In v vs k → base ≤ k ∧ k < w.heap.size := fun k hk => by
  rcases hk with hk | ⟨i, x, hx, hk⟩
  · exact h.own.lt k hk
  · exact h.lt i x k hx hk
theorem Rws.frame {S : Nat → Prop} (h : Rws w tb e base v vs ls) (hf : Frame S w w') (hS : ∀ k, Rws.In v vs k → S k) : Rws w' tb e base v vs ls := h.keep fun k hk => hf.block k (hS k hk)
theorem Rws.below_ (h : Rws w tb e base v vs ls) (hb : Below w.heap.size w w') : Rws w' tb e base v vs ls := h.keep fun k hk => hb.block k (h.inlt k hk).2
/-- one row more -/
theorem Rws.push (h : Rws w tb e base v vs ls) {v' x : Value} {l : List UInt8} (hF : Frame (fun k => k < w.heap.size ∧ v.ownBlock ≠ some k) w w') (hO : OwnV w' tb base v' (vs ++ [x]))
    (hv : v'.ownBlock = v.ownBlock ∨ ∃ b, v'.ownBlock = some b ∧ w.heap.size ≤ b) (hx : Own w' e base x l) (hn : ∀ k, x.ownBlock = some k → w.heap.size ≤ k ∧ v'.ownBlock ≠ some k) : Rws w' tb e base v' (vs ++ [x]) (ls ++ [l]) := by
  have hlt : ∀ (i : Nat) (y : Value), (vs ++ [x])[i]? = some y → (vs[i]? = some y ∧ i < vs.length) ∨ (i = vs.length ∧ y = x) := fun i y hy => by
    rcases Nat.lt_or_ge i vs.length with hi | hi
    · rw [List.getElem?_append_left hi] at hy; exact .inl ⟨hy, hi⟩
    · rw [List.getElem?_append_right hi] at hy
      have h0 : i - vs.length = 0 := by
        rcases Nat.lt_or_ge (i - vs.length) 1 with h' | h'
        · omega
        · rw [List.getElem?_eq_none (by simpa using h')] at hy; cases hy
      rw [h0] at hy
      injection hy with hy
      exact .inr ⟨by omega, hy.symm⟩
  refine ⟨hO, by rw [List.length_append, List.length_append, h.len]; rfl, fun i y m hy hm => ?_, fun i y k hy hk => ?_, fun i j y z k m hij hy hz hk hm => ?_⟩
  · rcases hlt i y hy with ⟨hy, hi⟩ | ⟨rfl, rfl⟩
    · rw [List.getElem?_append_left (by rw [← h.len]; exact hi)] at hm
      exact roww_keep (h.row i y m hy hm) fun k hk => hF.block k ⟨(h.lt i y k hy hk).2, h.off i y k hy hk⟩
    · rw [h.len, List.getElem?_append_right (Nat.le_refl _), Nat.sub_self] at hm
      injection hm with hm
      subst hm
      exact hx
  · rcases hlt i y hy with ⟨hy, hi⟩ | ⟨rfl, rfl⟩
    · rcases hv with hv | ⟨b, hb, hb'⟩
      · rw [hv]; exact h.off i y k hy hk
      · rw [hb]; intro e; injection e with e; have := (h.lt i y k hy hk).2; omega
    · exact (hn k hk).2
  · rcases hlt j z hz with ⟨hz, hj⟩ | ⟨rfl, rfl⟩
    · rcases hlt i y hy with ⟨hy, _⟩ | ⟨rfl, _⟩
      · exact h.ord i j y z k m hij hy hz hk hm
      · omega
    · rcases hlt i y hy with ⟨hy, _⟩ | ⟨rfl, _⟩
      · have h1 := (h.lt i y k hy hk).2
        have h2 := (hn m hm).1
        omega
      · omega
/-- a row, as it lies -/
theorem Rws.at_ (h : Rws w tb e base v vs ls) {i : Nat} {l : List UInt8} (hl : ls[i]? = some l) : ∃ A c, vs[i]? = some (.slice A l.length c) ∧ Rd w w.heap.size A l ∧ l.length ≤ c := by
  have hi : i < vs.length := by rw [h.len]; exact (List.getElem?_eq_some_iff.1 hl).1
  obtain ⟨A, c, he, hr, hc⟩ := (h.row i _ l (List.getElem?_eq_getElem hi) hl).form
  exact ⟨A, c, by rw [List.getElem?_eq_getElem hi, he], hr, hc⟩
end
end Go.Proofs.YtkgnnlglabihkaaGreatDoor
