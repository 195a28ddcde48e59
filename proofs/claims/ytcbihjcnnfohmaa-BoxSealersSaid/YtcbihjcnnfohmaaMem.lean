/- Words for bytes in memory: a slice that reads as a list of bytes; a row of the call's own. No program in sight. -/
import Derived.Below
import Derived.Laws.OwnMore
import Derived.Laws.Rows
import Derived.Laws.IdiomStrings
import Derived.Laws.Tables
import Derived.Laws.CopyOwn
import Derived.Maps.AppendAt
import Derived.Deep.Draws
import Derived.WalkKit
import Derived.ProofKit
import Derived.OpenShut
import Derived.Lib.Hide
namespace Go.Proofs.Ytcbihjcnnfohmaa
open Go Go.RowKit
set_option linter.unusedVariables false

/-- a byte's value -/
def bv (c : UInt8) : Value := .int .u8 ((c.toNat : Nat) : Int)
def bvs (l : List UInt8) : List Value := l.map bv
def nums (l : List UInt8) : List Int := l.map fun c => ((c.toNat : Nat) : Int)
theorem nums_vals (l : List UInt8) : (nums l).map (Value.int .u8) = bvs l := by simp [nums, bvs, bv]
theorem bvs_length (l : List UInt8) : (bvs l).length = l.length := by simp [bvs]
theorem nums_length (l : List UInt8) : (nums l).length = l.length := by simp [nums]
theorem bvs_append (a b : List UInt8) : bvs (a ++ b) = bvs a ++ bvs b := by simp [bvs]
theorem bvs_get {l : List UInt8} {j : Nat} (h : j < l.length) : (bvs l)[j]? = some (bv l[j]) := by simp [bvs, h]
theorem bvs_one (l : List UInt8) : ∀ u ∈ bvs l, u.oneCell' = true := by
  intro u hu
  simp only [bvs, List.mem_map] at hu
  obtain ⟨c, _, rfl⟩ := hu
  rfl
theorem ret_int {k : IntKind} {a b : Int} (h : a = b) : Ending.returned (.int k a) = .returned (.int k b) := by rw [h]

/-- an address in a block, so many places on -/
theorem add_block (a : Addr) (n : Nat) : (a.add n).block = a.block := by unfold Addr.add; split <;> rfl
theorem add_add (a : Addr) (i j : Nat) : (a.add i).add j = a.add (i + j) := by
  unfold Addr.add
  by_cases hi : i = 0 <;> by_cases hj : j = 0 <;> simp [hi, hj, Nat.add_assoc]

/-- A SLICE THAT READS AS THE BYTES l: whatever address where there are none; it lies below block B -/
def Rd (w : World) (B : Nat) (A : Option Addr) (l : List UInt8) : Prop :=
  0 < l.length → ∃ ad, A = some ad ∧ ad.block < B ∧ ∀ j (hj : j < l.length), w.cell? (ad.add j) = some (bv l[j])

section
variable {w w' : World} {B B' : Nat} {A : Option Addr} {l : List UInt8}
theorem Rd.nil (w : World) (B : Nat) (A : Option Addr) : Rd w B A [] := fun h => absurd h (by simp)
theorem Rd.at_ (h : Rd w B A l) {k : Nat} (hk : k < l.length) : ∃ ad, A = some ad ∧ ad.block < B ∧ w.cell? (ad.add k) = some (bv l[k]) := by
  obtain ⟨ad, e, hb, hc⟩ := h (by omega)
  exact ⟨ad, e, hb, hc k hk⟩
theorem Rd.keep (h : Rd w B A l) (hk : ∀ p : Addr, p.block < B → w'.cell? p = w.cell? p) : Rd w' B A l := fun hn => by
  obtain ⟨ad, e, hb, hc⟩ := h hn
  exact ⟨ad, e, hb, fun j hj => (hk _ (by rw [add_block]; exact hb)).trans (hc j hj)⟩
theorem Rd.more (h : Rd w B A l) (hB : B ≤ B') : Rd w B' A l := fun hn => by
  obtain ⟨ad, e, hb, hc⟩ := h hn
  exact ⟨ad, e, by omega, hc⟩
theorem Rd.below (h : Rd w B A l) (hb : Below B w w') : Rd w' B A l := h.keep fun _ hp => hb.cell hp
theorem Rd.alloc (h : Rd w B A l) (hB : B ≤ w.heap.size) (o : Obj) : Rd (w.alloc o) B A l := h.keep fun p hp => World.cell?_alloc_lt w o p (by omega)
theorem Rd.take (h : Rd w B A l) (k : Nat) : Rd w B A (l.take k) := fun hn => by
  have hl : (l.take k).length ≤ l.length := by simp; omega
  obtain ⟨ad, e, hb, hc⟩ := h (by omega)
  refine ⟨ad, e, hb, fun j hj => ?_⟩
  rw [hc j (by omega)]
  simp
theorem Rd.drop (h : Rd w B A l) (k : Nat) {cap : Nat} (hk : l.length ≤ cap) : Rd w B (if cap = k then A else A.map (·.add k)) (l.drop k) := fun hn => by
  have hl : (l.drop k).length = l.length - k := by simp
  obtain ⟨ad, rfl, hb, hc⟩ := h (by omega)
  rw [if_neg (by omega)]
  refine ⟨ad.add k, rfl, by rw [add_block]; exact hb, fun j hj => ?_⟩
  rw [add_add, hc (k + j) (by omega)]
  simp
/-- out of an owned row -/
theorem Rd.of_own {base : Nat} {e : TypeId} {n c : Nat} (h : w.ownsRow base e 1 (.slice A n c) n (bvs l)) : Rd w w.heap.size A l := fun hn => by
  have hl : l.length = n := by have := h.1; rw [bvs_length] at this; omega
  rcases h.2 with ⟨_, h0⟩ | ⟨g, cap, cur, hv, _, hh, hnc, _, hs, ht⟩
  · omega
  · have hA : A = some ⟨g, 0, none⟩ := by injection hv
    subst hA
    refine ⟨_, rfl, (Array.getElem?_eq_some_iff.1 hh).1, fun j hj => ?_⟩
    have h1 : w.cell? (Addr.add ⟨g, 0, none⟩ j) = cur[j]? := by
      have := cell_of_row w g j cur e (0, 0) hh
      rw [show Addr.add ⟨g, 0, none⟩ j = ⟨g, j, none⟩ by unfold Addr.add; split <;> simp_all]
      exact this
    rw [h1, ← bvs_get hj, ← ht]
    simp only [Nat.mul_one]
    rw [List.getElem?_take, if_pos (by omega), Array.getElem?_toList]
end

theorem below_setRow_ {B : Nat} {a w : World} (h : Below B a w) {g : Nat} (hg : B ≤ g) (cs : Array Value) : Below B a (w.setRow g cs) :=
  ⟨h.os, h.tape, h.output, by rw [setRow_size]; exact h.size, fun k hk => by rw [setRow_other w g k cs (by omega)]; exact h.block k hk⟩
/-- the bytes of a string -/
def ofStr (s : ByteArray) : List UInt8 := s.data.toList
theorem take_snoc {l : List UInt8} {k : Nat} (h : k < l.length) : l.take (k + 1) = l.take k ++ [l[k]] := by
  rw [List.take_succ_eq_append_getElem h]

/-- WHAT THE PROGRAM's TABLES SAY OF []byte -/
structure U8 (P : Program) (t e : TypeId) : Prop where
  slice : P.underlying t = some (.slice e)
  elem : P.underlying e = some (.int .u8)
  info : (P.info? e).map (fun i => (i.zero, i.size, i.bytes)) = some (some (.int .u8 0), 1, 1)
theorem bv_zero : bv 0 = .int .u8 0 := rfl
theorem made_bytes (n : Nat) : madeCells #[.int .u8 0] n = (bvs (List.replicate n 0)).toArray := by
  apply Array.toList_inj.1
  rw [toList_madeCells_one]
  simp [bvs, bv_zero]

/-- an operation whose guard says yes (or that has none) -/
theorem wpList_wanted {P : Program} {ops : Array Oper} {Q : Exit → Act → World → Prop} {a : Act} {w : World} {rest : List Oper} {o : Oper} (hgd : Region.wanted o (yielded ops a.tmps) = true)
    (h : ∀ K : Act → World → Prop, (∀ a w, wpList P ops Q rest a w → K a w) → o.wp P a w K Q) : wpList P ops Q (o :: rest) a w :=
  wpList_step fun K hK => by rw [if_pos hgd]; exact h K hK
/-- 'make([]byte, n, m)': a new block of m bytes 0 -/
theorem wpList_make_u8 {P : Program} {t e : TypeId} (hP : U8 P t e) {w : World} {ops : Array Oper} {rest : List Oper} {o : Oper} {a : Act} {Q : Exit → Act → World → Prop}
    (hg : Region.wanted o (yielded ops a.tmps) = true) (l c : Operand) (hop : o.op = Op.makeSlice t l c) (kl kc : IntKind) (L C : Int) (n m : Nat) (hl : a.eval l = .int kl L) (hc : a.eval c = .int kc C) (hL : L = (n : Int)) (hC : C = (m : Int)) (hnm : n ≤ m) (hm : m ≤ 281474976710656)
    (hK : wpList P ops Q rest (a.put o.dst (.slice (some ⟨w.heap.size, 0, none⟩) n m)) (w.alloc (.cells (bvs (List.replicate m 0)).toArray e))) :
    wpList P ops Q (o :: rest) a w := by
  refine wpList_wanted hg fun K hK' => ?_
  subst hL hC
  obtain ⟨i, hi, hz0, hz1, hz2⟩ := info_parts hP.info
  have hr := run_make (P := P) w t e i (.int .u8 0) hP.slice hi hz0 kl kc n m (by omega) (by omega) (by rw [hz2]; omega) (by omega)
  rw [hz1] at hr
  simp only [Int.toNat_natCast, Nat.mul_one] at hr
  rw [show Value.cells (.int .u8 0) = #[.int .u8 0] from rfl, made_bytes] at hr
  unfold Oper.wp
  simp [execOp, hop, hl, hc, hr, Result.andThen]
  exact hK' _ _ hK

/-- A ROW KNOWN WHOLE: block g holds just the bytes l, none frozen -/
def Row (w : World) (e : TypeId) (g : Nat) (l : List UInt8) : Prop := w.heap[g]? = some (.cells (bvs l).toArray e (0, 0))
section
variable {w w' : World} {e : TypeId} {g : Nat} {l : List UInt8}
theorem Row.lt (h : Row w e g l) : g < w.heap.size := (Array.getElem?_eq_some_iff.1 h).1
theorem Row.new (w : World) (e : TypeId) (l : List UInt8) : Row (w.alloc (.cells (bvs l).toArray e)) e w.heap.size l := heap_alloc_new w _
theorem Row.cell (h : Row w e g l) {i : Nat} (hi : i < l.length) : w.cell? ⟨g, i, none⟩ = some (bv l[i]) := by
  rw [cell_of_row w g i _ e (0, 0) h]
  simp [bvs, hi]
theorem Row.frozen (h : Row w e g l) (i : Nat) : w.frozen? ⟨g, i, none⟩ = false := frozen_of_row w g i _ e h
theorem Row.below {B : Nat} (h : Row w e g l) (hb : Below B w w') (hg : g < B) : Row w' e g l := (hb.block g hg).trans h
theorem Row.alloc (h : Row w e g l) (o : Obj) : Row (w.alloc o) e g l := (heap_alloc_old w o h.lt).trans h
theorem Row.drew (h : Row w e g l) : Row w.drew e g l := h
theorem Row.far (h : Row w e g l) {p : Addr} (hp : g ≠ p.block) (u : Value) : Row (w.setCell p u) e g l := (heap_setCell_other w p g u hp).trans h
theorem Row.set (h : Row w e g l) (i : Nat) (c : UInt8) : Row (w.setCell ⟨g, i, none⟩ (bv c)) e g (l.set i c) := by
  have := heap_setCell_same w g i _ e (bv c) h
  unfold Row
  rw [this]
  simp [bvs]
theorem add_zero_block (g j : Nat) : Addr.add ⟨g, 0, none⟩ j = ⟨g, j, none⟩ := by unfold Addr.add; split <;> simp_all
/-- a row's first n bytes, read as a slice -/
theorem Row.rd (h : Row w e g l) : Rd w w.heap.size (some ⟨g, 0, none⟩) l := fun _ => ⟨_, rfl, h.lt, fun j hj => by rw [add_zero_block]; exact h.cell hj⟩
theorem Row.own {base : Nat} (h : Row w e g l) (hb : base ≤ g) {n : Nat} (hn : n ≤ l.length) (hm : l.length ≤ maxLen) : w.ownsRow base e 1 (.slice (some ⟨g, 0, none⟩) n l.length) n (bvs (l.take n)) :=
  ⟨by simp [bvs]; omega, .inr ⟨g, l.length, _, rfl, hb, h, hn, hm, by simp [bvs], by simp [bvs]⟩⟩
end
theorem below_setCell_ {B : Nat} {a w : World} (h : Below B a w) {p : Addr} (hp : B ≤ p.block) (u : Value) : Below B a (w.setCell p u) := h.setCell hp u
/-! ### guards: an arm behind 'with_reducible refine at_slot 12 ?_' is tried at the operation that writes slot 12 alone -/
theorem at_slot {P : Program} {ops : Array Oper} {rest : List Oper} {a : Act} {w : World} {Q : Exit → Act → World → Prop} (k : Nat) {op : Op} {ty : TypeId} {pos : String} {af : Array Edge} {gd : Option (Tmp × Bool)}
    (h : wpList P ops Q ({ dst := some k, op := op, type := ty, pos := pos, after := af, guard := gd } :: rest) a w) : wpList P ops Q ({ dst := some k, op := op, type := ty, pos := pos, after := af, guard := gd } :: rest) a w := h
theorem at_store {P : Program} {ops : Array Oper} {rest : List Oper} {a : Act} {w : World} {Q : Exit → Act → World → Prop} (x : Nat) {y : Operand} {T : TypeId} {ty : TypeId} {pos : String} {af : Array Edge} {gd : Option (Tmp × Bool)}
    (h : wpList P ops Q ({ dst := none, op := .store T (.tmp x) y, type := ty, pos := pos, after := af, guard := gd } :: rest) a w) : wpList P ops Q ({ dst := none, op := .store T (.tmp x) y, type := ty, pos := pos, after := af, guard := gd } :: rest) a w := h

theorem Rd.src {w : World} {B : Nat} {A : Option Addr} {l : List UInt8} (h : Rd w B A l) (hl : 0 < l.length) : ∃ ad, A = some ad ∧ ∀ j v, (bvs l)[j]? = some v → w.cell? (ad.add j) = some v := by
  obtain ⟨ad, e, _, hc⟩ := h hl
  refine ⟨ad, e, fun j v hj => ?_⟩
  have hj' : j < l.length := by
    have := (List.getElem?_eq_some_iff.1 hj).1
    rwa [bvs_length] at this
  rw [hc j hj', ← bvs_get hj', hj]
/-- 'copy(d, s)', d in a row known whole: what is behind the call -/
theorem wpList_copy_u8 {P : Program} {t e : TypeId} (hP : U8 P t e) {w : World} {ops : Array Oper} {rest : List Oper} {o : Oper} {a : Act} {Q : Exit → Act → World → Prop}
    (hgd : Region.wanted o (yielded ops a.tmps) = true) (d s : Operand) (ho : o.op = .call { callee := .builtin .copy, args := #[d, s], argTypes := #[t, t] })
    (g off n m : Nat) (A : Option Addr) (k c : Nat) (cur l : List UInt8) (B : Nat) (hd : a.eval d = .slice (some ⟨g, off, none⟩) n m) (hs : a.eval s = .slice A k c)
    (hrow : Row w e g cur) (hr : Rd w B A l) (hk : l.length = k) (hfit : off + n ≤ cur.length)
    (h : ∀ w', Row w' e g (cur.take off ++ (l.take n ++ cur.drop (off + min k n))) → w.grownBy w' (some g) → wpList P ops Q rest (a.put o.dst (goInt ((min k n : Nat) : Int))) w') : wpList P ops Q (o :: rest) a w := by
  subst hk
  have hsz : (P.info? e).map (·.size) = some 1 := by
    obtain ⟨i, hi, _, hz1, _⟩ := info_parts hP.info
    rw [hi]; simp [hz1]
  refine wpList_wanted hgd fun K hK => ?_
  by_cases h0 : min l.length n = 0
  · have hrun := run_copy_none (P := P) w t t o.type e (some ⟨g, off, none⟩) A n m l.length c hP.slice hsz h0
    have := h w (by
      rw [h0, Nat.add_zero]
      have : l.take n = [] := by
        apply List.eq_nil_of_length_eq_zero
        rw [List.length_take, Nat.min_comm]; exact h0
      rw [this, List.nil_append, List.take_append_drop]
      exact hrow) (World.grownBy.refl _ _)
    rw [h0] at this
    unfold Oper.wp
    simp [execOp, ho, resolve, invoke, builtin, hd, hs, hrun, Result.andThen]
    exact hK _ _ this
  · obtain ⟨ad, rfl, hc⟩ := hr.src (by omega)
    have hcs : (bvs (l.take n)).length = min l.length n := by rw [bvs_length, List.length_take, Nat.min_comm]
    have hrun := run_copy_row (P := P) w t t o.type e g off n m ad l.length c (bvs cur).toArray e (bvs (l.take n)) hP.slice hsz hrow hcs
      (by
        intro j v hj
        refine hc j v ?_
        have hj' : j < (bvs (l.take n)).length := (List.getElem?_eq_some_iff.1 hj).1
        rw [bvs_length] at hj'
        have hl : (l.take n).length ≤ l.length := by rw [List.length_take]; omega
        rw [bvs_get hj'] at hj
        rw [bvs_get (by omega : j < l.length), ← hj]
        congr 2
        simp)
      (by rw [hcs]; simp [bvs]; omega) (bvs_one _)
    unfold Oper.wp
    simp only [execOp, ho, resolve, invoke, builtin, Sem.run_bind, Sem.run_pure, Result.andThen_ok, List.map_toArray, List.map_cons, List.map_nil, hd, hs, hrun]
    rw [hcs]
    refine hK _ _ (h _ ?_ ⟨rfl, rfl, rfl, by simp, fun j _ hne => setRow_other w g j _ (fun hj => hne (congrArg some hj))⟩)
    unfold Row
    rw [setRow_heap _ g _ _ e (0, 0) hrow]
    congr 3
    simp [bvs]
/-! ### a slice of bytes of the call's own, and append -/
def Own (w : World) (e : TypeId) (base : Nat) (v : Value) (l : List UInt8) : Prop := w.ownsRow base e 1 v l.length (bvs l)
section
variable {w w' : World} {e : TypeId} {base : Nat} {v : Value} {l : List UInt8}
theorem Own.nil (w : World) (e : TypeId) (base : Nat) : Own w e base (.slice none 0 0) [] := World.ownsRow_nil _ _ _ _
theorem Own.form (h : Own w e base v l) : ∃ A c, v = .slice A l.length c ∧ Rd w w.heap.size A l ∧ l.length ≤ c := by
  rcases h.2 with ⟨rfl, h0⟩ | ⟨g, cap, cur, rfl, _, _, hnc, _⟩
  · have hl : l = [] := List.eq_nil_of_length_eq_zero h0
    subst hl
    exact ⟨none, 0, rfl, Rd.nil _ _ _, Nat.le_refl _⟩
  · exact ⟨_, cap, rfl, Rd.of_own h, hnc⟩
theorem Own.lt (h : Own w e base v l) : ∀ k, v.ownBlock = some k → base ≤ k ∧ k < w.heap.size := World.ownsRow.lt h
theorem Own.kept {row : Option Nat} (h : Own w e base v l) (hg : w.grownBy w' row) (hne : v.ownBlock = none ∨ v.ownBlock ≠ row) : Own w' e base v l := World.ownsRow.kept h hg hne
theorem Own.below (h : Own w e base v l) (hb : Below w.heap.size w w') : Own w' e base v l := by
  refine ⟨h.1, ?_⟩
  rcases h.2 with hn | ⟨g, cap, cur, rfl, hb', hgg, rest⟩
  · exact .inl hn
  · exact .inr ⟨g, cap, cur, rfl, hb', (hb.block g (Array.getElem?_eq_some_iff.1 hgg).1).trans hgg, rest⟩
theorem Own.alloc (h : Own w e base v l) (o : Obj) : Own (w.alloc o) e base v l := h.below ((Below.refl _ _).alloc (Nat.le_refl _) o)
theorem Own.drew (h : Own w e base v l) : Own w.drew e base v l := h
theorem Own.mono {base' : Nat} (h : Own w e base v l) (hb : base' ≤ base) : Own w e base' v l := by
  refine ⟨h.1, ?_⟩
  rcases h.2 with hn | ⟨g, cap, cur, rfl, hb', rest⟩
  · exact .inl hn
  · exact .inr ⟨g, cap, cur, rfl, by omega, rest⟩
end
theorem Row.toOwn {w : World} {e : TypeId} {g base : Nat} {l r : List UInt8} (h : Row w e g (l ++ r)) (hb : base ≤ g) {n m : Nat} (hn : l.length = n) (hm : (l ++ r).length = m) (hx : m ≤ 9223372036854775807) : Own w e base (.slice (some ⟨g, 0, none⟩) n m) l := by
  subst hn hm
  have := h.own (n := l.length) hb (by simp) (by simp only [maxLen]; omega)
  simpa [Own] using this
theorem below_grown {B : Nat} {a w w' : World} {v : Value} {e : TypeId} {base : Nat} {l : List UInt8} (h : Below B a w) (hg : w.grownBy w' v.ownBlock) (hB : B ≤ w.heap.size) (ho : Own w e base v l) (hb : B ≤ base) : Below B a w' :=
  h.grown hg hB (fun k hk => by have := (ho.lt k hk).1; omega)
/-- a byte of a row of the call's own: it is there, may be written, and what is behind the store -/
theorem Own.at_ {w : World} {e : TypeId} {base : Nat} {v : Value} {l : List UInt8} (h : Own w e base v l) {i : Nat} (hi : i < l.length) :
    ∃ g c, v = .slice (some ⟨g, 0, none⟩) l.length c ∧ base ≤ g ∧ g < w.heap.size ∧ w.cell? ⟨g, i, none⟩ = some (bv l[i]) ∧ w.frozen? ⟨g, i, none⟩ = false ∧ ∀ x, Own (w.setCell ⟨g, i, none⟩ (bv x)) e base v (l.set i x) := by
  rcases h.2 with ⟨rfl, h0⟩ | ⟨g, cap, cur, rfl, hb, hh, hnc, hm, hs, ht⟩
  · omega
  · simp only [Nat.mul_one] at hs ht
    have hci : i < cur.size := by omega
    have hcell : cur[i]? = some (bv l[i]) := by
      rw [← bvs_get hi, ← ht, List.getElem?_take, if_pos (by omega), Array.getElem?_toList]
    refine ⟨g, cap, rfl, hb, (Array.getElem?_eq_some_iff.1 hh).1, ?_, frozen_of_row w g i cur e hh, fun x => ⟨by rw [bvs_length, List.length_set, Nat.mul_one], .inr ⟨g, cap, cur.setIfInBounds i (bv x), by rw [List.length_set], hb, heap_setCell_same w g i cur e (bv x) hh, by rw [List.length_set]; exact hnc, hm, by rw [Array.size_setIfInBounds, Nat.mul_one]; exact hs, ?_⟩⟩⟩
    · rw [cell_of_row w g i cur e (0, 0) hh, hcell]
    · rw [List.length_set, Nat.mul_one, Array.toList_setIfInBounds, List.take_set, ht]
      simp [bvs]
theorem Own.at_g {w : World} {e : TypeId} {base g n c : Nat} {l : List UInt8} (h : Own w e base (.slice (some ⟨g, 0, none⟩) n c) l) {i : Nat} (hi : i < l.length) :
    base ≤ g ∧ g < w.heap.size ∧ w.cell? ⟨g, i, none⟩ = some (bv l[i]) ∧ w.frozen? ⟨g, i, none⟩ = false ∧ ∀ x, Own (w.setCell ⟨g, i, none⟩ (bv x)) e base (.slice (some ⟨g, 0, none⟩) n c) (l.set i x) := by
  obtain ⟨g', c', he, h1, h2, h3, h4, h5⟩ := h.at_ hi
  injection he with he1 he2 he3
  injection he1 with he1
  injection he1 with he1
  subst he1
  exact ⟨h1, h2, h3, h4, h5⟩
/-- 'append(s, x...)', s the call's own -/
theorem wpList_append_u8 {P : Program} {t e : TypeId} (hP : U8 P t e) {w : World} {ops : Array Oper} {rest : List Oper} {o : Oper} {a : Act} {Q : Exit → Act → World → Prop}
    (hgd : Region.wanted o (yielded ops a.tmps) = true) (s x : Operand) (ho : o.op = .call { callee := .builtin .append, args := #[s, x], argTypes := #[t, t] })
    (base : Nat) (v : Value) (l : List UInt8) (A : Option Addr) (k c : Nat) (l' : List UInt8) (B : Nat) (hs : a.eval s = v) (hx : a.eval x = .slice A k c) (hown : Own w e base v l) (hr : Rd w B A l') (hk : l'.length = k)
    (hbytes : l.length + k ≤ 140737488355328) (hbase : base ≤ w.heap.size)
    (h : ∀ v' w', Own w' e base v' (l ++ l') → w.grownBy w' v.ownBlock → (v'.ownBlock = v.ownBlock ∨ v'.ownBlock = some w.heap.size) → wpList P ops Q rest (a.put o.dst v') w') : wpList P ops Q (o :: rest) a w := by
  subst hk
  obtain ⟨i, hi, hz0, hz1, hz2⟩ := info_parts hP.info
  refine wpList_wanted hgd fun K hK => ?_
  rcases A with _ | ad
  · have hl : l' = [] := by
      rcases Nat.eq_zero_or_pos l'.length with h0 | h0
      · exact List.eq_nil_of_length_eq_zero h0
      · obtain ⟨_, h', _⟩ := hr h0
        cases h'
    subst hl
    have hrun : (Builtin.append_ #[t, t] o.type #[v, .slice none 0 c]).run P w = .ok v w := by
      rcases hown.2 with ⟨rfl, _⟩ | ⟨g, cap, cur, rfl, _, _, hnc, _⟩
      · simp [Builtin.append_, run_underlying hP.slice, sizeOf, typeInfo, hi, Builtin.lenOf, Builtin.firstCells]
      · simp [Builtin.append_, run_underlying hP.slice, sizeOf, typeInfo, hi, Builtin.lenOf, Builtin.firstCells, hnc, storeCells]
    have := h v w (by simpa using hown) (World.grownBy.refl _ _) (.inl rfl)
    unfold Oper.wp execOp
    simp only [ho, resolve, invoke, builtin, Sem.run_bind, Sem.run_pure, Result.andThen_ok, List.map_toArray, List.map_cons, List.map_nil, hs, hx, List.length_nil, hrun]
    exact hK _ _ this
  · have hcells : ∀ j u, (bvs l')[j]? = some u → w.cell? (ad.add j) = some u := by
      intro j u hj
      have hj' : j < l'.length := by
        have := (List.getElem?_eq_some_iff.1 hj).1
        rwa [bvs_length] at this
      obtain ⟨ad', he, hc⟩ := hr.src (by omega)
      injection he with he
      subst he
      exact hc j u hj
    obtain ⟨v', w', hrun, h2, h3, _, h5⟩ := run_append_own_at (P := P) (w := w) base t o.type e i (.int .u8 0) 1 1 hP.slice hi hz0 hz1 hz2 rfl (by omega) v l.length (bvs l) hown ad l'.length c (bvs l') (by simp [bvs_length]) hcells (bvs_one _)
      (by simp only [maxLen]; omega) (by omega) hbase
    have := h v' w' (by unfold Own; rw [List.length_append, bvs_append]; exact h2) h3 h5
    unfold Oper.wp execOp
    simp only [ho, resolve, invoke, builtin, Sem.run_bind, Sem.run_pure, Result.andThen_ok, List.map_toArray, List.map_cons, List.map_nil, hs, hx, hrun]
    exact hK _ _ this
/-- 'string(b)' -/
def str (l : List UInt8) : ByteArray := ⟨l.toArray⟩
theorem str_inj {a b : List UInt8} (h : str a = str b) : a = b := by
  have := congrArg (fun s => s.data.toList) h
  simpa [str] using this
theorem Rd.str {P : Program} {t e : TypeId} (hP : U8 P t e) (ts : TypeId) (hts : P.underlying ts = some .string) {w : World} {B : Nat} {A : Option Addr} {l : List UInt8} (h : Rd w B A l) (c : Nat) :
    (convert t ts (.slice A l.length c)).run P w = .ok (.string (str l)) w := by
  rcases A with _ | a
  · have hl : l = [] := by
      rcases Nat.eq_zero_or_pos l.length with h0 | h0
      · exact List.eq_nil_of_length_eq_zero h0
      · obtain ⟨ad, h', _⟩ := h h0
        cases h'
    subst hl
    rw [run_convert_bytes_string w t ts e none [].length c hP.slice hP.elem hts]
    rfl
  · refine run_convert_bytes_back w t ts e a c l hP.slice hP.elem hts (fun j hj => ?_)
    obtain ⟨ad, he, _, hc⟩ := h (by omega)
    injection he with he
    subst he
    exact hc j hj
/-- bytes written out in a new block -/
theorem rd_lit {w : World} (T : TypeId) (l : List UInt8) {C : Array Value} (hC : (bvs l).toArray = C) : Rd (w.alloc (.cells C T)) (w.heap.size + 1) (some ⟨w.heap.size, 0, none⟩) l := by
  subst hC
  have := (Row.new w T l).rd
  simpa using this
theorem below_drewN (B : Nat) (w : World) (n : Nat) : Below B w (w.drewN n) := ⟨rfl, rfl, rfl, Nat.le_refl _, fun _ _ => rfl⟩
/-- the empty row, written out in a new block -/
theorem own_empty {w : World} (e : TypeId) {base : Nat} (hb : base ≤ w.heap.size) : Own (w.alloc (.cells #[] e)) e base (.slice (some ⟨w.heap.size, 0, none⟩) 0 0) [] :=
  (Row.new w e []).toOwn (l := []) (r := []) hb rfl rfl (by omega)
/-- the bytes of a constant string, in a new block with the run-time's mark behind its end -/
theorem rd_const {w : World} (T : TypeId) (l : List UInt8) (fr : Nat × Nat) {C : Array Value} (hC : (bvs l).toArray = C) : Rd (w.alloc (.cells C T fr)) (w.heap.size + 1) (some ⟨w.heap.size, 0, none⟩) l := by
  subst hC
  refine fun _ => ⟨_, rfl, Nat.lt_succ_self _, fun j hj => ?_⟩
  rw [add_zero_block, cell_of_row _ _ j _ T fr (heap_alloc_new w _)]
  simp [bvs, hj]
end Go.Proofs.Ytcbihjcnnfohmaa
