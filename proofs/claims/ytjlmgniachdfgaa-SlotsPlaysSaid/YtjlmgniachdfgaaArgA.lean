/- Acts that came in: rows of structs of two numbers and bytes, opened in this seat's words. -/
import Derived.Test.YtjlmgniachdfgaaArgs
import Derived.Test.YtjlmgniachdfgaaFrame
import Derived.Deep.Slices
import Derived.Deep.Fields
import Derived.ChangeSame
namespace Go.Proofs.Ytjlmgniachdfgaa
open Go Go.ChangeShapes Go.WideShapes Go.ChangeAt Go.RowKit Go.Deep
set_option linter.unusedVariables false
section
variable {H : Type} {enc : TypeId × Value → H} {P : Program} {w : World} {base : Nat} {spare : Nat → Bool} {held : Bool}
theorem open_slice_fields {t e : TypeId} {fs : Array Field} {fuel : Nat} {cs : List Value} {x : DataW H × List MemPlace} (ht : P.underlying t = some (.slice e)) (he : P.underlying e = some (.struct fs))
    (hone : oneCellFields P fs = true) (hC : P.cellsOf e = fs.size) (h : DataW.trod enc P w base spare held fuel t cs = some x) :
    (cs = [.slice none 0 0] ∧ x = (.nil, [])) ∨
    ∃ (a : Addr) (len cap m : Nat) (D : Nat → DataW H) (Pl : Nat → List MemPlace), cs = [.slice (some a) len cap] ∧ base ≤ a.block ∧ len ≤ cap ∧ cap ≤ maxLen ∧ m = (if spare a.block then cap else len) ∧
      x = (.slice ((List.range len).map D) ((List.range (m - len)).map fun j => D (len + j)), MemPlace.row a (m * fs.size) ++ (List.range m).flatMap Pl) ∧
      ∀ i, i < m → ∃ (ys : List (DataW H × List MemPlace)) (n : Nat), D i = .agg (ys.map (·.1)) ∧ Pl i = ys.flatMap (·.2) ∧ ys.length = fs.size ∧
        ∀ (j : Nat) (f : Field), fs[j]? = some f → ∃ (v : Value) (y : DataW H × List MemPlace), w.cell? (a.add (i * fs.size + j)) = some v ∧ ys[j]? = some y ∧ DataW.trod enc P w base spare held n f.type [v] = some y := by
  rcases open_slice ht h with h0 | ⟨a, len, cap, m, n, D, Pl, hcs, hb, hl, hm, hmm, hx, hi⟩
  · exact .inl h0
  · refine .inr ⟨a, len, cap, m, D, Pl, hcs, hb, hl, hm, hmm, by rw [hC] at hx; exact hx, fun i him => ?_⟩
    obtain ⟨cs', hc, ht'⟩ := hi i him
    rw [hC] at hc
    obtain ⟨ys, n', hn', hy, hlen, hyl, hf⟩ := DataW.trod_struct he ht'
    obtain ⟨_, hcl, hat⟩ := World.cells?_some hc
    simp only [Prod.mk.injEq] at hy
    refine ⟨ys, n', hy.1, hy.2, hyl, fun j f hj => ?_⟩
    obtain ⟨ho, hk⟩ := hone_of hone j f hj
    have hjl : j < fs.size := (Array.getElem?_eq_some_iff.1 hj).1
    have hcell := hat j hjl
    have hv : cs'[j]? = some (cs'[j]'(by omega)) := List.getElem?_eq_getElem (by omega)
    have h1 := hf j f hj
    rw [ho, hk] at h1
    have hone' : (cs'.drop j).take 1 = [cs'[j]'(by omega)] := by
      rw [List.drop_eq_getElem_cons (by omega)]
      rfl
    rw [hone'] at h1
    have hys : ys[j]? = some (ys[j]'(by omega)) := List.getElem?_eq_getElem (by omega)
    refine ⟨_, _, ?_, hys, h1.trans hys⟩
    rw [← Go.Deep.add_add, hcell, hv]
end
/-- an act -/
structure ActP where
  d : Int
  n : Int
  A : Option Addr
  m : Nat
  c : Nat
  l : List UInt8
structure ActOk (w : World) (p : ActP) : Prop where
  d0 : -9223372036854775808 ≤ p.d
  d1 : p.d ≤ 9223372036854775807
  n0 : -9223372036854775808 ≤ p.n
  n1 : p.n ≤ 9223372036854775807
  len : p.l.length = p.m
  fit : p.m ≤ p.c
  room : p.c ≤ 9223372036854775807
  rd : Rd w w.heap.size p.A p.l
structure ArgA (w : World) (a : Option Addr) (len cap : Nat) (as : List ActP) : Prop where
  hlen : as.length = len
  fit : len ≤ cap
  room : cap ≤ 9223372036854775807
  at_ : 0 < as.length → ∃ ad, a = some ad ∧ ad.block < w.heap.size ∧ ∀ i (hi : i < as.length), w.cell? (ad.add (i * 3)) = some (.int .i64 as[i].d) ∧ w.cell? (ad.add (i * 3 + 1)) = some (.int .i64 as[i].n) ∧ w.cell? (ad.add (i * 3 + 2)) = some (.slice as[i].A as[i].m as[i].c)
  ok : ∀ p ∈ as, ActOk w p
/-- one act's fields, opened -/
theorem open_act {H : Type} {enc : TypeId × Value → H} {P : Program} {q u ti : TypeId} (hq : P.underlying q = some (.slice u)) (hu : P.underlying u = some (.int .u8)) (hi : P.underlying ti = some (.int .i64)) (cu : P.cellsOf u = 1) {W : World} {n : Nat} {v0 v1 v2 : Value} {y0 y1 y2 : DataW H × List MemPlace}
    (t0 : DataW.trod enc P W 0 (fun _ => true) true n ti [v0] = some y0) (t1 : DataW.trod enc P W 0 (fun _ => true) true n ti [v1] = some y1) (t2 : DataW.trod enc P W 0 (fun _ => true) true n q [v2] = some y2) :
    ∃ p : ActP, v0 = .int .i64 p.d ∧ v1 = .int .i64 p.n ∧ v2 = .slice p.A p.m p.c ∧ ActOk W p := by
  obtain ⟨d, e0, _, hd⟩ := DataW.trod_int hi t0
  obtain ⟨m, e1, _, hm⟩ := DataW.trod_int hi t1
  simp only [List.cons.injEq, and_true] at e0 e1
  subst e0 e1
  obtain ⟨hd0, hd1⟩ := bounds_i64 hd
  obtain ⟨hn0, hn1⟩ := bounds_i64 hm
  rcases open_ints hq hu cu t2 with ⟨hcs, _⟩ | ⟨a, len', cap', zs, hcs, _, hl, hmx, hz, _, hcell, hwz⟩
  · simp only [List.cons.injEq, and_true] at hcs
    subst hcs
    exact ⟨⟨d, m, none, 0, 0, []⟩, rfl, rfl, rfl, hd0, hd1, hn0, hn1, rfl, Nat.le_refl _, (by show 0 ≤ 9223372036854775807; omega), Rd.nil _ _ _⟩
  · simp only [List.cons.injEq, and_true] at hcs
    subst hcs
    simp only [if_true] at hz
    refine ⟨⟨d, m, some a, len', cap', (zs.take len').map fun n => UInt8.ofNat n.toNat⟩, rfl, rfl, rfl, hd0, hd1, hn0, hn1, by simp; omega, hl, (by simp only [maxLen] at hmx; exact (by show cap' ≤ _; omega)), fun hpos => ?_⟩
    have hlz : 0 < zs.length := by simp at hpos; omega
    refine ⟨a, rfl, ?_, fun i hi => ?_⟩
    · have := hcell 0 hlz
      have hlt := block_lt_of_cell this
      rwa [Go.Proofs.Ytjlmgniachdfgaa.add_block] at hlt
    · have hi' : i < len' ∧ i < zs.length := by simp at hi; omega
      rw [hcell i hi'.2]
      have hw := hwz zs[i] (List.getElem_mem hi'.2)
      simp only [bv, List.getElem_map, List.getElem_take, u8_of_wf hw, List.getD, List.getElem?_eq_getElem hi'.2, Option.getD_some]
theorem open_acts {H : Type} {enc : TypeId × Value → H} {P : Program} {t e q u ti : TypeId} {f0 f1 f2 : Field} (ht : P.underlying t = some (.slice e)) (he : P.underlying e = some (.struct #[f0, f1, f2])) (hone : oneCellFields P #[f0, f1, f2] = true) (hC : P.cellsOf e = 3)
    (h0t : f0.type = ti) (h1t : f1.type = ti) (h2t : f2.type = q) (hq : P.underlying q = some (.slice u)) (hu : P.underlying u = some (.int .u8)) (hi : P.underlying ti = some (.int .i64)) (cu : P.cellsOf u = 1) {W : World} {a0 : Option Addr} {len cap : Nat} {d0 : DataW H} {p : List MemPlace}
    (h0 : DataW.Trod enc P W 0 (fun _ => true) true t (.slice a0 len cap) d0 p) : ∃ as, ArgA W a0 len cap as := by
  obtain ⟨fuel, hf⟩ := h0
  rcases open_slice_fields ht he hone hC hf with ⟨hcs, _⟩ | ⟨a, len', cap', m, D, Pl, hcs, _, hl, hm, hmm, _, hall⟩
  · simp [Value.cells] at hcs
    obtain ⟨rfl, rfl, rfl⟩ := hcs
    exact ⟨[], rfl, Nat.le_refl _, by omega, fun h => absurd h (by simp), fun p hp => by cases hp⟩
  · simp [Value.cells] at hcs
    obtain ⟨rfl, rfl, rfl⟩ := hcs
    simp only [if_true] at hmm
    have hact : ∀ i, ∃ p : ActP, i < len → W.cell? (a.add (i * 3)) = some (.int .i64 p.d) ∧ W.cell? (a.add (i * 3 + 1)) = some (.int .i64 p.n) ∧ W.cell? (a.add (i * 3 + 2)) = some (.slice p.A p.m p.c) ∧ ActOk W p := by
      intro i
      by_cases hil : i < len
      · obtain ⟨ys, n, _, _, _, hfld⟩ := hall i (by omega)
        obtain ⟨v0, y0, c0, _, t0⟩ := hfld 0 f0 rfl
        obtain ⟨v1, y1, c1, _, t1⟩ := hfld 1 f1 rfl
        obtain ⟨v2, y2, c2, _, t2⟩ := hfld 2 f2 rfl
        rw [h0t] at t0
        rw [h1t] at t1
        rw [h2t] at t2
        obtain ⟨p, rfl, rfl, rfl, hok⟩ := open_act hq hu hi cu t0 t1 t2
        exact ⟨p, fun _ => ⟨c0, c1, c2, hok⟩⟩
      · exact ⟨⟨0, 0, none, 0, 0, []⟩, fun h => absurd h hil⟩
    obtain ⟨f, hf'⟩ := Classical.skolem.1 hact
    refine ⟨(List.range len).map f, by simp, hl, by simp only [maxLen] at hm; omega, fun hpos => ⟨a, rfl, ?_, fun i hi => ?_⟩, fun p hp => ?_⟩
    · have h0 : 0 < len := by simpa using hpos
      have := block_lt_of_cell (hf' 0 h0).1
      rwa [Go.Proofs.Ytjlmgniachdfgaa.add_block] at this
    · have hi' : i < len := by simpa using hi
      have := hf' i hi'
      simp only [List.getElem_map, List.getElem_range]
      exact ⟨this.1, this.2.1, this.2.2.1⟩
    · simp only [List.mem_map, List.mem_range] at hp
      obtain ⟨r, hr, rfl⟩ := hp
      exact (hf' r hr).2.2.2
end Go.Proofs.Ytjlmgniachdfgaa
