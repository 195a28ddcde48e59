/- Owned of the statements' own package: it writes over each row, spare room too, and finds what it wrote. -/
import Derived.Test.YtjlmgniachdfgaaLent
import Derived.Deep.QuietTactic
import Derived.BigQuiet
namespace Go.Proofs.Ytjlmgniachdfgaa
open Go Go.ChangeShapes Go.WideShapes Go.ChangeAt Go.RowKit
set_option linter.unusedVariables false

/-- a row of bytes that its holder owns: nil, or the head of a block -/
structure ORow where
  a : Option Nat
  n : Nat
  c : Nat
def ORow.val (r : ORow) : Value := .slice (r.a.map (fun g => (⟨g, 0, none⟩ : Addr))) r.n r.c
def mark (j : Nat) : Value := .int .u8 (((j : Int) + 1) % 256)
structure Inv (w : World) (rs : List ORow) (f : Nat → Nat → Prop) (wr : World) : Prop where
  os : wr.os = w.os
  tape : wr.tape = w.tape
  output : wr.output = w.output
  size : wr.heap.size = w.heap.size
  far : ∀ k, (∀ r ∈ rs, r.a ≠ some k) → wr.heap[k]? = w.heap[k]?
  rows : ∀ j (hj : j < rs.length) g, rs[j].a = some g → ∃ cur : Array Value, wr.heap[g]? = some (.cells cur 5 (0, 0)) ∧ cur.size = rs[j].c ∧ ∀ t, t < rs[j].c → f j t → cur[t]? = some (mark j)
/-- what is asked of the rows -/
structure Owns (w : World) (A : Option Addr) (rs : List ORow) : Prop where
  at_ : 0 < rs.length → ∃ ad, A = some ad ∧ (∀ j (hj : j < rs.length), w.cell? (ad.add j) = some rs[j].val) ∧ ∀ r ∈ rs, r.a ≠ some ad.block
  fit : ∀ r ∈ rs, r.n ≤ r.c ∧ r.c ≤ 9223372036854775807 ∧ (r.a = none → r.n = 0 ∧ r.c = 0)
  apart : ∀ i j (hi : i < rs.length) (hj : j < rs.length) g, i ≠ j → rs[i].a = some g → rs[j].a ≠ some g
  own : ∀ r ∈ rs, ∀ g, r.a = some g → ∃ cur : Array Value, w.heap[g]? = some (.cells cur 5 (0, 0)) ∧ cur.size = r.c
section
variable {w wr : World} {rs : List ORow} {f f' : Nat → Nat → Prop} {A : Option Addr}
theorem Inv.mono (h : Inv w rs f wr) (hf : ∀ j t, (hj : j < rs.length) → t < rs[j].c → f' j t → f j t) : Inv w rs f' wr :=
  ⟨h.os, h.tape, h.output, h.size, h.far, fun j hj g hg => by
    obtain ⟨cur, h1, h2, h3⟩ := h.rows j hj g hg
    exact ⟨cur, h1, h2, fun t ht hf' => h3 t ht (hf j t hj ht hf')⟩⟩
theorem Inv.drewN (h : Inv w rs f wr) (n : Nat) : Inv w rs f (wr.drewN n) := ⟨h.os, h.tape, h.output, h.size, h.far, h.rows⟩
theorem Inv.drew (h : Inv w rs f wr) : Inv w rs f wr.drew := ⟨h.os, h.tape, h.output, h.size, h.far, h.rows⟩
theorem Inv.start (h : Owns w A rs) : Inv w rs (fun _ _ => False) w :=
  ⟨rfl, rfl, rfl, rfl, fun _ _ => rfl, fun j hj g hg => by
    obtain ⟨cur, h1, h2⟩ := h.own _ (List.getElem_mem hj) g hg
    exact ⟨cur, h1, h2, fun _ _ hF => hF.elim⟩⟩
theorem Inv.cell (h : Inv w rs f wr) (ho : Owns w A rs) {j : Nat} (hj : j < rs.length) : ∃ ad, A = some ad ∧ wr.cell? (ad.add j) = some rs[j].val := by
  obtain ⟨ad, hA, hc, hn⟩ := ho.at_ (by omega)
  refine ⟨ad, hA, ?_⟩
  rw [← hc j hj]
  refine World.cell?_of_block ?_
  rw [add_block]
  exact h.far _ hn
theorem Inv.room (h : Inv w rs f wr) {i g k : Nat} (hi : i < rs.length) (hg : rs[i].a = some g) (hk : k < rs[i].c) : (∃ u, wr.cell? ⟨g, k, none⟩ = some u) ∧ wr.frozen? ⟨g, k, none⟩ = false := by
  obtain ⟨cur, h1, h2, _⟩ := h.rows i hi g hg
  refine ⟨⟨cur[k], ?_⟩, frozen_of_row wr g k cur _ h1⟩
  rw [cell_of_row wr g k cur _ _ h1]
  exact Array.getElem?_eq_getElem (by omega)
theorem Inv.read (h : Inv w rs f wr) {i g k : Nat} (hi : i < rs.length) (hg : rs[i].a = some g) (hk : k < rs[i].c) (hf : f i k) : wr.cell? ⟨g, k, none⟩ = some (mark i) := by
  obtain ⟨cur, h1, _, h3⟩ := h.rows i hi g hg
  rw [cell_of_row wr g k cur _ _ h1]
  exact h3 k hk hf
theorem Inv.store (h : Inv w rs f wr) (ho : Owns w A rs) {i g k : Nat} (hi : i < rs.length) (hg : rs[i].a = some g) : Inv w rs (fun j t => f j t ∨ (j = i ∧ t = k)) (wr.setCell ⟨g, k, none⟩ (mark i)) := by
  obtain ⟨cur, h1, h2, h3⟩ := h.rows i hi g hg
  refine ⟨h.os, h.tape, h.output, by rw [← h.size]; simp [World.setCell], fun b hb => ?_, fun j hj g' hg' => ?_⟩
  · rw [heap_setCell_other wr ⟨g, k, none⟩ b _ (by rintro rfl; exact hb _ (List.getElem_mem hi) hg)]
    exact h.far b hb
  · by_cases hij : j = i
    · subst hij
      rw [hg] at hg'
      injection hg' with hg'
      subst hg'
      refine ⟨cur.setIfInBounds k (mark j), heap_setCell_same wr g k cur _ _ h1, by simpa using h2, fun t ht hf => ?_⟩
      by_cases htk : k = t
      · subst htk
        rw [Array.getElem?_setIfInBounds_self, if_pos (by omega)]
      · rw [Array.getElem?_setIfInBounds_ne htk]
        exact h3 t ht (hf.resolve_right (by rintro ⟨_, rfl⟩; exact htk rfl))
    · have hne : g' ≠ g := by
        rintro rfl
        exact ho.apart j i hj hi g' hij hg' hg
      obtain ⟨cur', h1', h2', h3'⟩ := h.rows j hj g' hg'
      refine ⟨cur', by rw [heap_setCell_other wr ⟨g, k, none⟩ g' _ hne]; exact h1', h2', fun t ht hf => h3' t ht (hf.resolve_right (by rintro ⟨rfl, _⟩; exact hij rfl))⟩
end

set_option maxRecDepth 100000 in
set_option maxHeartbeats 800000 in
theorem owned_any (A : Option Addr) (n c : Nat) (rs : List ORow) (w : World) (hn : rs.length = n) (hm : n ≤ 9223372036854775000) (ho : Owns w A rs) :
    Calls Try.prog 16 #[.slice A n c] w fun e w' => e = .returned (.bool true) ∧ Inv w rs (fun _ _ => True) w' := by
  subst hn
  have hst := Inv.start ho
  have HO := Lib.hid ho
  clear ho
  go_enter Try.func16, Try.ntmps16
  go_wp2
  go_loopw [3, 4, 5] (fun i _ _ wr => ∃ k : Nat, k ≤ rs.length ∧ i = .int .i64 k ∧ Inv w rs (fun j _ => j < k) wr) (fun i _ _ _ => rs.length - (intOf i).toNat)
  case atStart => exact ⟨0, by omega, rfl, hst.mono (fun j t _ _ h => by omega)⟩
  case round =>
    obtain ⟨k, hk, rfl, hI⟩ := hrel
    by_cases hlt : k < rs.length
    · obtain ⟨ad, rfl, hcell⟩ := hI.cell HO.out hlt
      obtain ⟨hf1, hf2, hf3⟩ := HO.out.fit _ (List.getElem_mem hlt)
      unfold ORow.val at hcell
      have h0 : (0 : Int) ≤ (k : Int) := by omega
      have h1 : (k : Int) < (rs.length : Int) := by omega
      have HI := Lib.hid hI
      rcases ha : rs[k].a with _ | g
      · obtain ⟨hz1, hz2⟩ := hf3 ha
        rw [ha, hz1, hz2] at hcell
        have HA := Lib.hid ha
        have HZ := Lib.hid hz2
        clear hf1 hf2 hf3 hz1 hz2 ha hst hI
        simp only [Option.map_none] at hcell
        go_wp2
        go_quiet (fail)
        go_wp2
        refine wp_loop_rounds 1 ?_
        rw [rounds_succ]
        go_wp2
        go_roundw
        case rel =>
          refine ⟨k + 1, by omega, by go_num, (HI.out.drewN nq).mono (fun j t hj ht h => ?_)⟩
          by_cases hjk : j = k
          · subst hjk
            have := HZ.out
            omega
          · omega
        case measure => simp [intOf]; omega
      · rw [ha] at hcell
        have HA := Lib.hid ha
        simp only [Option.map_some] at hcell
        generalize hC : rs[k].c = C at hcell hf1 hf2 hf3
        generalize rs[k].n = N at hcell hf1 hf3
        have HC := Lib.hid hC
        clear ha hst hI hf3 hC
        go_wp2
        go_quiet (fail)
        go_wp2
        have hIq := HI.out.drewN nq
        generalize wr.drewN nq = wq at hIq ⊢
        clear hcell
        go_loopw [5] (fun i wr' => ∃ m : Nat, m ≤ C ∧ i = .int .i64 m ∧ Inv w rs (fun j t => j < k ∨ (j = k ∧ t < m)) wr') (fun i _ => C - (intOf i).toNat)
        case atStart => exact ⟨0, by omega, rfl, hIq.mono (fun j t _ _ h => by omega)⟩
        case round =>
          obtain ⟨m, hmC, rfl, hI2⟩ := hrel
          by_cases hlm : m < C
          · obtain ⟨⟨u, hu⟩, hfz⟩ := hI2.room hlt HA.out (k := m) (by rw [HC.out]; exact hlm)
            have hs := hI2.store HO.out hlt HA.out (k := m)
            unfold mark at hs
            have HS := Lib.hid hs
            clear hs hI2 hIq
            go_wp2
            go_roundw
            case rel => exact ⟨m + 1, by omega, by go_num, HS.out.mono (fun j t _ _ h => by omega)⟩
            case measure => simp [intOf]; omega
          · have hI3 := Lib.hid hI2
            clear hI2 hIq
            go_wp2
            go_roundw
            case rel =>
              refine ⟨k + 1, by omega, by go_num, hI3.out.mono (fun j t hj ht h => ?_)⟩
              by_cases hjk : j = k
              · subst hjk
                have := HC.out
                exact .inr ⟨rfl, by omega⟩
              · exact .inl (by omega)
            case measure => simp [intOf]; omega
    · have hall := hI.mono (f' := fun _ _ => True) (fun j t hj _ _ => by omega)
      clear hst hI
      go_wp2
      go_loopw [6, 7, 8] (fun i _ _ wr => ∃ k : Nat, k ≤ rs.length ∧ i = .int .i64 k ∧ Inv w rs (fun _ _ => True) wr) (fun i _ _ _ => rs.length - (intOf i).toNat)
      case atStart => exact ⟨0, by omega, rfl, hall⟩
      case round =>
        obtain ⟨k, hk, rfl, hI⟩ := hrel
        by_cases hlt : k < rs.length
        · obtain ⟨ad, rfl, hcell⟩ := hI.cell HO.out hlt
          obtain ⟨hf1, hf2, hf3⟩ := HO.out.fit _ (List.getElem_mem hlt)
          unfold ORow.val at hcell
          have h0 : (0 : Int) ≤ (k : Int) := by omega
          have h1 : (k : Int) < (rs.length : Int) := by omega
          have HI := Lib.hid hI
          rcases ha : rs[k].a with _ | g
          · obtain ⟨hz1, hz2⟩ := hf3 ha
            rw [ha, hz1, hz2] at hcell
            clear hf1 hf2 hf3 hz1 hz2 ha hI hall
            simp only [Option.map_none] at hcell
            go_wp2
            go_quiet (fail)
            go_wp2
            refine wp_loop_rounds 1 ?_
            rw [rounds_succ]
            go_wp2
            go_roundw
            case rel => exact ⟨k + 1, by omega, by go_num, HI.out.drewN nq⟩
            case measure => simp [intOf]; omega
          · rw [ha] at hcell
            have HA := Lib.hid ha
            simp only [Option.map_some] at hcell
            generalize hC : rs[k].c = C at hcell hf1 hf2 hf3
            generalize rs[k].n = N at hcell hf1 hf3
            have HC := Lib.hid hC
            clear ha hI hf3 hC hall
            go_wp2
            go_quiet (fail)
            go_wp2
            have hIq := HI.out.drewN nq
            generalize wr.drewN nq = wq at hIq ⊢
            have HIQ := Lib.hid hIq
            clear hcell hIq
            go_loop [8] (fun i => ∃ m : Nat, m ≤ C ∧ i = .int .i64 m) (fun i => C - (intOf i).toNat)
            case atStart => exact ⟨0, by omega, rfl⟩
            case round =>
              obtain ⟨m, hmC, rfl⟩ := hrel
              by_cases hlm : m < C
              · have hcm := HIQ.out.read hlt HA.out (k := m) (by rw [HC.out]; exact hlm) trivial
                unfold mark at hcm
                go_wp2
                go_round
                case rel => exact ⟨m + 1, by omega, by go_num⟩
                case measure => simp [intOf]; omega
              · go_wp2
                go_roundw
                case rel => exact ⟨k + 1, by omega, by go_num, HIQ.out⟩
                case measure => simp [intOf]; omega
        · have HI := Lib.hid hI
          clear hI hall
          go_wp2
          go_ret
          exact ⟨rfl, HI.out⟩

/-- a row that Owned may take, its block (if any) from lo on and below hi -/
structure RowIn (w : World) (r : ORow) (lo hi : Nat) : Prop where
  fit : r.n ≤ r.c ∧ r.c ≤ 9223372036854775807 ∧ (r.a = none → r.n = 0 ∧ r.c = 0)
  own : ∀ g, r.a = some g → lo ≤ g ∧ g < hi ∧ ∃ cur : Array Value, w.heap[g]? = some (.cells cur 5 (0, 0)) ∧ cur.size = r.c
theorem RowIn.below {w w' : World} {r : ORow} {lo hi : Nat} (h : RowIn w r lo hi) (hb : Below w.heap.size w w') (hh : hi ≤ w.heap.size) : RowIn w' r lo hi :=
  ⟨h.fit, fun g hg => by
    obtain ⟨h1, h2, cur, h3, h4⟩ := h.own g hg
    exact ⟨h1, h2, cur, (hb.block g (by omega)).trans h3, h4⟩⟩
theorem orow {w : World} {base : Nat} {v : Value} {l : List UInt8} (h : Own w 5 base v l) : ∃ r : ORow, v = r.val ∧ RowIn w r base w.heap.size := by
  rcases h.2 with ⟨rfl, h0⟩ | ⟨g, cap, cur, rfl, hb, hh, hnc, hcm, hs, _⟩
  · exact ⟨⟨none, 0, 0⟩, rfl, ⟨Nat.le_refl _, (by show 0 ≤ 9223372036854775807; omega), fun _ => ⟨rfl, rfl⟩⟩, fun g hg => by cases hg⟩
  · refine ⟨⟨some g, l.length, cap⟩, rfl, ⟨hnc, by simp only [maxLen] at hcm; omega, fun hn => by cases hn⟩, fun g' hg' => ?_⟩
    injection hg' with hg'
    subst hg'
    exact ⟨hb, (Array.getElem?_eq_some_iff.1 hh).1, cur, hh, by simpa using hs⟩
theorem orow_row {w : World} {g n m : Nat} {l : List UInt8} (h : Row w 5 g l) (hn : n ≤ m) (hm : l.length = m) (hx : m ≤ 9223372036854775807) : RowIn w ⟨some g, n, m⟩ g (g + 1) :=
  ⟨⟨hn, hx, fun h => by cases h⟩, fun g' hg' => by
    injection hg' with hg'
    subst hg'
    exact ⟨Nat.le_refl _, Nat.lt_succ_self _, _, h, by simp [bvs, hm]⟩⟩
/-- rows in blocks apart, written out in a new block -/
theorem owns_new {w : World} (T : TypeId) (rs : List (ORow × Nat × Nat)) (h : ∀ x ∈ rs, RowIn w x.1 x.2.1 x.2.2 ∧ x.2.2 ≤ w.heap.size)
    (hp : rs.Pairwise fun x y => x.2.2 ≤ y.2.1 ∨ y.2.2 ≤ x.2.1) :
    Owns (w.alloc (.cells (rs.map fun x => x.1.val).toArray T)) (some ⟨w.heap.size, 0, none⟩) (rs.map (·.1)) := by
  have hmem : ∀ r ∈ rs.map (·.1), ∃ lo hi, RowIn w r lo hi ∧ hi ≤ w.heap.size := by
    intro r hr
    simp only [List.mem_map] at hr
    obtain ⟨x, hx, rfl⟩ := hr
    exact ⟨_, _, h x hx⟩
  refine ⟨fun _ => ⟨_, rfl, fun j hj => ?_, fun r hr hg => ?_⟩, fun r hr => ?_, fun i j hi hj g hij h1 h2 => ?_, fun r hr g hg => ?_⟩
  · rw [add_zero_block, cell_of_row _ _ j _ T (0, 0) (heap_alloc_new w _)]
    have hj' : j < rs.length := by simpa using hj
    simp [hj']
  · obtain ⟨lo, hi, hR, hh⟩ := hmem r hr
    have := (hR.own _ hg).2.1
    have e : (⟨w.heap.size, 0, none⟩ : Addr).block = w.heap.size := rfl
    rw [e] at this
    omega
  · obtain ⟨lo, hi, hR, _⟩ := hmem r hr
    exact hR.fit
  · have hi' : i < rs.length := by simpa using hi
    have hj' : j < rs.length := by simpa using hj
    have a1 := (h rs[i] (List.getElem_mem hi')).1.own g (by simpa using h1)
    have a2 := (h rs[j] (List.getElem_mem hj')).1.own g (by simpa using h2)
    rcases Nat.lt_or_gt_of_ne hij with hlt | hlt
    · have := (List.pairwise_iff_getElem.1 hp) i j hi' hj' hlt
      omega
    · have := (List.pairwise_iff_getElem.1 hp) j i hj' hi' hlt
      omega
  · obtain ⟨lo, hi, hR, hh⟩ := hmem r hr
    obtain ⟨_, h2, cur, h3, h4⟩ := hR.own g hg
    exact ⟨cur, (heap_alloc_old w _ (by omega)).trans h3, h4⟩
/-- what is behind Owned, for a world in which all rows lie from B on -/
theorem Inv.below_ {w wr : World} {rs : List ORow} {f : Nat → Nat → Prop} (h : Inv w rs f wr) {B : Nat} (hB : ∀ r ∈ rs, ∀ g, r.a = some g → B ≤ g) : Below B w wr :=
  ⟨h.os, h.tape, h.output, by rw [h.size]; exact Nat.le_refl _, fun k hk => h.far k (fun r hr hg => by have := hB r hr k hg; omega)⟩
end Go.Proofs.Ytjlmgniachdfgaa
