/- Rows of bytes that came in, opened in this seat's words. -/
import Derived.Test.YtcbihjcnnfohmaaArgs
import Derived.Test.YtcbihjcnnfohmaaFrame
import Derived.Deep.Matrix
namespace Go.Proofs.Ytcbihjcnnfohmaa
open Go Go.ChangeShapes Go.WideShapes Go.ChangeAt Go.RowKit
set_option linter.unusedVariables false

/-- what the walk is told of rows of bytes that came in -/
structure ArgR (w : World) (a : Option Addr) (len cap : Nat) (ps : List Part) : Prop where
  hlen : ps.length = len
  fit : len ≤ cap
  room : cap ≤ 9223372036854775807
  rows : PartsS w (fun k => k < w.heap.size) a ps

theorem open_rows {H : Type} {enc : TypeId × Value → H} {P : Program} {t e q : TypeId} (ht : P.underlying t = some (.slice e)) (he : P.underlying e = some (.slice q)) (hq : P.underlying q = some (.int .u8)) (ce : P.cellsOf e = 1) (cq : P.cellsOf q = 1) {W : World} {a0 : Option Addr} {len cap : Nat} {d0 : DataW H} {p : List MemPlace}
    (h0 : DataW.Trod enc P W 0 (fun _ => true) true t (.slice a0 len cap) d0 p) : ∃ ps, ArgR W a0 len cap ps := by
  obtain ⟨fuel, hf⟩ := h0
  rcases Go.Deep.open_int_rows ht he hq ce cq hf with ⟨hcs, _⟩ | ⟨a, len', cap', A, L, C, Z, hcs, _, hl, hm, _, hr⟩
  · simp [Value.cells] at hcs
    obtain ⟨rfl, rfl, rfl⟩ := hcs
    exact ⟨[], rfl, Nat.le_refl _, by omega, ⟨fun h => absurd h (by simp), fun p hp => by cases hp⟩⟩
  · simp [Value.cells] at hcs
    obtain ⟨rfl, rfl, rfl⟩ := hcs
    refine ⟨(List.range len).map fun r => ⟨A r, L r, C r, ((Z r).take (L r)).map fun n => UInt8.ofNat n.toNat⟩, by simp, hl, by simp only [maxLen] at hm; omega, ⟨fun h => ?_, fun p hp => ?_⟩⟩
    · have h0 : 0 < len := by simpa using h
      refine ⟨a, rfl, ?_, fun j hj => ?_⟩
      · have := block_lt_of_cell (hr 0 (by omega)).1
        rwa [add_block] at this
      · have hj' : j < len := by simpa using hj
        rw [(hr j (by omega)).1]
        simp [Part.val]
    · simp only [List.mem_map, List.mem_range] at hp
      obtain ⟨r, hrl, rfl⟩ := hp
      obtain ⟨_, h2, h3, h4, h5, h6, h7⟩ := hr r (by omega)
      refine ⟨by simp; omega, h2, by simp only [maxLen] at h3; exact (by show C r ≤ _; omega), fun hpos => ?_⟩
      have hL : 0 < L r := by simp at hpos; omega
      rcases hA : A r with _ | ad
      · have := h6 hA; omega
      · obtain ⟨_, hc⟩ := h7 ad hA
        refine ⟨ad, rfl, ?_, fun j hj => ?_⟩
        · have := block_lt_of_cell (hc 0 (by omega))
          rwa [add_block] at this
        · have hj' : j < L r := by simp at hj; omega
          have hz : j < (Z r).length := by omega
          rw [hc j (by omega)]
          have hw := h5 (Z r)[j] (List.getElem_mem hz)
          simp only [bv, List.getElem_map, List.getElem_take, u8_of_wf hw, List.getD, List.getElem?_eq_getElem hz, Option.getD_some]
end Go.Proofs.Ytcbihjcnnfohmaa
