/- The arguments of a statement, opened in this seat's words: bytes, with the reach that every row grants. -/
import Derived.Test.YtcbihjcnnfohmaaMem
import Derived.SizedLaws
namespace Go.Proofs.Ytcbihjcnnfohmaa
open Go Go.ChangeShapes Go.WideShapes Go.ChangeAt Go.RowKit
set_option linter.unusedVariables false

/-- what the walk is told of bytes that came in -/
structure ArgB (w : World) (a : Option Addr) (len cap : Nat) (l : List UInt8) : Prop where
  hlen : l.length = len
  fit : len ≤ cap
  room : cap ≤ 140737488351232
  rd : Rd w w.heap.size a l

theorem u8_of_wf {x : Int} (h : (Lit.int .u8 x).wf = true) : ((UInt8.ofNat x.toNat).toNat : Int) = x := by
  obtain ⟨h0, h1⟩ := bounds_u8 h
  rw [UInt8.toNat_ofNat']
  omega

theorem open_bytes {H : Type} {enc : TypeId × Value → H} {P : Program} {t e : TypeId} (hP : U8 P t e) (hc : P.cellsOf e = 1) (hb : P.bytesOf e = 1) {W : World} {a0 : Option Addr} {len cap : Nat} {d0 : DataW H} {p : List MemPlace}
    (h0 : DataW.Trod enc P W 0 (fun _ => true) true t (.slice a0 len cap) d0 p) {ts : List TypeId} {ds : List (DataW H)} {j : Nat} (hsz : (DataW.weightsEach P ts ds).all (· ≤ reachBytes) = true) (ht : ts[j]? = some t) (hd : ds[j]? = some d0) :
    ∃ l, ArgB W a0 len cap l := by
  obtain ⟨fuel, hf⟩ := h0
  rcases open_ints hP.slice hP.elem hc hf with ⟨hcs, hx⟩ | ⟨a, len', cap', zs, hcs, _, hl, hm, hz, hx, hcell, hwz⟩
  · simp [Value.cells] at hcs
    obtain ⟨rfl, rfl, rfl⟩ := hcs
    exact ⟨[], rfl, Nat.le_refl _, by omega, Rd.nil _ _ _⟩
  · simp [Value.cells] at hcs
    obtain ⟨rfl, rfl, rfl⟩ := hcs
    simp only [Prod.mk.injEq] at hx
    obtain ⟨hdx, _⟩ := hx
    simp only [if_true] at hz
    rw [hdx] at hd
    have hs := sized_slice hsz ht hd hP.slice
    rw [hb] at hs
    simp only [lits, List.length_map, List.length_take, List.length_drop, reachBytes, Nat.mul_one] at hs
    have hcap : cap ≤ 140737488351232 := by omega
    refine ⟨(zs.take len).map fun n => UInt8.ofNat n.toNat, by simp; omega, hl, hcap, fun hpos => ?_⟩
    have hlz : 0 < zs.length := by simp at hpos; omega
    refine ⟨a, rfl, ?_, fun i hi => ?_⟩
    · have := hcell 0 hlz
      have hlt := block_lt_of_cell this
      rwa [add_block] at hlt
    · have hi' : i < len ∧ i < zs.length := by simp at hi; omega
      rw [hcell i hi'.2]
      have hw := hwz zs[i] (List.getElem_mem hi'.2)
      simp only [bv, List.getElem_map, List.getElem_take, u8_of_wf hw, List.getD, List.getElem?_eq_getElem hi'.2, Option.getD_some]
end Go.Proofs.Ytcbihjcnnfohmaa
