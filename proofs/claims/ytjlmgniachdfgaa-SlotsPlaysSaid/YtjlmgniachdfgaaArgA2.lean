/- Acts that came in, with the reach that the row grants to their bytes. -/
import Derived.Test.YtjlmgniachdfgaaArgA
namespace Go.Proofs.Ytjlmgniachdfgaa
open Go Go.ChangeShapes Go.WideShapes Go.ChangeAt Go.RowKit Go.Deep
set_option linter.unusedVariables false
theorem weightsAll_mem {H : Type} {P : Program} {e : TypeId} : ∀ {ds : List (DataW H)} {d : DataW H}, d ∈ ds → ∀ n ∈ d.weights P e, n ∈ DataW.weightsAll P e ds
  | d0 :: ds, d, hd, n, hn => by
    simp only [DataW.weightsAll, List.mem_append]
    rcases List.mem_cons.1 hd with rfl | hd
    · exact .inl hn
    · exact .inr (weightsAll_mem hd n hn)
theorem open_act2 {H : Type} {enc : TypeId × Value → H} {P : Program} {q u ti : TypeId} (hq : P.underlying q = some (.slice u)) (hu : P.underlying u = some (.int .u8)) (hi : P.underlying ti = some (.int .i64)) (cu : P.cellsOf u = 1) (bu : P.bytesOf u = 1) {W : World} {n : Nat} {v0 v1 v2 : Value} {y0 y1 y2 : DataW H × List MemPlace}
    (t0 : DataW.trod enc P W 0 (fun _ => true) true n ti [v0] = some y0) (t1 : DataW.trod enc P W 0 (fun _ => true) true n ti [v1] = some y1) (t2 : DataW.trod enc P W 0 (fun _ => true) true n q [v2] = some y2) (hw : ∀ k ∈ y2.1.weights P q, k ≤ reachBytes) :
    ∃ p : ActP, v0 = .int .i64 p.d ∧ v1 = .int .i64 p.n ∧ v2 = .slice p.A p.m p.c ∧ ActOk W p ∧ p.m ≤ 140737488351232 := by
  obtain ⟨p, h0, h1, h2, h3⟩ := open_act hq hu hi cu t0 t1 t2
  refine ⟨p, h0, h1, h2, h3, ?_⟩
  rcases open_ints hq hu cu t2 with ⟨hcs, _⟩ | ⟨a, len', cap', zs, hcs, _, hl, hmx, hz, hx, _, _⟩
  · rw [h2] at hcs
    simp only [List.cons.injEq, and_true, Value.slice.injEq] at hcs
    omega
  · rw [h2] at hcs
    simp only [List.cons.injEq, and_true, Value.slice.injEq] at hcs
    obtain ⟨_, e2, _⟩ := hcs
    simp only [if_true] at hz
    rw [hx] at hw
    have := hw (((lits IntKind.u8 (zs.take len') : List (DataW H)).length + (lits IntKind.u8 (zs.drop len') : List (DataW H)).length) * P.bytesOf u) (by simp [DataW.weights, hq])
    rw [bu] at this
    simp only [lits, List.length_map, List.length_take, List.length_drop, reachBytes, Nat.mul_one] at this
    omega
/-- acts, their bytes within the reach -/
structure ArgA2 (w : World) (a : Option Addr) (len cap : Nat) (as : List ActP) : Prop where
  arg : ArgA w a len cap as
  small : ∀ p ∈ as, p.m ≤ 140737488351232
theorem open_acts2 {H : Type} {enc : TypeId × Value → H} {P : Program} {t e q u ti : TypeId} {f0 f1 f2 : Field} (ht : P.underlying t = some (.slice e)) (he : P.underlying e = some (.struct #[f0, f1, f2])) (hone : oneCellFields P #[f0, f1, f2] = true) (hC : P.cellsOf e = 3)
    (h0t : f0.type = ti) (h1t : f1.type = ti) (h2t : f2.type = q) (hq : P.underlying q = some (.slice u)) (hu : P.underlying u = some (.int .u8)) (hi : P.underlying ti = some (.int .i64)) (cu : P.cellsOf u = 1) (bu : P.bytesOf u = 1) {W : World} {a0 : Option Addr} {len cap : Nat} {d0 : DataW H} {p : List MemPlace}
    (h0 : DataW.Trod enc P W 0 (fun _ => true) true t (.slice a0 len cap) d0 p) {ts : List TypeId} {ds : List (DataW H)} {j : Nat} (hsz : (DataW.weightsEach P ts ds).all (· ≤ reachBytes) = true) (hjt : ts[j]? = some t) (hjd : ds[j]? = some d0) : ∃ as, ArgA2 W a0 len cap as := by
  obtain ⟨fuel, hf⟩ := h0
  rcases open_slice_fields ht he hone hC hf with ⟨hcs, _⟩ | ⟨a, len', cap', m, D, Pl, hcs, _, hl, hm, hmm, hx, hall⟩
  · simp [Value.cells] at hcs
    obtain ⟨rfl, rfl, rfl⟩ := hcs
    exact ⟨[], ⟨rfl, Nat.le_refl _, by omega, fun h => absurd h (by simp), fun p hp => by cases hp⟩, fun p hp => by cases hp⟩
  · simp [Value.cells] at hcs
    obtain ⟨rfl, rfl, rfl⟩ := hcs
    simp only [if_true] at hmm
    simp only [Prod.mk.injEq] at hx
    obtain ⟨hdx, _⟩ := hx
    have hreach : ∀ i, i < len → ∀ k ∈ (D i).weights P e, k ≤ reachBytes := fun i hil k hk => by
      have h1 : k ∈ d0.weights P t := by
        rw [hdx]
        simp only [DataW.weights, ht, List.mem_cons, List.mem_append]
        exact .inr (.inl (weightsAll_mem (List.mem_map.2 ⟨i, List.mem_range.2 hil, rfl⟩) k hk))
      simpa using List.all_eq_true.1 hsz _ (DataW.weights_mem_each hjt hjd k h1)
    have hact : ∀ i, ∃ p : ActP, i < len → W.cell? (a.add (i * 3)) = some (.int .i64 p.d) ∧ W.cell? (a.add (i * 3 + 1)) = some (.int .i64 p.n) ∧ W.cell? (a.add (i * 3 + 2)) = some (.slice p.A p.m p.c) ∧ ActOk W p ∧ p.m ≤ 140737488351232 := by
      intro i
      by_cases hil : i < len
      · obtain ⟨ys, n, hD, _, _, hfld⟩ := hall i (by omega)
        obtain ⟨v0, y0, c0, _, t0⟩ := hfld 0 f0 rfl
        obtain ⟨v1, y1, c1, _, t1⟩ := hfld 1 f1 rfl
        obtain ⟨v2, y2, c2, hy2, t2⟩ := hfld 2 f2 rfl
        rw [h0t] at t0
        rw [h1t] at t1
        rw [h2t] at t2
        have hw : ∀ k ∈ y2.1.weights P q, k ≤ reachBytes := fun k hk => hreach i hil k (by
          rw [hD]
          simp only [DataW.weights, he]
          exact DataW.weights_mem_each (j := 2) (t := q) (d := y2.1) (by simp [h2t]) (by rw [List.getElem?_map, hy2]; rfl) k hk)
        obtain ⟨p, rfl, rfl, rfl, hok, hsm⟩ := open_act2 hq hu hi cu bu t0 t1 t2 hw
        exact ⟨p, fun _ => ⟨c0, c1, c2, hok, hsm⟩⟩
      · exact ⟨⟨0, 0, none, 0, 0, []⟩, fun h => absurd h hil⟩
    obtain ⟨f, hf'⟩ := Classical.skolem.1 hact
    refine ⟨(List.range len).map f, ⟨by simp, hl, by simp only [maxLen] at hm; omega, fun hpos => ⟨a, rfl, ?_, fun i hi => ?_⟩, fun p hp => ?_⟩, fun p hp => ?_⟩
    · have h0 : 0 < len := by simpa using hpos
      have := block_lt_of_cell (hf' 0 h0).1
      rwa [Go.Proofs.Ytjlmgniachdfgaa.add_block] at this
    · have hi' : i < len := by simpa using hi
      have := hf' i hi'
      simp only [List.getElem_map, List.getElem_range]
      exact ⟨this.1, this.2.1, this.2.2.1⟩
    · simp only [List.mem_map, List.mem_range] at hp
      obtain ⟨r, hr, rfl⟩ := hp
      exact (hf' r hr).2.2.2.1
    · simp only [List.mem_map, List.mem_range] at hp
      obtain ⟨r, hr, rfl⟩ := hp
      exact (hf' r hr).2.2.2.2
end Go.Proofs.Ytjlmgniachdfgaa
