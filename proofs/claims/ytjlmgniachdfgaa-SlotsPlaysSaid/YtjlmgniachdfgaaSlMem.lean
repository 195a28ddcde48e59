/- Queues of bytes behind a pointer, in memory: each block has one meaning. Contracts' words. -/
import Derived.Test.YtjlmgniachdfgaaFrame
import Derived.Test.YtjlmgniachdfgaaKeep
import Derived.Test.YtjlmgniachdfgaaLent
namespace Go.Proofs.Ytjlmgniachdfgaa.Slots
open Go Go.ChangeShapes Go.WideShapes Go.ChangeAt Go.RowKit
set_option linter.unusedVariables false

/-- a block known whole -/
def RowV (w : World) (T : TypeId) (g : Nat) (xs : List Value) : Prop := w.heap[g]? = some (.cells xs.toArray T (0, 0))
section
variable {w w' : World} {T : TypeId} {g : Nat} {xs : List Value}
theorem RowV.lt (h : RowV w T g xs) : g < w.heap.size := (Array.getElem?_eq_some_iff.1 h).1
theorem RowV.cell (h : RowV w T g xs) {i : Nat} {v : Value} (hi : xs[i]? = some v) : w.cell? ⟨g, i, none⟩ = some v := by rw [cell_of_row w g i _ T (0, 0) h]; simpa using hi
theorem RowV.frozen (h : RowV w T g xs) (i : Nat) : w.frozen? ⟨g, i, none⟩ = false := frozen_of_row w g i _ T h
theorem RowV.keep (h : RowV w T g xs) (hk : w'.heap[g]? = w.heap[g]?) : RowV w' T g xs := hk.trans h
theorem RowV.far (h : RowV w T g xs) {p : Addr} (hp : g ≠ p.block) (u : Value) : RowV (w.setCell p u) T g xs := (heap_setCell_other w p g u hp).trans h
theorem RowV.set (h : RowV w T g xs) (i : Nat) (u : Value) : RowV (w.setCell ⟨g, i, none⟩ u) T g (xs.set i u) := by
  have := heap_setCell_same w g i _ T u h
  unfold RowV; rw [this]; simp
end
theorem own_keep {w w' : World} {e : TypeId} {base : Nat} {v : Value} {l : List UInt8} (h : Own w e base v l) (hk : ∀ k, v.ownBlock = some k → w'.heap[k]? = w.heap[k]?) : Own w' e base v l := by
  refine ⟨h.1, ?_⟩
  rcases h.2 with hn | ⟨g, cap, cur, rfl, hb', hgg, rest⟩
  · exact .inl hn
  · exact .inr ⟨g, cap, cur, rfl, hb', (hk g rfl).trans hgg, rest⟩
theorem eqv : El Try.prog 22 28 (.slice none 0 0) 24 := ⟨Try.underlying22, by kernel_rfl, rfl⟩

abbrev Tags := Nat → Option (Nat × Nat × Nat)
abbrev Qs := Nat → List (List UInt8)
/-- tenant t's queue becomes l -/
def upd {α : Type} (f : Nat → α) (t : Nat) (x : α) : Nat → α := fun j => if j = t then x else f j
theorem upd_same {α : Type} (f : Nat → α) (t : Nat) (x : α) : upd f t x t = x := if_pos rfl
theorem upd_other {α : Type} (f : Nat → α) {t j : Nat} (x : α) (h : j ≠ t) : upd f t x j = f j := if_neg h
theorem map_upd (f : Nat → Value) (m t : Nat) (x : Value) : ((List.range m).map f).set t x = (List.range m).map (upd f t x) := by
  apply List.ext_getElem?
  intro i
  rw [List.getElem?_set]
  by_cases h : t = i
  · subst h
    by_cases hm : t < m <;> simp [hm, upd]
  · rw [if_neg h]
    by_cases hm : i < m
    · simp [hm, upd, Ne.symm h]
    · simp [hm]
structure SlX (w : World) (base : Nat) (tag : Tags) (g gq n K : Nat) (q : Qs) (vs : Nat → Value) (iv : Nat → List Value) (c : Nat → Nat) : Prop where
  obj : RowV w 58 g [.slice (some ⟨gq, 0, none⟩) (n + 1) (n + 1), .int .i64 (K : Int)]
  rows : RowV w 22 gq ((List.range (n + 1)).map vs)
  tg : tag g = some (0, 0, 0)
  tq : tag gq = some (1, 0, 0)
  own : ∀ t, t ≤ n → OwnV w 28 base (vs t) (iv t)
  to : ∀ t k, t ≤ n → (vs t).ownBlock = some k → tag k = some (2, t, 0)
  len : ∀ t, t ≤ n → (iv t).length = (q t).length
  item : ∀ t i (l : List UInt8), t ≤ n → (q t)[i]? = some l → ∃ v, (iv t)[i]? = some v ∧ Own w 5 base v l ∧ ∀ k, v.ownBlock = some k → tag k = some (3, t, c t + i)
  lt : ∀ k, tag k ≠ none → base ≤ k ∧ k < w.heap.size
/-- QUEUES: n tenants, the next slot K, what each has -/
def Sl (w : World) (base : Nat) (tag : Tags) (g n K : Nat) (q : Qs) : Prop := ∃ gq vs iv c, SlX w base tag g gq n K q vs iv c
section
variable {w w' : World} {base g gq n K : Nat} {tag : Tags} {q : Qs} {vs : Nat → Value} {iv : Nat → List Value} {c : Nat → Nat}
theorem SlX.frame {S : Nat → Prop} (h : SlX w base tag g gq n K q vs iv c) (hf : Frame S w w') (hS : ∀ k, tag k ≠ none → S k) : SlX w' base tag g gq n K q vs iv c := by
  refine ⟨h.obj.keep (hf.block g (hS g (by rw [h.tg]; simp))), h.rows.keep (hf.block gq (hS gq (by rw [h.tq]; simp))), h.tg, h.tq, fun t ht => ?_, h.to, h.len, fun t i l ht hl => ?_, fun k hk => ⟨(h.lt k hk).1, Nat.lt_of_lt_of_le (h.lt k hk).2 hf.size⟩⟩
  · exact hf.own (h.own t ht) (fun k hk => hS k (by rw [h.to t k ht hk]; simp))
  · obtain ⟨v, h1, h2, h3⟩ := h.item t i l ht hl
    exact ⟨v, h1, own_keep h2 (fun k hk => hf.block k (hS k (by rw [h3 k hk]; simp))), h3⟩
theorem Sl.frame {S : Nat → Prop} (h : Sl w base tag g n K q) (hf : Frame S w w') (hS : ∀ k, tag k ≠ none → S k) : Sl w' base tag g n K q := by
  obtain ⟨gq, vs, iv, c, hx⟩ := h
  exact ⟨gq, vs, iv, c, hx.frame hf hS⟩
theorem Sl.lt (h : Sl w base tag g n K q) : ∀ k, tag k ≠ none → base ≤ k ∧ k < w.heap.size := by
  obtain ⟨gq, vs, iv, c, hx⟩ := h
  exact hx.lt
theorem Sl.below_ (h : Sl w base tag g n K q) (hb : Below w.heap.size w w') : Sl w' base tag g n K q := h.frame (Frame.of_below hb (fun k hk => hk)) (fun k hk => (h.lt k hk).2)
theorem SlX.row (h : SlX w base tag g gq n K q vs iv c) {t : Nat} (ht : t ≤ n) : w.cell? ⟨gq, t, none⟩ = some (vs t) := by
  have h1 : t < n + 1 := by omega
  exact h.rows.cell (by simp [h1])
theorem SlX.gne (h : SlX w base tag g gq n K q vs iv c) : g ≠ gq := fun e => by have := h.tg; rw [e, h.tq] at this; simp at this
/-- the next slot -/
theorem SlX.turn (h : SlX w base tag g gq n K q vs iv c) {K' : Nat} : SlX (w.setCell ⟨g, 1, none⟩ (.int .i64 (K' : Int))) base tag g gq n K' q vs iv c := by
  have hk : ∀ k, k ≠ g → (w.setCell ⟨g, 1, none⟩ (.int .i64 (K' : Int))).heap[k]? = w.heap[k]? := fun k hk => heap_setCell_other w ⟨g, 1, none⟩ k _ hk
  refine ⟨h.obj.set 1 _, h.rows.keep (hk gq (Ne.symm h.gne)), h.tg, h.tq, fun t ht => (h.own t ht).keep (fun k e => hk k ?_), h.to, h.len, fun t i l ht hl => ?_, fun k hk => ⟨(h.lt k hk).1, by simpa using (h.lt k hk).2⟩⟩
  · rintro rfl; have := h.to t k ht e; rw [h.tg] at this; simp at this
  · obtain ⟨v, h1, h2, h3⟩ := h.item t i l ht hl
    exact ⟨v, h1, own_keep h2 (fun k e => hk k (by rintro rfl; have := h3 k e; rw [h.tg] at this; simp at this)), h3⟩
/-- a queue dropped -/
theorem SlX.drop (h : SlX w base tag g gq n K q vs iv c) {t : Nat} (ht : t ≤ n) : SlX (w.setCell ⟨gq, t, none⟩ (.slice none 0 0)) base tag g gq n K (upd q t []) (upd vs t (.slice none 0 0)) (upd iv t []) c := by
  have hk : ∀ k, k ≠ gq → (w.setCell ⟨gq, t, none⟩ (.slice none 0 0)).heap[k]? = w.heap[k]? := fun k hk => heap_setCell_other w ⟨gq, t, none⟩ k _ hk
  refine ⟨h.obj.keep (hk g h.gne), ?_, h.tg, h.tq, fun s hs => ?_, fun s k hs e => ?_, fun s hs => ?_, fun s i l hs hl => ?_, fun k hk => ⟨(h.lt k hk).1, by simpa using (h.lt k hk).2⟩⟩
  · have := h.rows.set t (.slice none 0 0)
    rw [map_upd] at this
    exact this
  · by_cases e : s = t
    · subst e; rw [upd_same, upd_same]; exact OwnV.nil _ _ _
    · rw [upd_other _ _ e, upd_other _ _ e]
      exact (h.own s hs).keep (fun k hke => hk k (by rintro rfl; have := h.to s k hs hke; rw [h.tq] at this; simp at this))
  · by_cases e' : s = t
    · subst e'; rw [upd_same] at e; cases e
    · rw [upd_other _ _ e'] at e; exact h.to s k hs e
  · by_cases e : s = t
    · subst e; rw [upd_same, upd_same]; rfl
    · rw [upd_other _ _ e, upd_other _ _ e]; exact h.len s hs
  · by_cases e : s = t
    · subst e; rw [upd_same] at hl; simp at hl
    · rw [upd_other _ _ e] at hl ⊢
      obtain ⟨v, h1, h2, h3⟩ := h.item s i l hs hl
      exact ⟨v, h1, own_keep h2 (fun k hke => hk k (by rintro rfl; have := h3 k hke; rw [h.tq] at this; simp at this)), h3⟩
/-- the first of a queue taken away: it is its taker's -/
theorem SlX.pop (h : SlX w base tag g gq n K q vs iv c) {t : Nat} (ht : t ≤ n) {l : List UInt8} {r : List (List UInt8)} (hq : q t = l :: r) {A : Option Addr} {m cap : Nat} (hv : vs t = .slice A m cap) :
    ∃ v, (iv t)[0]? = some v ∧ Own (w.setCell ⟨gq, t, none⟩ (.slice (if cap = 1 then A else A.map (·.add 1)) (m - 1) (cap - 1))) 5 base v l ∧ (∀ k, v.ownBlock = some k → tag k = some (3, t, c t)) ∧
      SlX (w.setCell ⟨gq, t, none⟩ (.slice (if cap = 1 then A else A.map (·.add 1)) (m - 1) (cap - 1))) base (fun k => if v.ownBlock = some k then none else tag k) g gq n K (upd q t r)
        (upd vs t (.slice (if cap = 1 then A else A.map (·.add 1)) (m - 1) (cap - 1))) (upd iv t ((iv t).drop 1)) (upd c t (c t + 1)) := by
  obtain ⟨v, h1, h2, h3⟩ := h.item t 0 l ht (by rw [hq]; rfl)
  rw [Nat.add_zero] at h3
  generalize hnv : Value.slice (if cap = 1 then A else A.map (·.add 1)) (m - 1) (cap - 1) = nv
  have hblk : nv.ownBlock = (vs t).ownBlock := by
    rw [← hnv, hv]
    split
    · cases A <;> rfl
    · cases A with
      | none => rfl
      | some a => simp only [Option.map_some, Value.ownBlock, add_block]
  have hk : ∀ k, k ≠ gq → (w.setCell ⟨gq, t, none⟩ nv).heap[k]? = w.heap[k]? := fun k hk => heap_setCell_other w ⟨gq, t, none⟩ k _ hk
  have hkv : ∀ k, v.ownBlock = some k → k ≠ gq := fun k e => by rintro rfl; have := h3 k e; rw [h.tq] at this; simp at this
  have htag : ∀ k x, tag k = some x → x ≠ (3, t, c t) → (fun k => if v.ownBlock = some k then none else tag k) k = some x := fun k x hx hne => by
    show (if v.ownBlock = some k then none else tag k) = some x
    rw [if_neg, hx]
    intro e
    have := h3 k e
    rw [hx] at this
    injection this with this
    exact hne this
  have hlen : 1 ≤ (iv t).length := by rw [h.len t ht, hq]; simp
  refine ⟨v, h1, own_keep h2 (fun k e => hk k (hkv k e)), h3, h.obj.keep (hk g h.gne), ?_, htag g _ h.tg (by simp), htag gq _ h.tq (by simp), fun s hs => ?_, fun s k hs e => ?_, fun s hs => ?_, fun s i x hs hl => ?_, fun k hk => ?_⟩
  · have := h.rows.set t nv
    rw [map_upd] at this
    exact this
  · by_cases e : s = t
    · subst e
      rw [upd_same, upd_same]
      have ho := h.own s hs
      rw [hv] at ho
      have := ho.cut (k := 1) hlen
      rw [hnv] at this
      exact this.keep (fun k hke => hk k (by rintro rfl; rw [hblk] at hke; have := h.to s k hs hke; rw [h.tq] at this; simp at this))
    · rw [upd_other _ _ e, upd_other _ _ e]
      exact (h.own s hs).keep (fun k hke => hk k (by rintro rfl; have := h.to s k hs hke; rw [h.tq] at this; simp at this))
  · refine htag k _ ?_ (by simp)
    by_cases e' : s = t
    · subst e'; rw [upd_same, hblk] at e; exact h.to s k hs e
    · rw [upd_other _ _ e'] at e; exact h.to s k hs e
  · by_cases e : s = t
    · subst e; rw [upd_same, upd_same, List.length_drop, h.len s hs, hq]; simp
    · rw [upd_other _ _ e, upd_other _ _ e]; exact h.len s hs
  · by_cases e : s = t
    · subst e
      rw [upd_same] at hl ⊢
      rw [upd_same]
      obtain ⟨v', g1, g2, g3⟩ := h.item s (i + 1) x hs (by rw [hq]; exact hl)
      refine ⟨v', by rw [List.getElem?_drop, Nat.add_comm]; exact g1, own_keep g2 (fun k hke => hk k (by rintro rfl; have := g3 k hke; rw [h.tq] at this; simp at this)), fun k hke => ?_⟩
      refine htag k _ (by rw [g3 k hke]; congr 3; omega) (by simp; omega)
    · rw [upd_other _ _ e] at hl ⊢
      rw [upd_other _ _ e]
      obtain ⟨v', g1, g2, g3⟩ := h.item s i x hs hl
      exact ⟨v', g1, own_keep g2 (fun k hke => hk k (by rintro rfl; have := g3 k hke; rw [h.tq] at this; simp at this)), fun k hke => htag k _ (g3 k hke) (by simp; intro h'; exact absurd h' e)⟩
  · have : tag k ≠ none := fun e => hk (by show (if v.ownBlock = some k then none else tag k) = none; rw [e]; simp)
    exact ⟨(h.lt k this).1, by simpa using (h.lt k this).2⟩
/-- one more in a queue -/
theorem SlX.push (h : SlX w base tag g gq n K q vs iv c) {t : Nat} (ht : t ≤ n) {v' x : Value} {l : List UInt8} (hF : Frame (fun k => k < w.heap.size ∧ (vs t).ownBlock ≠ some k) w w') (hO : OwnV w' 28 base v' (iv t ++ [x]))
    (hv : v'.ownBlock = (vs t).ownBlock ∨ ∃ b, v'.ownBlock = some b ∧ w.heap.size ≤ b) (hx : Own w' 5 base x l) (hxn : ∀ k, x.ownBlock = some k → w.heap.size ≤ k ∧ v'.ownBlock ≠ some k) (hbase : base ≤ w.heap.size) :
    SlX (w'.setCell ⟨gq, t, none⟩ v') base (fun k => if x.ownBlock = some k then some (3, t, c t + (q t).length) else if v'.ownBlock = some k then some (2, t, 0) else tag k) g gq n K (upd q t (q t ++ [l])) (upd vs t v') (upd iv t (iv t ++ [x])) c := by
  have hqt : ∀ k, (vs t).ownBlock = some k → tag k = some (2, t, 0) := fun k e => h.to t k ht e
  have hS : ∀ k z, tag k = some z → z ≠ (2, t, 0) → k < w.heap.size ∧ (vs t).ownBlock ≠ some k := fun k z hz hne => ⟨(h.lt k (by rw [hz]; simp)).2, fun e => by rw [hqt k e] at hz; injection hz with hz; exact hne hz.symm⟩
  have htag : ∀ k z, tag k = some z → z ≠ (2, t, 0) → (fun k => if x.ownBlock = some k then some (3, t, c t + (q t).length) else if v'.ownBlock = some k then some (2, t, 0) else tag k) k = some z := fun k z hz hne => by
    obtain ⟨h1, h2⟩ := hS k z hz hne
    show (if x.ownBlock = some k then some (3, t, c t + (q t).length) else if v'.ownBlock = some k then some (2, t, 0) else tag k) = some z
    rw [if_neg (fun e => by have := (hxn k e).1; omega), if_neg, hz]
    intro e
    rcases hv with hv | ⟨b, hb, hb'⟩
    · exact h2 (hv.symm.trans e)
    · rw [hb] at e; injection e with e; omega
  have hgq : gq < w.heap.size ∧ (vs t).ownBlock ≠ some gq := hS gq _ h.tq (by simp)
  have hk : ∀ k, k ≠ gq → (w'.setCell ⟨gq, t, none⟩ v').heap[k]? = w'.heap[k]? := fun k hk => heap_setCell_other w' ⟨gq, t, none⟩ k _ hk
  have hkk : ∀ k z, tag k = some z → z ≠ (2, t, 0) → k ≠ gq → (w'.setCell ⟨gq, t, none⟩ v').heap[k]? = w.heap[k]? := fun k z hz hne hkg => (hk k hkg).trans (hF.block k (hS k z hz hne))
  have hv'g : v'.ownBlock ≠ some gq := fun e => by
    rcases hv with hv | ⟨b, hb, hb'⟩
    · exact hgq.2 (hv.symm.trans e)
    · rw [hb] at e; injection e with e; omega
  refine ⟨h.obj.keep (hkk g _ h.tg (by simp) h.gne), ?_, htag g _ h.tg (by simp), htag gq _ h.tq (by simp), fun s hs => ?_, fun s k hs e => ?_, fun s hs => ?_, fun s i y hs hl => ?_, fun k hkt => ?_⟩
  · have := (h.rows.keep (hF.block gq hgq)).set t v'
    rw [map_upd] at this
    exact this
  · by_cases e : s = t
    · subst e; rw [upd_same, upd_same]; exact hO.keep (fun k hke => hk k (by rintro rfl; exact hv'g hke))
    · rw [upd_other _ _ e, upd_other _ _ e]
      exact (h.own s hs).keep (fun k hke => hkk k _ (h.to s k hs hke) (by simp; intro h'; exact absurd h' e) (by rintro rfl; have := h.to s k hs hke; rw [h.tq] at this; simp at this))
  · by_cases e' : s = t
    · subst e'
      rw [upd_same] at e
      show (if x.ownBlock = some k then some (3, s, c s + (q s).length) else if v'.ownBlock = some k then some (2, s, 0) else tag k) = some (2, s, 0)
      rw [if_neg (fun e2 => (hxn k e2).2 e), if_pos e]
    · rw [upd_other _ _ e'] at e
      exact htag k _ (h.to s k hs e) (by simp; intro h'; exact absurd h' e')
  · by_cases e : s = t
    · subst e; rw [upd_same, upd_same, List.length_append, List.length_append, h.len s hs]; rfl
    · rw [upd_other _ _ e, upd_other _ _ e]; exact h.len s hs
  · have old : ∀ (hl' : (q s)[i]? = some y), ∃ z, (iv s)[i]? = some z ∧ Own (w'.setCell ⟨gq, t, none⟩ v') 5 base z y ∧ ∀ k, z.ownBlock = some k → (fun k => if x.ownBlock = some k then some (3, t, c t + (q t).length) else if v'.ownBlock = some k then some (2, t, 0) else tag k) k = some (3, s, c s + i) := fun hl' => by
      obtain ⟨z, h1, h2, h3⟩ := h.item s i y hs hl'
      exact ⟨z, h1, own_keep h2 (fun k hke => hkk k _ (h3 k hke) (by simp) (by rintro rfl; have := h3 k hke; rw [h.tq] at this; simp at this)), fun k hke => htag k _ (h3 k hke) (by simp)⟩
    by_cases e : s = t
    · subst e
      rw [upd_same] at hl ⊢
      rcases Nat.lt_or_ge i (q s).length with hi | hi
      · rw [List.getElem?_append_left hi] at hl
        obtain ⟨z, h1, h2, h3⟩ := old hl
        exact ⟨z, by rw [List.getElem?_append_left (by rw [h.len s hs]; exact hi)]; exact h1, h2, h3⟩
      · rw [List.getElem?_append_right hi] at hl
        have hi0 : i = (q s).length := by
          rcases Nat.lt_or_ge (i - (q s).length) 1 with h' | h'
          · omega
          · rw [List.getElem?_eq_none (by simpa using h')] at hl; cases hl
        subst hi0
        rw [Nat.sub_self] at hl
        injection hl with hl
        subst hl
        refine ⟨x, by rw [List.getElem?_append_right (by rw [h.len s hs]; exact Nat.le_refl _), h.len s hs, Nat.sub_self]; rfl, own_keep hx (fun k hke => hk k (by rintro rfl; have := (hxn k hke).1; omega)), fun k hke => ?_⟩
        show (if x.ownBlock = some k then some (3, s, c s + (q s).length) else if v'.ownBlock = some k then some (2, s, 0) else tag k) = some (3, s, c s + (q s).length)
        rw [if_pos hke]
    · rw [upd_other _ _ e] at hl ⊢
      exact old hl
  · have hsz : (w'.setCell ⟨gq, t, none⟩ v').heap.size = w'.heap.size := by simp
    rw [hsz]
    have hfs := hF.size
    by_cases h1 : x.ownBlock = some k
    · have h2 := (hxn k h1).1
      have h3 := (hx.lt k h1).2
      omega
    · by_cases h2 : v'.ownBlock = some k
      · exact hO.lt k h2
      · have h3 : tag k ≠ none := fun e => hkt (by show (if x.ownBlock = some k then some (3, t, c t + (q t).length) else if v'.ownBlock = some k then some (2, t, 0) else tag k) = none; rw [if_neg h1, if_neg h2, e])
        have := h.lt k h3
        omega
end
end Go.Proofs.Ytjlmgniachdfgaa.Slots
