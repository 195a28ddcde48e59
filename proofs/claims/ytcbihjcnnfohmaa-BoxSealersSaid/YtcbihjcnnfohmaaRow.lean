/- A slice of the call's own, wherever in its block it begins, elements of one cell: reading, storing, cutting, append. No program in sight. -/
import Derived.Test.YtcbihjcnnfohmaaMem
namespace Go.Proofs.Ytcbihjcnnfohmaa
open Go Go.RowKit
set_option linter.unusedVariables false

/-- what the program's tables say of a slice type whose elements take one cell -/
structure El (P : Program) (t e : TypeId) (z : Value) (bytes : Nat) : Prop where
  slice : P.underlying t = some (.slice e)
  info : (P.info? e).map (fun i => (i.zero, i.size, i.bytes)) = some (some z, 1, bytes)
  zone : z.cells.size = 1
theorem U8.el {P : Program} {t e : TypeId} (h : U8 P t e) : El P t e (.int .u8 0) 1 := ⟨h.slice, h.info, rfl⟩

def OwnV (w : World) (e : TypeId) (base : Nat) (v : Value) (xs : List Value) : Prop :=
  (v = .slice none 0 0 ∧ xs = []) ∨
  ∃ g off cap cur, v = .slice (some ⟨g, off, none⟩) xs.length cap ∧ base ≤ g ∧ w.heap[g]? = some (.cells cur e (0, 0)) ∧ xs.length ≤ cap ∧ cap ≤ maxLen ∧ off + cap ≤ cur.size ∧ (cur.toList.drop off).take xs.length = xs

section
variable {w w' : World} {e : TypeId} {base : Nat} {v : Value} {xs : List Value}
theorem OwnV.nil (w : World) (e : TypeId) (base : Nat) : OwnV w e base (.slice none 0 0) [] := .inl ⟨rfl, rfl⟩
theorem OwnV.of_row {n : Nat} (h : w.ownsRow base e 1 v n xs) : OwnV w e base v xs := by
  have hl : xs.length = n := by have := h.1; omega
  rcases h.2 with ⟨rfl, h0⟩ | ⟨g, cap, cur, rfl, hb, hg, hnc, hm, hs, ht⟩
  · exact .inl ⟨rfl, List.eq_nil_of_length_eq_zero (by omega)⟩
  · refine .inr ⟨g, 0, cap, cur, by rw [hl], hb, hg, by omega, hm, by omega, ?_⟩
    rw [List.drop_zero, hl]
    simpa using ht
theorem OwnV.lt (h : OwnV w e base v xs) : ∀ k, v.ownBlock = some k → base ≤ k ∧ k < w.heap.size := by
  intro k hk
  rcases h with ⟨rfl, _⟩ | ⟨g, off, cap, cur, rfl, hb, hg, _⟩
  · cases hk
  · injection hk with hk
    subst hk
    exact ⟨hb, (Array.getElem?_eq_some_iff.1 hg).1⟩
theorem OwnV.keep (h : OwnV w e base v xs) (hk : ∀ k, v.ownBlock = some k → w'.heap[k]? = w.heap[k]?) : OwnV w' e base v xs := by
  rcases h with h | ⟨g, off, cap, cur, rfl, hb, hg, rest⟩
  · exact .inl h
  · exact .inr ⟨g, off, cap, cur, rfl, hb, (hk g rfl).trans hg, rest⟩
theorem OwnV.kept {row : Option Nat} (h : OwnV w e base v xs) (hg : w.grownBy w' row) (hne : v.ownBlock = none ∨ v.ownBlock ≠ row) : OwnV w' e base v xs :=
  h.keep fun k hk => hg.block k (h.lt k hk).2 (by rcases hne with hn | hn; (rw [hn] at hk; cases hk); (rw [← hk]; exact hn))
theorem OwnV.below {B : Nat} (h : OwnV w e base v xs) (hb : Below B w w') (hB : ∀ k, v.ownBlock = some k → k < B) : OwnV w' e base v xs :=
  h.keep fun k hk => hb.block k (hB k hk)
theorem OwnV.below_ (h : OwnV w e base v xs) (hb : Below w.heap.size w w') : OwnV w' e base v xs := h.below hb fun k hk => (h.lt k hk).2
theorem OwnV.alloc (h : OwnV w e base v xs) (o : Obj) : OwnV (w.alloc o) e base v xs := h.below_ ((Below.refl _ _).alloc (Nat.le_refl _) o)
theorem OwnV.drew (h : OwnV w e base v xs) : OwnV w.drew e base v xs := h
theorem OwnV.drewN (h : OwnV w e base v xs) (n : Nat) : OwnV (w.drewN n) e base v xs := h
theorem OwnV.far (h : OwnV w e base v xs) {p : Addr} (hp : v.ownBlock ≠ some p.block) (u : Value) : OwnV (w.setCell p u) e base v xs :=
  h.keep fun k hk => heap_setCell_other w p k u (by rintro rfl; exact hp hk)
theorem OwnV.mono {base' : Nat} (h : OwnV w e base v xs) (hb : ∀ k, v.ownBlock = some k → base' ≤ k) : OwnV w e base' v xs := by
  rcases h with h | ⟨g, off, cap, cur, rfl, _, rest⟩
  · exact .inl h
  · exact .inr ⟨g, off, cap, cur, rfl, hb g rfl, rest⟩
theorem OwnV.len (h : OwnV w e base v xs) : ∃ A c, v = .slice A xs.length c ∧ xs.length ≤ c ∧ c ≤ 9223372036854775807 ∧ (A = none → c = 0) := by
  rcases h with ⟨rfl, rfl⟩ | ⟨g, off, cap, cur, rfl, hb, hg, hn, hm, _⟩
  · exact ⟨none, 0, rfl, Nat.le_refl _, by omega, fun _ => rfl⟩
  · exact ⟨_, cap, rfl, hn, by simp only [maxLen] at hm; omega, fun h => by cases h⟩
theorem addr_add (g off i : Nat) : Addr.add ⟨g, off, none⟩ i = ⟨g, off + i, none⟩ := by unfold Addr.add; split <;> simp_all
/-- an element, where it lies; what is behind a store -/
theorem OwnV.at_ (h : OwnV w e base v xs) {i : Nat} (hi : i < xs.length) :
    ∃ g off c, v = .slice (some ⟨g, off, none⟩) xs.length c ∧ base ≤ g ∧ g < w.heap.size ∧ w.cell? ⟨g, off + i, none⟩ = some xs[i] ∧ w.frozen? ⟨g, off + i, none⟩ = false ∧
      ∀ x, OwnV (w.setCell ⟨g, off + i, none⟩ x) e base v (xs.set i x) := by
  rcases h with ⟨rfl, rfl⟩ | ⟨g, off, cap, cur, rfl, hb, hh, hn, hm, hs, ht⟩
  · simp at hi
  · have hcell : cur[off + i]? = some xs[i] := by
      have e1 : xs[i]? = some xs[i] := List.getElem?_eq_getElem hi
      have e2 : ((cur.toList.drop off).take xs.length)[i]? = some xs[i] := by rw [ht]; exact e1
      rw [List.getElem?_take, if_pos hi, List.getElem?_drop, Array.getElem?_toList] at e2
      exact e2
    refine ⟨g, off, cap, rfl, hb, (Array.getElem?_eq_some_iff.1 hh).1, ?_, frozen_of_row w g _ cur e hh, fun x => .inr ⟨g, off, cap, cur.setIfInBounds (off + i) x, by rw [List.length_set], hb, heap_setCell_same w g _ cur e x hh, by rw [List.length_set]; exact hn, hm, by rw [Array.size_setIfInBounds]; exact hs, ?_⟩⟩
    · rw [cell_of_row w g _ cur e (0, 0) hh, hcell]
    · rw [List.length_set, Array.toList_setIfInBounds, List.drop_set, if_neg (by omega), show off + i - off = i by omega, List.take_set, ht]
/-- s[k:] -/
theorem OwnV.cut {A : Option Addr} {n c : Nat} (h : OwnV w e base (.slice A n c) xs) {k : Nat} (hk : k ≤ xs.length) :
    OwnV w e base (.slice (if c = k then A else A.map (·.add k)) (n - k) (c - k)) (xs.drop k) := by
  rcases h with ⟨h1, rfl⟩ | ⟨g, off, cap, cur, h1, hb, hh, hn, hm, hs, ht⟩
  · injection h1 with h1 h2 h3
    subst h1 h2 h3
    simp only [List.length_nil, Nat.le_zero_eq] at hk
    subst hk
    exact .inl ⟨rfl, rfl⟩
  · injection h1 with h1 h2 h3
    subst h1 h2 h3
    have hdl : (xs.drop k).length = xs.length - k := by simp
    by_cases hck : c = k
    · rw [if_pos hck]
      have h0 : xs.drop k = [] := List.drop_eq_nil_of_le (by omega)
      refine .inr ⟨g, off, c - k, cur, by rw [hdl], hb, hh, by omega, by omega, by omega, ?_⟩
      rw [h0, List.length_nil, List.take_zero]
    · rw [if_neg hck]
      refine .inr ⟨g, off + k, c - k, cur, by rw [hdl, Option.map_some, addr_add], hb, hh, by omega, by omega, by omega, ?_⟩
      rw [hdl]
      conv => rhs; rw [← ht]
      rw [← List.drop_drop, List.drop_take]
end

/-- append onto it, all at once -/
theorem run_append_v {P : Program} {t e : TypeId} {z : Value} {bytes : Nat} (hE : El P t e z bytes) (w : World) (ty : TypeId) (base : Nat) (v : Value) (xs : List Value) (hown : OwnV w e base v xs)
    (A : Option Addr) (m c : Nat) (news : List Value) (hl : news.length = m) (hsrc : 0 < m → ∃ ad, A = some ad ∧ ∀ j u, news[j]? = some u → w.cell? (ad.add j) = some u) (h1 : ∀ u ∈ news, u.oneCell' = true)
    (hbytes : (xs.length + m) * bytes ≤ 140737488355328) (hsz : xs.length + m ≤ 140737488355328) (hbase : base ≤ w.heap.size) :
    ∃ v' w', (Builtin.append_ #[t, t] ty #[v, .slice A m c]).run P w = .ok v' w' ∧ OwnV w' e base v' (xs ++ news) ∧ w.grownBy w' v.ownBlock ∧ (v'.ownBlock = v.ownBlock ∨ v'.ownBlock = some w.heap.size) := by
  subst hl
  obtain ⟨i, hi, hz0, hz1, hz2⟩ := info_parts hE.info
  by_cases h0 : news.length = 0
  · have hnil : news = [] := List.eq_nil_of_length_eq_zero h0
    subst hnil
    refine ⟨v, w, ?_, by simpa using hown, World.grownBy.refl _ _, .inl rfl⟩
    rcases hown with ⟨rfl, rfl⟩ | ⟨g, off, cap, cur, rfl, hb, hh, hn, hm, hs, ht⟩
    · rcases A with _ | ad <;> simp [Builtin.append_, run_underlying hE.slice, sizeOf, typeInfo, hi, Builtin.lenOf, Builtin.firstCells, loadCells, loadCellsFrom]
    · rcases A with _ | ad <;> simp [Builtin.append_, run_underlying hE.slice, sizeOf, typeInfo, hi, Builtin.lenOf, Builtin.firstCells, hn, storeCells, loadCells, loadCellsFrom]
  · obtain ⟨ad, rfl, hcells⟩ := hsrc (by omega)
    rcases hown with ⟨rfl, rfl⟩ | ⟨g, off, cap, cur, rfl, hb, hh, hn, hm, hs, ht⟩
    · simp only [List.length_nil, Nat.zero_add] at hbytes hsz
      obtain ⟨v', w', hrun, h2, h3, _, h5⟩ := run_append_own_at (P := P) w base t ty e i z 1 bytes hE.slice hi hz0 hz1 hz2 hE.zone (by omega) (.slice none 0 0) 0 [] (World.ownsRow_nil _ _ _ _) ad news.length c news (by simp) hcells h1
        (by simp only [maxLen]; omega) (by simpa using hbytes) hbase
      exact ⟨v', w', hrun, by simpa using OwnV.of_row h2, h3, h5⟩
    · have holds : ∀ j u, xs[j]? = some u → w.cell? ((⟨g, off, none⟩ : Addr).add j) = some u := by
        intro j u hj
        rw [addr_add, cell_of_row w g _ cur e (0, 0) hh]
        have hj' : j < xs.length := (List.getElem?_eq_some_iff.1 hj).1
        rw [← ht, List.getElem?_take, if_pos hj', List.getElem?_drop, Array.getElem?_toList] at hj
        exact hj
      by_cases hroom : xs.length + news.length ≤ cap
      · have hf := run_firstCells_some (P := P) w i.size news.length ad news.length c news (by rw [hz1, Nat.mul_one]) hcells
        have hst := run_storeCells_at P g (off + xs.length) e news 0 cur w hh (by omega) h1
        simp only [Nat.add_zero] at hst
        have hadd : Addr.add ⟨g, off, none⟩ (xs.length * i.size) = ⟨g, off + xs.length, none⟩ := by rw [addr_add, hz1, Nat.mul_one]
        refine ⟨.slice (some ⟨g, off, none⟩) (xs.length + news.length) cap, w.setRow g (cur.toList.take (off + xs.length) ++ news ++ cur.toList.drop (off + xs.length + news.length)).toArray, ?_, ?_, ?_, .inl rfl⟩
        · rw [hz1] at hf hadd
          simp only [Nat.mul_one, addr_add] at hadd
          simp [Builtin.append_, run_underlying hE.slice, sizeOf, typeInfo, hi, hz1, Builtin.lenOf, hroom, hf, addr_add, hst]
        · refine .inr ⟨g, off, cap, _, by rw [List.length_append], hb, setRow_heap w g cur _ e _ hh, by rw [List.length_append]; exact hroom, hm, ?_, ?_⟩
          · simp only [List.size_toArray, List.length_append, List.length_take, List.length_drop, Array.length_toList]
            omega
          · have e1 : (cur.toList.take (off + xs.length)).drop off = xs := by
              rw [List.drop_take, show off + xs.length - off = xs.length by omega, ht]
            have hle : off ≤ (cur.toList.take (off + xs.length)).length := by
              simp only [List.length_take, Array.length_toList]; omega
            show List.take (xs ++ news).length (List.drop off (cur.toList.take (off + xs.length) ++ news ++ cur.toList.drop (off + xs.length + news.length))) = xs ++ news
            rw [List.append_assoc, List.drop_append_of_le_length hle, e1, ← List.append_assoc]
            exact List.take_left
        · exact ⟨rfl, rfl, rfl, by simp, fun k _ hk => setRow_other w g k _ (fun e => hk (by simp [Value.ownBlock, e]))⟩
      · obtain ⟨v', w', hrun, h2, h3⟩ := run_append_arg_grows (P := P) w t ty e i z 1 bytes hE.slice hi hz0 hz1 hz2 hE.zone (by omega) ⟨g, off, none⟩ xs.length cap xs (by simp) holds ad news.length c news (by simp) hcells (by omega) (by simp only [maxLen]; omega) hbytes
        have hblk : v'.ownBlock = some w.heap.size ∨ v'.ownBlock = none := by
          rcases h2.2 with ⟨rfl, h9⟩ | ⟨g', cap', cur', rfl, hb', hh', _⟩
          · exact .inr rfl
          · have hg := run_append_grow (P := P) w t ty e i z hE.slice hi hz0 ⟨g, off, none⟩ xs.length cap xs (by rw [hz1, Nat.mul_one]) holds ad news.length c news (by rw [hz1, Nat.mul_one]) hcells (by omega) (by omega) (growslice_fits (by omega) (by rw [hz2]; exact hbytes))
            rw [hg] at hrun
            injection hrun with hr1 hr2
            injection hr1 with hr1
            injection hr1 with hr1
            injection hr1 with hr1
            exact .inl (by simp only [Value.ownBlock]; rw [← hr1])
        refine ⟨v', w', hrun, (OwnV.of_row h2).mono (fun k hk => by have := (OwnV.of_row h2).lt k hk; omega), ⟨h3.os, h3.tape, h3.output, h3.size, fun k hk _ => h3.block k hk (by simp)⟩, ?_⟩
        rcases hblk with h | h
        · exact .inr h
        · exfalso
          rcases h2.2 with ⟨rfl, h9⟩ | ⟨g', cap', cur', rfl, hb', hh', _⟩
          · omega
          · cases h
theorem wp_append_v {P : Program} {t e : TypeId} {z : Value} {bytes : Nat} (hE : El P t e z bytes) {w : World} {o : Oper} {a : Act} {K : Act → World → Prop} {Q : Exit → Act → World → Prop}
    (s x : Operand) (ho : o.op = .call { callee := .builtin .append, args := #[s, x], argTypes := #[t, t] }) (base : Nat) (v : Value) (xs : List Value) (A : Option Addr) (m c : Nat) (news : List Value)
    (hs : a.eval s = v) (hx : a.eval x = .slice A m c) (hown : OwnV w e base v xs) (hl : news.length = m) (hsrc : 0 < m → ∃ ad, A = some ad ∧ ∀ j u, news[j]? = some u → w.cell? (ad.add j) = some u) (h1 : ∀ u ∈ news, u.oneCell' = true)
    (hbytes : (xs.length + m) * bytes ≤ 140737488355328) (hsz : xs.length + m ≤ 140737488355328) (hbase : base ≤ w.heap.size)
    (h : ∀ v' w', OwnV w' e base v' (xs ++ news) → w.grownBy w' v.ownBlock → (v'.ownBlock = v.ownBlock ∨ v'.ownBlock = some w.heap.size) → K (a.put o.dst v') w') : o.wp P a w K Q := by
  obtain ⟨v', w', hr, h2, h3, h4⟩ := run_append_v hE w o.type base v xs hown A m c news hl hsrc h1 hbytes hsz hbase
  unfold Oper.wp execOp
  simp only [ho, resolve, invoke, builtin, Sem.run_bind, Sem.run_pure, Result.andThen_ok, List.map_toArray, List.map_cons, List.map_nil, hs, hx, hr]
  exact h v' w' h2 h3 h4
/-- in a plain region -/
theorem wpList_append_v {P : Program} {t e : TypeId} {z : Value} {bytes : Nat} (hE : El P t e z bytes) {w : World} {ops : Array Oper} {rest : List Oper} {o : Oper} {a : Act} {Q : Exit → Act → World → Prop}
    (hgd : Region.wanted o (yielded ops a.tmps) = true) (s x : Operand) (ho : o.op = .call { callee := .builtin .append, args := #[s, x], argTypes := #[t, t] }) (base : Nat) (v : Value) (xs : List Value) (A : Option Addr) (m c : Nat) (news : List Value)
    (hs : a.eval s = v) (hx : a.eval x = .slice A m c) (hown : OwnV w e base v xs) (hl : news.length = m) (hsrc : 0 < m → ∃ ad, A = some ad ∧ ∀ j u, news[j]? = some u → w.cell? (ad.add j) = some u) (h1 : ∀ u ∈ news, u.oneCell' = true)
    (hbytes : (xs.length + m) * bytes ≤ 140737488355328) (hsz : xs.length + m ≤ 140737488355328) (hbase : base ≤ w.heap.size)
    (h : ∀ v' w', OwnV w' e base v' (xs ++ news) → w.grownBy w' v.ownBlock → (v'.ownBlock = v.ownBlock ∨ v'.ownBlock = some w.heap.size) → wpList P ops Q rest (a.put o.dst v') w') : wpList P ops Q (o :: rest) a w :=
  wpList_wanted hgd fun _ hK => wp_append_v hE s x ho base v xs A m c news hs hx hown hl hsrc h1 hbytes hsz hbase fun v' w' h2 h3 h4 => hK _ _ (h v' w' h2 h3 h4)
/-- at a step of a region that draws its order -/
theorem step_append_v {P : Program} {t e : TypeId} {z : Value} {bytes : Nat} (hE : El P t e z bytes) {w : World} {ops : Array Oper} {o : Oper} {a : Act} {K : Act → World → Prop} {Q : Exit → Act → World → Prop} {E : Prop}
    (hgd : Region.wanted o (yielded ops a.tmps) = true) (s x : Operand) (ho : o.op = .call { callee := .builtin .append, args := #[s, x], argTypes := #[t, t] }) (base : Nat) (v : Value) (xs : List Value) (A : Option Addr) (m c : Nat) (news : List Value)
    (hs : a.eval s = v) (hx : a.eval x = .slice A m c) (hown : OwnV w e base v xs) (hl : news.length = m) (hsrc : 0 < m → ∃ ad, A = some ad ∧ ∀ j u, news[j]? = some u → w.cell? (ad.add j) = some u) (h1 : ∀ u ∈ news, u.oneCell' = true)
    (hbytes : (xs.length + m) * bytes ≤ 140737488355328) (hsz : xs.length + m ≤ 140737488355328) (hbase : base ≤ w.heap.size)
    (h : ∀ v' w', OwnV w' e base v' (xs ++ news) → w.grownBy w' v.ownBlock → (v'.ownBlock = v.ownBlock ∨ v'.ownBlock = some w.heap.size) → K (a.put o.dst v') w') :
    if Region.wanted o (yielded ops a.tmps) = true then Oper.wp P o a w K Q else E := by
  rw [if_pos hgd]
  exact wp_append_v hE s x ho base v xs A m c news hs hx hown hl hsrc h1 hbytes hsz hbase h

/-! ### bytes -/
def OwnB (w : World) (e : TypeId) (base : Nat) (v : Value) (l : List UInt8) : Prop := OwnV w e base v (bvs l)
theorem Own.b {w : World} {e : TypeId} {base : Nat} {v : Value} {l : List UInt8} (h : Own w e base v l) : OwnB w e base v l := OwnV.of_row h
theorem OwnB.form {w : World} {e : TypeId} {base : Nat} {v : Value} {l : List UInt8} (h : OwnB w e base v l) : ∃ A c, v = .slice A l.length c ∧ Rd w w.heap.size A l ∧ l.length ≤ c := by
  rcases h with ⟨rfl, h0⟩ | ⟨g, off, cap, cur, hv, hb, hh, hn, hm, hs, ht⟩
  · have hl : l = [] := List.eq_nil_of_length_eq_zero (by rw [← bvs_length, h0]; rfl)
    subst hl
    exact ⟨none, 0, rfl, Rd.nil _ _ _, Nat.le_refl _⟩
  · rw [bvs_length] at hv hn ht
    refine ⟨_, cap, hv, fun hpos => ⟨_, rfl, (Array.getElem?_eq_some_iff.1 hh).1, fun j hj => ?_⟩, hn⟩
    have e2 : ((cur.toList.drop off).take l.length)[j]? = some (bv l[j]) := by rw [ht]; exact bvs_get hj
    rw [List.getElem?_take, if_pos hj, List.getElem?_drop, Array.getElem?_toList] at e2
    rw [addr_add, cell_of_row w g _ cur e (0, 0) hh, e2]
theorem Rd.news {w : World} {B : Nat} {A : Option Addr} {l : List UInt8} (h : Rd w B A l) (m : Nat) (hm : l.length = m) : 0 < m → ∃ ad, A = some ad ∧ ∀ j u, (bvs l)[j]? = some u → w.cell? (ad.add j) = some u := fun h0 => h.src (by omega)
end Go.Proofs.Ytcbihjcnnfohmaa
