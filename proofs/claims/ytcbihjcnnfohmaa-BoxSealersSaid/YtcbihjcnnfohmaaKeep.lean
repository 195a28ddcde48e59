/- append onto a slice of the call's own: what it held stands where it stood. No program in sight. -/
import Derived.Test.YtcbihjcnnfohmaaRow
namespace Go.Proofs.Ytcbihjcnnfohmaa
open Go Go.RowKit
set_option linter.unusedVariables false

/-- append onto it; what it held stands where it stood -/
theorem run_append_k {P : Program} {t e : TypeId} {z : Value} {bytes : Nat} (hE : El P t e z bytes) (w : World) (ty : TypeId) (base : Nat) (v : Value) (xs : List Value) (hown : OwnV w e base v xs)
    (A : Option Addr) (m c : Nat) (news : List Value) (hl : news.length = m) (hsrc : 0 < m → ∃ ad, A = some ad ∧ ∀ j u, news[j]? = some u → w.cell? (ad.add j) = some u) (h1 : ∀ u ∈ news, u.oneCell' = true)
    (hbytes : (xs.length + m) * bytes ≤ 140737488355328) (hsz : xs.length + m ≤ 140737488355328) (hbase : base ≤ w.heap.size) :
    ∃ v' w', (Builtin.append_ #[t, t] ty #[v, .slice A m c]).run P w = .ok v' w' ∧ OwnV w' e base v' (xs ++ news) ∧ w.grownBy w' v.ownBlock ∧ (v'.ownBlock = v.ownBlock ∨ v'.ownBlock = some w.heap.size) ∧ OwnV w' e base v xs := by
  subst hl
  obtain ⟨i, hi, hz0, hz1, hz2⟩ := info_parts hE.info
  by_cases h0 : news.length = 0
  · have hnil : news = [] := List.eq_nil_of_length_eq_zero h0
    subst hnil
    refine ⟨v, w, ?_, by simpa using hown, World.grownBy.refl _ _, .inl rfl, hown⟩
    rcases hown with ⟨rfl, rfl⟩ | ⟨g, off, cap, cur, rfl, hb, hh, hn, hm, hs, ht⟩
    · rcases A with _ | ad <;> simp [Builtin.append_, run_underlying hE.slice, sizeOf, typeInfo, hi, Builtin.lenOf, Builtin.firstCells, loadCells, loadCellsFrom]
    · rcases A with _ | ad <;> simp [Builtin.append_, run_underlying hE.slice, sizeOf, typeInfo, hi, Builtin.lenOf, Builtin.firstCells, hn, storeCells, loadCells, loadCellsFrom]
  · obtain ⟨ad, rfl, hcells⟩ := hsrc (by omega)
    rcases hown with ⟨rfl, rfl⟩ | ⟨g, off, cap, cur, rfl, hb, hh, hn, hm, hs, ht⟩
    · simp only [List.length_nil, Nat.zero_add] at hbytes hsz
      obtain ⟨v', w', hrun, h2, h3, _, h5⟩ := run_append_own_at (P := P) w base t ty e i z 1 bytes hE.slice hi hz0 hz1 hz2 hE.zone (by omega) (.slice none 0 0) 0 [] (World.ownsRow_nil _ _ _ _) ad news.length c news (by simp) hcells h1
        (by simp only [maxLen]; omega) (by simpa using hbytes) hbase
      exact ⟨v', w', hrun, by simpa using OwnV.of_row h2, h3, h5, .inl ⟨rfl, rfl⟩⟩
    · have holds : ∀ j u, xs[j]? = some u → w.cell? ((⟨g, off, none⟩ : Addr).add j) = some u := by
        intro j u hj
        rw [addr_add, cell_of_row w g _ cur e (0, 0) hh]
        have hj' : j < xs.length := (List.getElem?_eq_some_iff.1 hj).1
        rw [← ht, List.getElem?_take, if_pos hj', List.getElem?_drop, Array.getElem?_toList] at hj
        exact hj
      by_cases hroom : xs.length + news.length ≤ cap
      · have hf := run_firstCells_some (P := P) w i.size news.length ad news.length c news (by rw [hz1, Nat.mul_one]) hcells
        have hst := run_storeCells_at P g (off + xs.length) e news 0 cur w hh (by omega) h1
        simp only [Nat.add_zero] at hst
        have hadd : Addr.add ⟨g, off, none⟩ (xs.length * i.size) = ⟨g, off + xs.length, none⟩ := by rw [addr_add, hz1, Nat.mul_one]
        refine ⟨.slice (some ⟨g, off, none⟩) (xs.length + news.length) cap, w.setRow g (cur.toList.take (off + xs.length) ++ news ++ cur.toList.drop (off + xs.length + news.length)).toArray, ?_, ?_, ?_, .inl rfl, ?_⟩
        · rw [hz1] at hf hadd
          simp only [Nat.mul_one, addr_add] at hadd
          simp [Builtin.append_, run_underlying hE.slice, sizeOf, typeInfo, hi, hz1, Builtin.lenOf, hroom, hf, addr_add, hst]
        · refine .inr ⟨g, off, cap, _, by rw [List.length_append], hb, setRow_heap w g cur _ e _ hh, by rw [List.length_append]; exact hroom, hm, ?_, ?_⟩
          · simp only [List.size_toArray, List.length_append, List.length_take, List.length_drop, Array.length_toList]
            omega
          · have e1 : (cur.toList.take (off + xs.length)).drop off = xs := by
              rw [List.drop_take, show off + xs.length - off = xs.length by omega, ht]
            have hle : off ≤ (cur.toList.take (off + xs.length)).length := by
              simp only [List.length_take, Array.length_toList]; omega
            show List.take (xs ++ news).length (List.drop off (cur.toList.take (off + xs.length) ++ news ++ cur.toList.drop (off + xs.length + news.length))) = xs ++ news
            rw [List.append_assoc, List.drop_append_of_le_length hle, e1, ← List.append_assoc]
            exact List.take_left
        · exact ⟨rfl, rfl, rfl, by simp, fun k _ hk => setRow_other w g k _ (fun e => hk (by simp [Value.ownBlock, e]))⟩
        · refine .inr ⟨g, off, cap, _, rfl, hb, setRow_heap w g cur _ e _ hh, hn, hm, ?_, ?_⟩
          · simp only [List.size_toArray, List.length_append, List.length_take, List.length_drop, Array.length_toList]
            omega
          · have e1 : (cur.toList.take (off + xs.length)).drop off = xs := by
              rw [List.drop_take, show off + xs.length - off = xs.length by omega, ht]
            have hle : off ≤ (cur.toList.take (off + xs.length)).length := by
              simp only [List.length_take, Array.length_toList]; omega
            show List.take xs.length (List.drop off (cur.toList.take (off + xs.length) ++ news ++ cur.toList.drop (off + xs.length + news.length))) = xs
            rw [List.append_assoc, List.drop_append_of_le_length hle, e1]
            exact List.take_left
      · obtain ⟨v', w', hrun, h2, h3⟩ := run_append_arg_grows (P := P) w t ty e i z 1 bytes hE.slice hi hz0 hz1 hz2 hE.zone (by omega) ⟨g, off, none⟩ xs.length cap xs (by simp) holds ad news.length c news (by simp) hcells (by omega) (by simp only [maxLen]; omega) hbytes
        have hblk : v'.ownBlock = some w.heap.size ∨ v'.ownBlock = none := by
          rcases h2.2 with ⟨rfl, h9⟩ | ⟨g', cap', cur', rfl, hb', hh', _⟩
          · exact .inr rfl
          · have hg := run_append_grow (P := P) w t ty e i z hE.slice hi hz0 ⟨g, off, none⟩ xs.length cap xs (by rw [hz1, Nat.mul_one]) holds ad news.length c news (by rw [hz1, Nat.mul_one]) hcells (by omega) (by omega) (growslice_fits (by omega) (by rw [hz2]; exact hbytes))
            rw [hg] at hrun
            injection hrun with hr1 hr2
            injection hr1 with hr1
            injection hr1 with hr1
            injection hr1 with hr1
            exact .inl (by simp only [Value.ownBlock]; rw [← hr1])
        refine ⟨v', w', hrun, (OwnV.of_row h2).mono (fun k hk => by have := (OwnV.of_row h2).lt k hk; omega), ⟨h3.os, h3.tape, h3.output, h3.size, fun k hk _ => h3.block k hk (by simp)⟩, ?_, (OwnV.keep (w' := w') (v := .slice (some ⟨g, off, none⟩) xs.length cap) (.inr ⟨g, off, cap, cur, rfl, hb, hh, hn, hm, hs, ht⟩) fun k hk => h3.block k (by injection hk with hk; rw [← hk]; exact (Array.getElem?_eq_some_iff.1 hh).1) (by simp))⟩
        rcases hblk with h | h
        · exact .inr h
        · exfalso
          rcases h2.2 with ⟨rfl, h9⟩ | ⟨g', cap', cur', rfl, hb', hh', _⟩
          · omega
          · cases h
theorem wp_append_k {P : Program} {t e : TypeId} {z : Value} {bytes : Nat} (hE : El P t e z bytes) {w : World} {o : Oper} {a : Act} {K : Act → World → Prop} {Q : Exit → Act → World → Prop}
    (s x : Operand) (ho : o.op = .call { callee := .builtin .append, args := #[s, x], argTypes := #[t, t] }) (base : Nat) (v : Value) (xs : List Value) (A : Option Addr) (m c : Nat) (news : List Value)
    (hs : a.eval s = v) (hx : a.eval x = .slice A m c) (hown : OwnV w e base v xs) (hl : news.length = m) (hsrc : 0 < m → ∃ ad, A = some ad ∧ ∀ j u, news[j]? = some u → w.cell? (ad.add j) = some u) (h1 : ∀ u ∈ news, u.oneCell' = true)
    (hbytes : (xs.length + m) * bytes ≤ 140737488355328) (hsz : xs.length + m ≤ 140737488355328) (hbase : base ≤ w.heap.size)
    (h : ∀ v' w', OwnV w' e base v' (xs ++ news) → w.grownBy w' v.ownBlock → (v'.ownBlock = v.ownBlock ∨ v'.ownBlock = some w.heap.size) → OwnV w' e base v xs → K (a.put o.dst v') w') : o.wp P a w K Q := by
  obtain ⟨v', w', hr, h2, h3, h4, h5⟩ := run_append_k hE w o.type base v xs hown A m c news hl hsrc h1 hbytes hsz hbase
  unfold Oper.wp execOp
  simp only [ho, resolve, invoke, builtin, Sem.run_bind, Sem.run_pure, Result.andThen_ok, List.map_toArray, List.map_cons, List.map_nil, hs, hx, hr]
  exact h v' w' h2 h3 h4 h5
/-- in a plain region -/
theorem wpList_append_k {P : Program} {t e : TypeId} {z : Value} {bytes : Nat} (hE : El P t e z bytes) {w : World} {ops : Array Oper} {rest : List Oper} {o : Oper} {a : Act} {Q : Exit → Act → World → Prop}
    (hgd : Region.wanted o (yielded ops a.tmps) = true) (s x : Operand) (ho : o.op = .call { callee := .builtin .append, args := #[s, x], argTypes := #[t, t] }) (base : Nat) (v : Value) (xs : List Value) (A : Option Addr) (m c : Nat) (news : List Value)
    (hs : a.eval s = v) (hx : a.eval x = .slice A m c) (hown : OwnV w e base v xs) (hl : news.length = m) (hsrc : 0 < m → ∃ ad, A = some ad ∧ ∀ j u, news[j]? = some u → w.cell? (ad.add j) = some u) (h1 : ∀ u ∈ news, u.oneCell' = true)
    (hbytes : (xs.length + m) * bytes ≤ 140737488355328) (hsz : xs.length + m ≤ 140737488355328) (hbase : base ≤ w.heap.size)
    (h : ∀ v' w', OwnV w' e base v' (xs ++ news) → w.grownBy w' v.ownBlock → (v'.ownBlock = v.ownBlock ∨ v'.ownBlock = some w.heap.size) → OwnV w' e base v xs → wpList P ops Q rest (a.put o.dst v') w') : wpList P ops Q (o :: rest) a w :=
  wpList_wanted hgd fun _ hK => wp_append_k hE s x ho base v xs A m c news hs hx hown hl hsrc h1 hbytes hsz hbase fun v' w' h2 h3 h4 h5 => hK _ _ (h v' w' h2 h3 h4 h5)
/-- at a step of a region that draws its order -/
theorem step_append_k {P : Program} {t e : TypeId} {z : Value} {bytes : Nat} (hE : El P t e z bytes) {w : World} {ops : Array Oper} {o : Oper} {a : Act} {K : Act → World → Prop} {Q : Exit → Act → World → Prop} {E : Prop}
    (hgd : Region.wanted o (yielded ops a.tmps) = true) (s x : Operand) (ho : o.op = .call { callee := .builtin .append, args := #[s, x], argTypes := #[t, t] }) (base : Nat) (v : Value) (xs : List Value) (A : Option Addr) (m c : Nat) (news : List Value)
    (hs : a.eval s = v) (hx : a.eval x = .slice A m c) (hown : OwnV w e base v xs) (hl : news.length = m) (hsrc : 0 < m → ∃ ad, A = some ad ∧ ∀ j u, news[j]? = some u → w.cell? (ad.add j) = some u) (h1 : ∀ u ∈ news, u.oneCell' = true)
    (hbytes : (xs.length + m) * bytes ≤ 140737488355328) (hsz : xs.length + m ≤ 140737488355328) (hbase : base ≤ w.heap.size)
    (h : ∀ v' w', OwnV w' e base v' (xs ++ news) → w.grownBy w' v.ownBlock → (v'.ownBlock = v.ownBlock ∨ v'.ownBlock = some w.heap.size) → OwnV w' e base v xs → K (a.put o.dst v') w') :
    if Region.wanted o (yielded ops a.tmps) = true then Oper.wp P o a w K Q else E := by
  rw [if_pos hgd]
  exact wp_append_k hE s x ho base v xs A m c news hs hx hown hl hsrc h1 hbytes hsz hbase h

/-- where it lies, and what is read there -/
theorem OwnV.ptr {w : World} {e : TypeId} {base n : Nat} {v : Value} {xs : List Value} (h : OwnV w e base v xs) (hn : xs.length = n) (h0 : 0 < n) :
    ∃ g off c, v = .slice (some ⟨g, off, none⟩) n c ∧ n ≤ c ∧ c ≤ 9223372036854775807 ∧ base ≤ g ∧ g < w.heap.size ∧ ∀ i u, xs[i]? = some u → w.cell? ⟨g, off + i, none⟩ = some u := by
  subst hn
  rcases h with ⟨rfl, rfl⟩ | ⟨g, off, cap, cur, rfl, hb, hh, hn, hm, hs, ht⟩
  · simp at h0
  · refine ⟨g, off, cap, rfl, hn, by simp only [maxLen] at hm; omega, hb, (Array.getElem?_eq_some_iff.1 hh).1, fun i u hi => ?_⟩
    have hi' : i < xs.length := (List.getElem?_eq_some_iff.1 hi).1
    rw [cell_of_row w g _ cur e (0, 0) hh]
    rw [← ht, List.getElem?_take, if_pos hi', List.getElem?_drop, Array.getElem?_toList] at hi
    exact hi
/-- read anew, the address known -/
theorem OwnV.again {w : World} {e : TypeId} {base n g off c : Nat} {xs : List Value} (h : OwnV w e base (.slice (some ⟨g, off, none⟩) n c) xs) {i : Nat} {u : Value} (hi : xs[i]? = some u) : w.cell? ⟨g, off + i, none⟩ = some u := by
  rcases h with ⟨h1, _⟩ | ⟨g', off', cap, cur, h1, hb, hh, hn, hm, hs, ht⟩
  · cases h1
  · injection h1 with h1 _ _
    injection h1 with h1
    injection h1 with h1 h2
    subst h1 h2
    have hi' : i < xs.length := (List.getElem?_eq_some_iff.1 hi).1
    rw [cell_of_row w _ _ cur e (0, 0) hh]
    rw [← ht, List.getElem?_take, if_pos hi', List.getElem?_drop, Array.getElem?_toList] at hi
    exact hi
end Go.Proofs.Ytcbihjcnnfohmaa
