/- The document's round keys: the words, the rows that hold them. -/
import Derived.Test.YtcbihjcnnfohmaaAesRefC
import Derived.Test.YtcbihjcnnfohmaaAesRounds
namespace Go.Proofs.Ytcbihjcnnfohmaa.Aes
open Go Go.ChangeShapes Go.WideShapes Go.ChangeAt Go.RowKit Go.Proofs.Ytcbihjcnnfohmaa.Fld
set_option linter.unusedVariables false
set_option linter.unusedSimpArgs false
/-! ### plain -/
theorem words_take (n : Nat) (key : Blk) (k : Nat) : ∀ m, (words n key (k + m)).take (n + k) = words n key k
  | 0 => by rw [Nat.add_zero]; exact List.take_of_length_le (by rw [words_length]; exact Nat.le_refl _)
  | m+1 => by
    show (words n key (k + m) ++ [nextW n (words n key (k + m))]).take (n + k) = _
    rw [List.take_append_of_le_length (by rw [words_length]; omega), words_take n key k m]
def allW (n : Nat) (key : Blk) : List Blk := words n key (more n)
theorem allW_length {n : Nat} (hn : n = 4 ∨ n = 8) (key : Blk) : (allW n key).length = 4 * (n + 7) := by unfold allW; rw [words_length]; unfold more; omega
theorem allW_take {n : Nat} (hn : n = 4 ∨ n = 8) (key : Blk) {k : Nat} (hk : n + k ≤ 4 * (n + 7)) : (allW n key).take (n + k) = words n key k := by
  unfold allW
  have : more n = k + (more n - k) := by unfold more; omega
  rw [this]; exact words_take n key k _
theorem rkey_take {R : List Blk} {i j : Nat} (h : j < i) : rkey (R.take i) j = rkey R j := by
  unfold rkey; rw [List.getD_eq_getElem?_getD, List.getD_eq_getElem?_getD, List.getElem?_take, if_pos h]
theorem allW_next {n : Nat} (hn : n = 4 ∨ n = 8) (key : Blk) {i : Nat} (hi : n ≤ i) (hl : i < 4 * (n + 7)) : (allW n key).take (i + 1) = (allW n key).take i ++ [lay (turnW n i (rkey (allW n key) (i - 1))) (rkey (allW n key) (i - n))] := by
  obtain ⟨k, rfl⟩ := Nat.exists_eq_add_of_le hi
  have h0 := allW_take hn key (k := k) (by omega)
  have h1 := allW_take hn key (k := k + 1) (by omega)
  rw [← Nat.add_assoc] at h1
  rw [h1, words, nextW, words_length, ← h0, rkey_take (by omega), rkey_take (by omega)]
theorem allW_first {n : Nat} (hn : n = 4 ∨ n = 8) (key : Blk) {i : Nat} (hi : i < n) : (allW n key).take (i + 1) = (allW n key).take i ++ [(key.drop (4 * i)).take 4] := by
  have h0 := allW_take hn key (k := 0) (by omega)
  have e : ∀ j, j ≤ n → (allW n key).take j = (words n key 0).take j := fun j hj => by
    rw [← h0, List.take_take]; congr 1; omega
  rw [e _ (by omega), e _ (by omega)]
  have hl : i < (words n key 0).length := by rw [words_length]; omega
  rw [List.take_succ_eq_append_getElem hl]
  simp [words]
theorem allW_four {n : Nat} (hn : n = 4 ∨ n = 8) {key : Blk} (hk : key.length = 4 * n) : Four (allW n key) := words_four hk (by omega) _
theorem lay4_length {a b : Blk} (ha : a.length = 4) (hb : b.length = 4) : (lay a b).length = 4 := by unfold lay; rw [List.length_zipWith, ha, hb]; rfl
theorem lay_at4 {a b : Blk} {i : Nat} (ha : i < a.length) (hb : i < b.length) : at_ (lay a b) i = at_ a i ^^^ at_ b i := by
  unfold lay at_
  simp [List.getD_eq_getElem?_getD, List.getElem?_zipWith, List.getElem?_eq_getElem ha, List.getElem?_eq_getElem hb]
theorem take_rk {R : List Blk} {i : Nat} (h : i < R.length) : R.take (i + 1) = R.take i ++ [rkey R i] := take_round h
/-- four words on -/
theorem rounds_next {n : Nat} (key : Blk) {r : Nat} (hr : r < n + 7) : (rounds n key).take (r + 1) = (rounds n key).take r ++ [(((allW n key).drop (4 * r)).take 4).flatten] := by
  rw [take_round (by rw [rounds_length]; exact hr), rounds_at hr]; rfl
theorem cut_next {W : List Blk} {p j : Nat} (h : p + j < W.length) : ((W.drop p).take (j + 1)).flatten = ((W.drop p).take j).flatten ++ rkey W (p + j) := by
  rw [List.take_succ_eq_append_getElem (by rw [List.length_drop]; omega), List.flatten_append]
  simp [rkey, List.getD_eq_getElem?_getD, h]
/-! ### rows -/
theorem rd_now_ {w w' : World} {A : Option Addr} {l : List UInt8} (hr : Rd w w.heap.size A l) (hb : Below w.heap.size w w') : Rd w' w'.heap.size A l := (hr.below hb).more hb.size
section
variable {w w2 w4 : World} {tb e : TypeId} {base : Nat} {v v4 x : Value} {vs : List Value} {ls : List (List UInt8)} {l : List UInt8}
theorem rws_own (hR : Rws w tb e base v vs ls) (hb : Below w.heap.size w w2) (o : Obj) : OwnV (w2.alloc o) tb base v vs := (hR.own.below_ hb).alloc o
theorem rws_app (hR : Rws w tb e base v vs ls) (hbase : base ≤ w.heap.size) (hb : Below w.heap.size w w2) {b2 : Nat} (hx : Own w2 e b2 x l) (h2 : w.heap.size ≤ b2) (o : Obj) (hO : OwnV w4 tb base v4 (vs ++ [x]))
    (hg : (w2.alloc o).grownBy w4 v.ownBlock) (hat : v4.ownBlock = v.ownBlock ∨ v4.ownBlock = some (w2.alloc o).heap.size) : Rws w4 tb e base v4 (vs ++ [x]) (ls ++ [l]) ∧ Frame (fun k => k < w.heap.size ∧ v.ownBlock ≠ some k) w w4 := by
  have hs := hb.size
  have hF4 : Frame (fun b => b < w.heap.size ∧ v.ownBlock ≠ some b) w w4 := Frame.trans (Frame.of_below hb (S := fun b => b < w.heap.size ∧ v.ownBlock ≠ some b) (fun b h => h.1))
    (Frame.trans ((Frame.refl (fun b => b < w.heap.size ∧ v.ownBlock ≠ some b) w2).alloc (fun b h => Nat.lt_of_lt_of_le h.1 hs) o)
      (Frame.of_grown (S := fun b => b < w.heap.size ∧ v.ownBlock ≠ some b) hg (fun b h => ⟨by have := h.1; simp; omega, fun e => h.2 e.symm⟩)) (fun b h => h)) (fun b h => h)
  have hx4 : Own w4 e base x l := Own.mono (roww_keep (w := w2) hx (fun b e => (hg.block b (by have := (hx.lt b e).2; simp; omega) (fun e2 => by have h1 := (hx.lt b e).1; have h3 := (hR.own.lt b e2.symm).2; omega)).trans (heap_alloc_old w2 _ (hx.lt b e).2))) (by omega)
  refine ⟨hR.push hF4 hO ?_ hx4 (fun k hk => ⟨by have := (hx.lt k hk).1; omega, fun e2 => ?_⟩), hF4⟩
  · rcases hat with h | h
    · exact .inl h
    · exact .inr ⟨_, h, by simp; omega⟩
  · rcases hat with h | h
    · rw [h] at e2; have h1 := (hx.lt k hk).1; have h3 := (hR.own.lt k e2).2; omega
    · rw [h] at e2; injection e2 with e2; have h1 := (hx.lt k hk).2; simp at e2; omega
theorem rws_below (hR : Rws w tb e base v vs ls) (hbase : base ≤ w.heap.size) (hF : Frame (fun k => k < w.heap.size ∧ v.ownBlock ≠ some k) w w4) : Below base w w4 := hF.toBelow fun k hk => ⟨by omega, fun e => by have := (hR.own.lt k e).1; omega⟩
theorem rws_ptr {Ao : Option Addr} {i co : Nat} (hR : Rws w tb e base (.slice Ao i co) vs ls) (h0 : 0 < vs.length) : ∃ ad, Ao = some ad ∧ ad.block < w.heap.size ∧ base ≤ ad.block ∧ ∀ (j : Nat) (l : List UInt8), ls[j]? = some l → ∃ A c, w.cell? (ad.add j) = some (.slice A l.length c) ∧ Rd w w.heap.size A l ∧ l.length ≤ c := by
  obtain ⟨g, off, c, hv, hgb, hgl, _⟩ := hR.own.at_ h0
  injection hv with h1 h2 h3
  refine ⟨⟨g, off, none⟩, h1, hgl, hgb, fun j l hl => ?_⟩
  obtain ⟨A, c', hA, hr, hc⟩ := hR.at_ hl
  have hj := (List.getElem?_eq_some_iff.1 hA).1
  obtain ⟨g2, off2, c2, hv2, _, _, hcell, _⟩ := hR.own.at_ hj
  injection hv2 with h4 h5 h6
  have h7 := h1.symm.trans h4
  injection h7 with h7
  refine ⟨A, c', ?_, hr, hc⟩
  rw [h7, addr_add, hcell, ← hA, List.getElem?_eq_getElem hj]
theorem rws_mono {base' : Nat} (hR : Rws w tb e base v vs ls) (h : base' ≤ base) : Rws w tb e base' v vs ls :=
  ⟨hR.own.mono fun k hk => Nat.le_trans h (hR.own.lt k hk).1, hR.len, fun i x l hx hl => (hR.row i x l hx hl).mono h, hR.off, hR.ord⟩
end
theorem take_at_rk {R : List Blk} {i p : Nat} (h : p < i) (hi : i ≤ R.length) : (R.take i)[p]? = some (rkey R p) := by
  rw [List.getElem?_take, if_pos h]
  simp [rkey, List.getD_eq_getElem?_getD, List.getElem?_eq_getElem (show p < R.length by omega)]
theorem upto_at4 {N : Nat} {new old : Blk} {i : Nat} (hn : new.length = N) (ho : old.length = N) (hi : i < N) (h : i < (upto i new old).length) : bv (upto i new old)[i] = bv (at_ old i) := by
  have h1 := uptoN_get hn ho hi
  rw [bvs_get h] at h1
  injection h1
theorem upto_set4 {N : Nat} {new old : Blk} {i : Nat} (hn : new.length = N) (ho : old.length = N) (hi : i < N) : (upto i new old).set i (at_ new i) = upto (i + 1) new old := by
  have h1 := uptoN_set hn ho hi
  unfold bvs at h1
  rw [← List.map_set] at h1
  have hinj : Function.Injective bv := fun a b h => by
    have := congrArg (fun v => match v with | .int _ n => n.toNat | _ => 0) h
    simp [bv] at this
    exact UInt8.toNat_inj.1 this
  exact (List.map_inj_right hinj).1 h1
theorem upto_len4 {N : Nat} {new old : Blk} {i : Nat} (hn : new.length = N) (ho : old.length = N) (hi : i ≤ N) : (upto i new old).length = N := by unfold upto; simp; omega
theorem own_at4 {w : World} {e : TypeId} {base g n c : Nat} {l : List UInt8} (h : Own w e base (.slice (some ⟨g, 0, none⟩) n c) l) {i : Nat} (hi : i < l.length) : w.cell? ⟨g, i, none⟩ = some (bv (at_ l i)) := by
  rw [(h.at_g hi).2.2.1]
  simp [at_, List.getD_eq_getElem?_getD, List.getElem?_eq_getElem hi]
theorem own_four {w : World} {base : Nat} (hb : base ≤ w.heap.size) (a b c d : UInt8) : Own (w.alloc (.cells #[.int .u8 ((a.toNat : Nat) : Int), .int .u8 ((b.toNat : Nat) : Int), .int .u8 ((c.toNat : Nat) : Int), .int .u8 ((d.toNat : Nat) : Int)] 5)) 5 base (.slice (some ⟨w.heap.size, 0, none⟩) 4 4) [a, b, c, d] :=
  Own.mono (rowv_own (l := [a, b, c, d]) (heap_alloc_new w _) (by simp)) hb
theorem cell_new {w : World} {a : Addr} {v : Value} (o : Obj) (h : w.cell? a = some v) : (w.alloc o).cell? a = some v := by
  have hlt : a.block < w.heap.size := by
    rcases Nat.lt_or_ge a.block w.heap.size with h' | h'
    · exact h'
    · simp [World.cell?, Array.getElem?_eq_none h'] at h
  exact (((Below.refl w.heap.size w).alloc (Nat.le_refl _) o).cell hlt).trans h
theorem src_row (w : World) (x : Value) (T : TypeId) : 0 < 1 → ∃ ad, (some ⟨w.heap.size, 0, none⟩ : Option Addr) = some ad ∧ ∀ j u, ([x] : List Value)[j]? = some u → (w.alloc (.cells #[x] T)).cell? (ad.add j) = some u := src1 w x T
theorem rd_slice {w : World} {B : Nat} {A : Option Addr} {L c lo m : Nat} {l : List UInt8} (hr : Rd w B A l) (hl : l.length = L) (hlo : lo + m ≤ L) (hm : 0 < m) (hc : L ≤ c) (hi lo' : Int) (e1 : hi = ((lo + m : Nat) : Int)) (e2 : lo' = (lo : Int)) :
    ∃ A', (∀ w' : World, (Instr.slice 22 (.slice A L c) (some (.int .i64 lo')) (some (.int .i64 hi)) none).run Try.prog w' = .ok (.slice A' m (c - lo)) w') ∧ Rd w B A' ((l.drop lo).take m) := by
  subst e1 e2
  have hu : Try.prog.underlying 22 = some (.slice (Try.prog.elem 22)) := by kernel_rfl
  have hz : ∀ w, (sizeOf (Try.prog.elem 22)).run Try.prog w = .ok 1 w := fun w => by kernel_rfl
  refine ⟨if c = lo then A else A.map (·.add lo), fun w' => ?_, (hr.drop lo (cap := c) (by omega)).take m⟩
  rw [run_slice_lh w' _ _ _ _ hu .i64 .i64 (lo : Int) ((lo + m : Nat) : Int) (by omega) (by omega) (by omega), hz, Result.andThen_ok, sliced]
  simp
  omega
end Go.Proofs.Ytcbihjcnnfohmaa.Aes
