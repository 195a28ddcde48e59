/- A digest goes on: what Write makes of it. -/
import Derived.Test.YtkgnnlglabihkaaGreatDoorShaNew
namespace Go.Proofs.YtkgnnlglabihkaaGreatDoor.Sha
open Go Go.ChangeShapes Go.WideShapes Go.ChangeAt Go.RowKit
set_option linter.unusedVariables false
set_option linter.unusedSimpArgs false

theorem getD_take {l : List UInt8} {i n : Nat} (h : i < n) : (l.take n).getD i 0 = l.getD i 0 := by
  rw [List.getD_eq_getElem?_getD, List.getD_eq_getElem?_getD, List.getElem?_take, if_pos h]
theorem word_take (l : List UInt8) (t : Nat) (h : t < 16) : word (l.take 64) t = word l t := by
  unfold word
  rw [getD_take (by omega), getD_take (by omega), getD_take (by omega), getD_take (by omega)]
theorem sched_take (l : List UInt8) (t : Nat) : sched (l.take 64) t = sched l t := by
  induction t with
  | zero => rfl
  | succ t ih =>
    rw [sched, sched, ih]
    by_cases h : t < 16
    · rw [if_pos h, if_pos h, word_take l t h]
    · rw [if_neg h, if_neg h]
theorem comp_take (h : List Nat) (l : List UInt8) : comp h (l.take 64) = comp h l := by unfold comp; rw [sched_take]
theorem blocks_succ (m : Nat) : ∀ (h : List Nat) (L : List UInt8), blocks (m+1) h L = comp (blocks m h L) (L.drop (64*m)) := by
  induction m with
  | zero => intro h L; show comp h (L.take 64) = _; rw [comp_take]; rfl
  | succ m ih =>
    intro h L
    show blocks (m+1) (comp h (L.take 64)) (L.drop 64) = comp (blocks m (comp h (L.take 64)) (L.drop 64)) _
    rw [ih, List.drop_drop]
    congr 2
    omega
theorem blocks_app (m : Nat) : ∀ (h : List Nat) (L p : List UInt8), 64 * m ≤ L.length → blocks m h (L ++ p) = blocks m h L := by
  induction m with
  | zero => intro h L p _; rfl
  | succ m ih =>
    intro h L p hl
    show blocks m (comp h ((L ++ p).take 64)) ((L ++ p).drop 64) = blocks m (comp h (L.take 64)) (L.drop 64)
    rw [List.take_append_of_le_length (by omega), List.drop_append_of_le_length (by omega), ih _ _ _ (by simp; omega)]

/-- WHERE A DIGEST IS: in block g, L written, m blocks of them taken in, the rest its own -/
structure Hst (w : World) (base g : Nat) (rv : Value) (L : List UInt8) (m N : Nat) : Prop where
  row : RowV w 156 g (u32s (blocks m hw L) ++ [rv, .int .i64 ((N : Nat) : Int)])
  own : OwnB w 5 base rv (L.drop (64*m))
  le : 64 * m ≤ L.length
  hb : base ≤ g
  ne : rv.ownBlock ≠ some g
section
variable {w w' : World} {base g : Nat} {rv : Value} {L : List UInt8} {m N : Nat}
theorem Hst.len8 (m : Nat) (L : List UInt8) : (u32s (blocks m hw L)).length = 8 := by rw [u32s_length, (blocks_eight m hw_eight L).len]
theorem get8 {a : List Value} (h : a.length = 8) (x y : Value) : (a ++ [x, y])[8]? = some x ∧ (a ++ [x, y])[9]? = some y := by
  refine ⟨?_, ?_⟩ <;> rw [List.getElem?_append_right (by omega), h] <;> rfl
theorem set8 {a : List Value} (h : a.length = 8) (x y z : Value) : (a ++ [x, y]).set 8 z = a ++ [z, y] ∧ (a ++ [x, y]).set 9 z = a ++ [x, z] := by
  refine ⟨?_, ?_⟩ <;> rw [List.set_append_right _ _ (by omega), h] <;> rfl
theorem Hst.rest (h : Hst w base g rv L m N) : w.cell? ⟨g, 8, none⟩ = some rv := h.row.cell (get8 (Hst.len8 m L) _ _).1
theorem Hst.count (h : Hst w base g rv L m N) : w.cell? ⟨g, 9, none⟩ = some (.int .i64 ((N : Nat) : Int)) := h.row.cell (get8 (Hst.len8 m L) _ _).2
theorem Hst.frame {S : Nat → Prop} (h : Hst w base g rv L m N) (hf : Frame S w w') (hg : S g) (hv : ∀ k, rv.ownBlock = some k → S k) : Hst w' base g rv L m N :=
  ⟨hf.row hg h.row, hf.own h.own hv, h.le, h.hb, h.ne⟩
theorem Hst.below {B : Nat} (h : Hst w base g rv L m N) (hb : Below B w w') (hg : g < B) (hv : ∀ k, rv.ownBlock = some k → k < B) : Hst w' base g rv L m N :=
  ⟨h.row.below hb hg, h.own.below hb hv, h.le, h.hb, h.ne⟩
theorem Hst.below_ (h : Hst w base g rv L m N) (hb : Below w.heap.size w w') : Hst w' base g rv L m N := h.below hb h.row.lt fun k hk => (h.own.lt k hk).2
theorem Hst.drewN (h : Hst w base g rv L m N) (n : Nat) : Hst (w.drewN n) base g rv L m N := ⟨h.row, h.own, h.le, h.hb, h.ne⟩
theorem Hst.drew (h : Hst w base g rv L m N) : Hst w.drew base g rv L m N := ⟨h.row, h.own, h.le, h.hb, h.ne⟩
theorem Hst.new (h : RowV w 156 g (u32s hw ++ [.slice none 0 0, .int .i64 0])) (hb : base ≤ g) : Hst w base g (.slice none 0 0) [] 0 0 :=
  ⟨h, OwnV.nil _ _ _, Nat.le_refl _, hb, by simp [Value.ownBlock]⟩
end
/-- what a write may not touch -/
def Far (w : World) (g : Nat) (rv : Value) (k : Nat) : Prop := k < w.heap.size ∧ k ≠ g ∧ rv.ownBlock ≠ some k
def New (w : World) (rv v : Value) : Prop := v.ownBlock = rv.ownBlock ∨ ∃ x, v.ownBlock = some x ∧ w.heap.size ≤ x
theorem Far.ne {w : World} {g k : Nat} {rv v : Value} (h : Far w g rv k) (hN : New w rv v) : v.ownBlock ≠ some k := by
  rcases hN with hN | ⟨x, hx, hle⟩
  · rw [hN]; exact h.2.2
  · rw [hx]; intro he; injection he with he; have := h.1; omega
theorem New.up {w w' : World} {rv v v' : Value} (h : New w rv v) (hs : w.heap.size ≤ w'.heap.size) (h' : v'.ownBlock = v.ownBlock ∨ v'.ownBlock = some w'.heap.size) : New w rv v' := by
  rcases h' with h' | h'
  · rcases h with h | ⟨x, hx, hle⟩
    · exact .inl (h'.trans h)
    · exact .inr ⟨x, h'.trans hx, hle⟩
  · exact .inr ⟨_, h', hs⟩
theorem Hst.more {w w5 : World} {base g : Nat} {rv v5 : Value} {M ql : List UInt8} {m N : Nat} (h : Hst w base g rv M m N) (hO : OwnV w5 5 base v5 (bvs (M.drop (64*m)) ++ bvs ql))
    (hr : RowV w5 156 g (u32s (blocks m hw M) ++ [rv, .int .i64 (((N : Nat) : Int) + ((ql.length : Nat) : Int))])) (hne : v5.ownBlock ≠ some g) : Hst (w5.setCell ⟨g, 8, none⟩ v5) base g v5 (M ++ ql) m (N + ql.length) := by
  refine ⟨?_, ?_, by rw [List.length_append]; have := h.le; omega, h.hb, hne⟩
  · have := hr.set 8 v5
    rw [(set8 (Hst.len8 m M) _ _ _).1] at this
    rw [blocks_app m hw M ql h.le]
    exact this
  · rw [List.drop_append_of_le_length h.le]
    unfold OwnB
    rw [bvs_append]
    exact hO.far (by exact hne) _
theorem Hst.next {w w7 : World} {base g n c m N : Nat} {A : Option Addr} {L : List UInt8} (h : Hst w base g (.slice A n c) L m N) (h64 : 64 * (m+1) ≤ L.length) (hg : w.grownBy w7 (some g))
    (hr : RowV w7 156 g (u32s (comp (blocks m hw L) (L.drop (64*m))) ++ [.slice A n c, .int .i64 ((N : Nat) : Int)])) :
    Hst (w7.setCell ⟨g, 8, none⟩ (.slice (if c = 64 then A else A.map (·.add 64)) (n - 64) (c - 64))) base g (.slice (if c = 64 then A else A.map (·.add 64)) (n - 64) (c - 64)) L (m+1) N ∧
    Value.ownBlock (.slice (if c = 64 then A else A.map (·.add 64)) (n - 64) (c - 64)) = Value.ownBlock (.slice A n c) := by
  have hblk : Value.ownBlock (.slice (if c = 64 then A else A.map (·.add 64)) (n - 64) (c - 64)) = Value.ownBlock (.slice A n c) := by
    split
    · cases A <;> rfl
    · cases A with
      | none => rfl
      | some a => simp only [Option.map_some, Value.ownBlock, add_block]
  refine ⟨⟨?_, ?_, h64, h.hb, by rw [hblk]; exact h.ne⟩, hblk⟩
  · have hl : (u32s (comp (blocks m hw L) (L.drop (64*m)))).length = 8 := by rw [← blocks_succ]; exact Hst.len8 (m+1) L
    have := hr.set 8 (.slice (if c = 64 then A else A.map (·.add 64)) (n - 64) (c - 64))
    rw [(set8 hl _ _ _).1, ← blocks_succ] at this
    exact this
  · have hd : (L.drop (64*m)).drop 64 = L.drop (64*(m+1)) := by rw [List.drop_drop]; congr 1
    have hO := (OwnV.kept h.own hg (.inr h.ne)).cut (k := 64) (by rw [bvs_length, List.length_drop]; omega)
    have hbd : (bvs (L.drop (64*m))).drop 64 = bvs (L.drop (64*(m+1))) := by rw [← hd]; simp [bvs]
    rw [hbd] at hO
    exact hO.far (by rw [hblk]; exact h.ne) _
theorem Rd.drew' {w : World} {B : Nat} {A : Option Addr} {l : List UInt8} (h : Rd w B A l) : Rd w.drew B A l := h
theorem bytes_le (ps : List Part) (k : Nat) : (bytesOf (ps.take k)).length ≤ (bytesOf ps).length := by
  have e2 : bytesOf (ps.take k ++ ps.drop k) = bytesOf (ps.take k) ++ bytesOf (ps.drop k) := by simp only [bytesOf, List.map_append, List.flatten_append]
  rw [List.take_append_drop] at e2
  rw [e2, List.length_append]
  omega
def sliceLen (v : Option Value) : Nat := match v with
  | some (.slice _ n _) => n
  | _ => 0

set_option maxRecDepth 100000 in
set_option maxHeartbeats 4000000 in
theorem write_any (g base : Nat) (rv : Value) (L : List UInt8) (A : Option Addr) (n c : Nat) (ps : List Part) (w : World) (N : Nat) (hH : Hst w base g rv L (L.length / 64) N) (hps : PartsS w (Far w g rv) A ps) (hn : ps.length = n)
    (hnm : n ≤ 9223372036854775807) (hsz : L.length + (bytesOf ps).length ≤ 70368744177664) (hN62 : N + (bytesOf ps).length ≤ 4611686018427387904) (hbase : base ≤ w.heap.size) :
    Calls Tryz.prog 70 #[.pointer (some ⟨g, 0, none⟩), .slice A n c] w fun e w' => ∃ rv', e = .returned (.tuple #[]) ∧ Hst w' base g rv' (L ++ bytesOf ps) ((L ++ bytesOf ps).length / 64) (N + (bytesOf ps).length) ∧
      (∀ x, rv'.ownBlock = some x → w.heap.size ≤ x) ∧ Frame (Far w g rv) w w' := by
  subst hn
  have hi : (Tryz.prog.info? 157).map (·.size) = some (u32s kw).toArray.size := by rw [kwA_size]; kernel_rfl
  have hone : (u32s kw).toArray.all (·.oneCell') = true := by kernel_rfl
  have HI := Lib.hid hi
  have HO := Lib.hid hone
  clear hi hone
  go_enter Tryz.func70, Tryz.ntmps70
  go_wp2_with (first
    | (go_at_call 86; refine (words_any _).mono ?_; rintro e w1 ⟨rfl, hb1⟩; have HN := Lib.hid (heap_alloc_new w1 (.cells (u32s (List.replicate 64 0)).toArray 157)))
    | (refine wpList_store_row rfl 157 (.tmp 4) (.tmp 7) rfl w1.heap.size (u32s kw).toArray rfl rfl 157 (u32s (List.replicate 64 0)).toArray HN.out HI.out rfl HO.out ?_))
  have hk0 : RowV ((w1.alloc (.cells (u32s (List.replicate 64 0)).toArray 157)).setRow w1.heap.size (u32s kw).toArray) 157 w1.heap.size (u32s kw) := setRow_heap _ _ _ _ _ _ HN.out
  have hb0 : Below w.heap.size w ((w1.alloc (.cells (u32s (List.replicate 64 0)).toArray 157)).setRow w1.heap.size (u32s kw).toArray) := below_setRow_ (hb1.alloc hb1.size _) hb1.size _
  have hkb := hb1.size
  change Code.wp _ _ _ _ ((w1.alloc (.cells (u32s (List.replicate 64 0)).toArray 157)).setRow w1.heap.size (u32s kw).toArray)
  generalize World.setRow _ _ _ = W0 at hk0 hb0 ⊢
  generalize w1.heap.size = kb at hkb hk0 ⊢
  have hH0 := hH.below_ hb0
  have hF0 : Frame (Far w g rv) w W0 := Frame.of_below hb0 (fun k hk => hk.1)
  have hN0 : New w rv rv := .inl rfl
  have hkn0 : rv.ownBlock ≠ some kb := fun h => by have := (hH.own.lt kb h).2; omega
  have hgl := hH.row.lt
  have hkg : kb ≠ g := by omega
  have e0 : L ++ bytesOf (ps.take 0) = L := by simp [bytesOf]
  have hH0' : Hst W0 base g rv (L ++ bytesOf (ps.take 0)) ((L ++ bytesOf (ps.take 0)).length / 64) (N + (bytesOf (ps.take 0)).length) := by rw [e0]; exact hH0
  have HOLD := Lib.hid hH.own
  clear hb1 hb0 HN hH0 e0 hH
  go_loopw [10] (fun i wr => ∃ k rvk, k ≤ ps.length ∧ i = .int .i64 ((k : Nat) : Int) ∧ Hst wr base g rvk (L ++ bytesOf (ps.take k)) ((L ++ bytesOf (ps.take k)).length / 64) (N + (bytesOf (ps.take k)).length) ∧ RowV wr 157 kb (u32s kw) ∧ Frame (Far w g rv) w wr ∧ New w rv rvk ∧ rvk.ownBlock ≠ some kb) (fun i _ => ps.length - (intOf i).toNat)
  case atStart => exact ⟨0, rv, by omega, rfl, hH0', hk0, hF0, hN0, hkn0⟩
  case round =>
    obtain ⟨k, rvk, hk, rfl, hHk, hkk, hFk, hNk, hkn⟩ := hrel
    clear hH0' hk0 hF0 hN0 hkn0
    by_cases hlt : k < ps.length
    · have hpf := hps.frame hFk
      obtain ⟨ad, rfl, hadS, hcell⟩ := hpf.at_ (by omega)
      have hck := hcell k hlt
      obtain ⟨hpl, hpc, hpm, hpr⟩ := hpf.part ps[k] (List.getElem_mem hlt)
      have hst := bytesOf_step ps k hlt
      have hle := bytes_le ps (k+1)
      rw [hst, List.length_append] at hle
      have hcn : N + (bytesOf (ps.take (k+1))).length = (N + (bytesOf (ps.take k)).length) + ps[k].l.length := by rw [hst, List.length_append]; omega
      have hcb : N + (bytesOf (ps.take k)).length + ps[k].l.length ≤ 4611686018427387904 := by omega
      have hst2 : L ++ bytesOf (ps.take (k+1)) = (L ++ bytesOf (ps.take k)) ++ ps[k].l := by rw [hst, List.append_assoc]
      have hlen : (L ++ bytesOf (ps.take k)).length + ps[k].l.length ≤ 70368744177664 := by rw [List.length_append]; omega
      generalize L ++ bytesOf (ps.take k) = M at *
      generalize N + (bytesOf (ps.take k)).length = NK at *
      have HCN := Lib.hid hcn
      clear hcn
      have HST := Lib.hid hst2
      unfold Part.val at hck
      generalize ps[k] = q at *
      obtain ⟨qA, qn, qc, ql⟩ := q
      dsimp only at hck hpl hpc hpm hpr hst2 hlen hle HST HCN hcb
      subst hpl
      have hc8 := hHk.rest
      have hc9 := hHk.count
      have hf8 := hHk.row.frozen 8
      have hf9 := hHk.row.frozen 9
      have hgk := hHk.row.lt
      have hHH := Lib.hid hHk
      have hKK := Lib.hid hkk
      have HPR := Lib.hid hpr
      have HFK := Lib.hid hFk
      clear hst hst2 hle hpf hcell hHk hkk hpr hFk
      have hwr4 := hHH.out.row.set 9 (.int .i64 (((NK : Nat) : Int) + ((ql.length : Nat) : Int)))
      rw [(set8 (Hst.len8 (M.length / 64) M) _ _ _).2] at hwr4
      have hO4 : OwnV (wr.setCell ⟨g, 9, none⟩ (.int .i64 (((NK : Nat) : Int) + ((ql.length : Nat) : Int)))) 5 base rvk (bvs (M.drop (64*(M.length/64)))) := hHH.out.own.far hHH.out.ne _
      have hF4 := HFK.out.setCell (p := ⟨g, 9, none⟩) (fun h => h.2.1 rfl) (.int .i64 (((NK : Nat) : Int) + ((ql.length : Nat) : Int)))
      have hP4 := HPR.out.frame ((Frame.refl (Far w g rv) wr).setCell (p := ⟨g, 9, none⟩) (fun h => h.2.1 rfl) (.int .i64 (((NK : Nat) : Int) + ((ql.length : Nat) : Int))))
      have hK4 := hKK.out.far (p := ⟨g, 9, none⟩) hkg (.int .i64 (((NK : Nat) : Int) + ((ql.length : Nat) : Int)))
      generalize hw4 : wr.setCell ⟨g, 9, none⟩ (.int .i64 (((NK : Nat) : Int) + ((ql.length : Nat) : Int))) = w4 at hwr4 hO4 hF4 hP4 hK4
      have HW4 := Lib.hid hw4
      have hdl : (bvs (M.drop (64*(M.length/64)))).length + ql.length ≤ 140737488355328 := by rw [bvs_length, List.length_drop]; omega
      have HDL := Lib.hid hdl
      have HP4 := Lib.hid (hP4.rd (B := w.heap.size) (fun k hk => hk.1)).news
      clear hw4 hdl hP4
      go_wp2_with (with_reducible refine at_slot 29 ?_
                   rw [HW4.out]
                   refine wpList_append_v u8.el rfl (.tmp 27) (.tmp 28) rfl base rvk (bvs (M.drop (64*(M.length/64)))) qA ql.length qc (bvs ql) rfl rfl hO4 (bvs_length _) (HP4.out _ rfl) (bvs_one _) (by have := HDL.out; omega) HDL.out (Nat.le_trans hbase hF4.size) ?_
                   intro v5 w5 hO5 hg5 hat5
                   obtain ⟨A5, c5, rfl, _, _, _⟩ := hO5.len
                   have hr5 := hwr4.grown hg5 hHH.out.ne
                   have hK5 := hK4.grown hg5 hkn
                   have hF5 := hF4.trans (Frame.of_grown (S := Far w g rv) hg5 (fun k hk => ⟨Nat.lt_of_lt_of_le hk.1 hF4.size, fun e => hk.ne hNk e.symm⟩)) (fun _ h => h)
                   have hN5 := hNk.up hF4.size hat5
                   have hne5 : Value.ownBlock (.slice A5 (bvs (M.drop (64*(M.length/64))) ++ bvs ql).length c5) ≠ some g := by
                     rcases hat5 with h | h
                     · rw [h]; exact hHH.out.ne
                     · rw [h]; intro he; injection he with he; have := hwr4.lt; omega
                   have hkn5 : Value.ownBlock (.slice A5 (bvs (M.drop (64*(M.length/64))) ++ bvs ql).length c5) ≠ some kb := by
                     rcases hat5 with h | h
                     · rw [h]; exact hkn
                     · rw [h]; intro he; injection he with he; have := hK4.lt; omega
                   have hH5 := hHH.out.more hO5 hr5 hne5
                   have c85 := hr5.cell (get8 (Hst.len8 (M.length/64) M) _ _).1
                   have f85 := hr5.frozen 8
                   have HR5 := Lib.hid hr5
                   clear hO5 hg5 hat5 hr5)
      simp only [List.length_append] at hH5 hN5 hne5 hkn5
      generalize hv5 : Value.slice A5 ((bvs (M.drop (64*(M.length/64)))).length + (bvs ql).length) c5 = v5 at hH5 hN5 hne5 hkn5 ⊢
      have hF6 := hF5.setCell (p := ⟨g, 8, none⟩) (fun h => h.2.1 rfl) v5
      have hK6 := hK5.far (p := ⟨g, 8, none⟩) hkg v5
      generalize w5.setCell ⟨g, 8, none⟩ v5 = w6 at hH5 hF6 hK6 ⊢
      clear hv5 hwr4 hO4 hF4 hK4 HW4 HP4 HR5 c85 f85 hc8 hc9 hf8 hf9 hF5 hK5 hck HPR
      have hMl : (M ++ ql).length ≤ 70368744177664 := by rw [List.length_append]; exact hlen
      generalize M ++ ql = L2 at *
      obtain ⟨wo, rfl⟩ : ∃ wo : World, wo = wr := ⟨_, rfl⟩
      go_loopw [32] (fun _ wx => ∃ m vx, Hst wx base g vx L2 m (NK + ql.length) ∧ RowV wx 157 kb (u32s kw) ∧ Frame (Far w g rv) w wx ∧ New w rv vx ∧ vx.ownBlock ≠ some kb) (fun _ wx => sliceLen (wx.cell? ⟨g, 8, none⟩))
      case atStart => exact ⟨_, v5, hH5, hK6, hF6, hN5, hkn5⟩
      case round =>
        obtain ⟨m, vx, hx, hkx, hFx, hNx, hknx⟩ := hrel
        clear hH5 hK6 hF6 hN5 hkn5 hne5
        obtain ⟨A6, c6, rfl, hRd, hnc⟩ := hx.own.form
        have hrest := hx.rest
        have hdl := List.length_drop (i := 64*m) (l := L2)
        have hle := hx.le
        have HX := Lib.hid hx
        have HKX := Lib.hid hkx
        have HFX := Lib.hid hFx
        have HRD := Lib.hid hRd
        have h8 := blocks_eight m hw_eight L2
        have hcm := hx.own.len
        obtain ⟨_, _, hcm1, hcm2, hcm3, _⟩ := hcm
        injection hcm1 with hcm4 hcm5 hcm6
        subst hcm6
        clear hx hkx hFx hRd hcm4 hcm5 hcm2
        by_cases h64 : 64 ≤ (L2.drop (64*m)).length
        · have hxg := HX.out.row.lt
          obtain ⟨ad6, rfl, -, -⟩ := HRD.out (by omega)
          generalize hRe : L2.drop (64*m) = R at *
          have HRE := Lib.hid hRe
          have j0 : (64 : Int) ≤ (R.length : Int) := by omega
          have j1 : (R.length : Int) ≤ (c6 : Int) := by omega
          have j2 : (64 : Int) ≤ (c6 : Int) := by omega
          clear hRe hdl
          go_wp2_with fail
          refine wp_region_still_tail 7 (by kernel_rfl) (by kernel_rfl) ?_
          change wpStill _ _ (World.drew wr) (fun a' => wpList _ _ _ _ a' (World.drew wr)) _ _
          simp only [List.take_succ_cons, List.take_zero, List.drop_succ_cons, List.drop_zero]
          repeat still_step
          refine wpStill_nil ?_
          go_wp2_with fail
          refine (block_any g kb 156 (blocks m hw L2) [.slice (some ad6) R.length c6, .int .i64 (((NK + ql.length : Nat)) : Int)] (some ad6) R.length c6 R _ wr.heap.size h8 (by have := HX.out.row.drew; exact this) HKX.out.drew hkg (Nat.le_refl _) (by have := HRD.out; exact this) rfl h64 hnc (by omega)).mono ?_
          rintro e w7 ⟨rfl, hr7, hg7⟩
          have hg7' : wr.grownBy w7 (some g) := ⟨hg7.os, hg7.tape, hg7.output, hg7.size, hg7.block⟩
          have hl7 : (u32s (comp (blocks m hw L2) R)).length = 8 := by rw [u32s_length, (comp_eight h8 R).len]
          have c87 := hr7.cell (get8 hl7 _ _).1
          have f87 := hr7.frozen 8
          obtain ⟨hnx, hob⟩ := HX.out.next (by have := HRE.out; have h9 := congrArg List.length this; rw [List.length_drop] at h9; omega) hg7' (by rw [HRE.out]; exact hr7)
          have hF7 := HFX.out.trans (Frame.of_grown (S := Far w g rv) hg7' (fun k hk => ⟨Nat.lt_of_lt_of_le hk.1 HFX.out.size, fun e => hk.2.1 (by injection e)⟩)) (fun _ h => h)
          have hK7 := HKX.out.grown hg7' (by intro he; injection he with he; exact hkg he.symm)
          have HL7 := Lib.hid hl7
          have HR7 := Lib.hid hr7
          clear hl7 hr7 hg7 hg7'
          by_cases hc64 : c6 = 64
          · subst hc64
            rw [if_pos rfl, show R.length - 64 = 0 by omega, Nat.sub_self] at hnx hob
            have HNX := Lib.hid hnx
            have HOB := Lib.hid hob
            have hrn := hnx.rest
            have HRN := Lib.hid hrn
            clear hnx hob hrn
            go_wp2_with fail
            go_roundw
            case rel => exact ⟨m + 1, _, HNX.out, hK7.far (p := ⟨g, 8, none⟩) hkg _, hF7.setCell (p := ⟨g, 8, none⟩) (fun h => h.2.1 rfl) _, by unfold New; rw [HOB.out]; exact hNx, by rw [HOB.out]; exact hknx⟩
            case measure => rw [HRN.out, hrest]; simp only [sliceLen]; omega
          · rw [if_neg hc64, Option.map_some, show ad6.add 64 = ⟨ad6.block, ad6.off + 64, none⟩ from rfl] at hnx hob
            have HNX := Lib.hid hnx
            have HOB := Lib.hid hob
            have hrn := hnx.rest
            have HRN := Lib.hid hrn
            have hcf : (c6 = 64) = False := by simp [hc64]
            clear hnx hob hrn hc64
            go_wp2_with fail
            go_roundw
            case rel => exact ⟨m + 1, _, HNX.out, hK7.far (p := ⟨g, 8, none⟩) hkg _, hF7.setCell (p := ⟨g, 8, none⟩) (fun h => h.2.1 rfl) _, by unfold New; rw [HOB.out]; exact hNx, by rw [HOB.out]; exact hknx⟩
            case measure => rw [HRN.out, hrest]; simp only [sliceLen]; omega
        · have hmm : m = L2.length / 64 := by rw [List.length_drop] at h64; omega
          subst hmm
          go_wp2_with fail
          go_roundw
          case rel => exact ⟨k + 1, _, by omega, by go_num, by rw [HST.out, HCN.out]; exact HX.out, HKX.out, HFX.out, hNx, hknx⟩
          case measure => simp [intOf]; omega
    · have hkl : k = ps.length := by omega
      subst hkl
      rw [List.take_length] at hHk
      generalize hM : L ++ bytesOf ps = M at *
      have HM := Lib.hid hM
      clear hM
      obtain ⟨A6, c6, rfl, hRd, hnc⟩ := hHk.own.form
      have hrest := hHk.rest
      have hf8 := hHk.row.frozen 8
      have hdl : (M.drop (64*(M.length/64))).length ≤ 64 := by rw [List.length_drop]; omega
      generalize hR : M.drop (64*(M.length/64)) = R at *
      have HRe := Lib.hid hR
      have HH := Lib.hid hHk
      have HF := Lib.hid hFk
      clear hR hHk hkk hFk hNk hkn
      go_wp2_with (go_at_call 88
                   refine (sclone_any A6 R.length c6 R wr wr.heap.size (Nat.le_refl _) rfl (by omega) hRd).mono ?_
                   rintro e w7 ⟨v7, rfl, hO7, hb7⟩
                   obtain ⟨A7, c7, rfl, _, _⟩ := hO7.form
                   have hr7 := HH.out.row.below hb7 HH.out.row.lt
                   have c87 := hr7.cell (get8 (Hst.len8 (M.length/64) M) _ _).1
                   have f87 := hr7.frozen 8
                   have HR7 := Lib.hid hr7
                   have HO7 := Lib.hid hO7
                   have HB7 := Lib.hid hb7
                   clear hr7 hO7 hb7)
      go_end0
      have hlt7 := (HO7.out).lt
      have hne7 : Value.ownBlock (.slice A7 R.length c7) ≠ some g := fun h => by have := (hlt7 g h).1; have := HH.out.row.lt; omega
      rw [HM.out]
      refine ⟨_, rfl, ⟨?_, ?_, HH.out.le, HH.out.hb, hne7⟩, fun x hx => Nat.le_trans HF.out.size (hlt7 x hx).1, ((HF.out.trans (Frame.of_below HB7.out (fun k hk => Nat.lt_of_lt_of_le hk.1 HF.out.size)) (fun _ h => h)).setCell (p := ⟨g, 8, none⟩) (fun h => h.2.1 rfl) _)⟩
      · have := HR7.out.set 8 (.slice A7 R.length c7)
        rw [(set8 (Hst.len8 (M.length/64) M) _ _ _).1] at this
        exact this
      · rw [HRe.out]
        exact ((HO7.out).b.mono (fun x hx => Nat.le_trans (Nat.le_trans hbase HF.out.size) (hlt7 x hx).1)).far hne7 _
end Go.Proofs.YtkgnnlglabihkaaGreatDoor.Sha
