/- The document's queues: Drop, Next. Contracts. -/
import Derived.Test.YtjlmgniachdfgaaSlRefP
namespace Go.Proofs.Ytjlmgniachdfgaa.Slots
open Go Go.ChangeShapes Go.WideShapes Go.ChangeAt Go.RowKit
set_option linter.unusedVariables false
set_option linter.unusedSimpArgs false

def dropX (X : List It) (t : Int) : List It := X.filter fun x => !decide ((x.1 : Int) = t)
theorem dropX_step (X : List It) (t : Int) (i : Nat) (h : i < X.length) : dropX (X.take (i + 1)) t = if (X[i].1 : Int) = t then dropX (X.take i) t else dropX (X.take i) t ++ [X[i]] := by
  unfold dropX
  rw [List.take_succ_eq_append_getElem h, List.filter_append]
  by_cases e : (X[i].1 : Int) = t
  · rw [if_pos e]; simp [List.filter_cons, e]
  · rw [if_neg e]; simp [List.filter_cons, e]
theorem dropX_le (X : List It) (t : Int) : (dropX X t).length ≤ X.length := List.length_filter_le _ _
/-- another row of items, in new blocks -/
theorem DcX.swap {w w' : World} {base g n K : Nat} {dom : Nat → Prop} {v : Value} {X : List It} (h : DcX w base dom g n K v X) {v' : Value} {Y : List It} (hb : Below w.heap.size w w')
    (hO : w'.ownsRow w.heap.size 62 2 v' Y.length (cellsOf Y)) (hY : ∀ y ∈ Y, y ∈ X) (hbase : base ≤ w.heap.size) :
    DcX (w'.setCell ⟨g, 0, none⟩ v') base (fun k => dom k ∨ (w.heap.size ≤ k ∧ k < w'.heap.size)) g n K v' Y := by
  have hglt := (h.lt g h.dg).2
  have hv' : ∀ k, v'.ownBlock = some k → w.heap.size ≤ k ∧ k < w'.heap.size := fun k e => World.ownsRow.lt hO k e
  have hk : ∀ k, k ≠ g → (w'.setCell ⟨g, 0, none⟩ v').heap[k]? = w'.heap[k]? := fun k hk => heap_setCell_other w' ⟨g, 0, none⟩ k _ hk
  have hsz : (w'.setCell ⟨g, 0, none⟩ v').heap.size = w'.heap.size := by simp
  have hs := hb.size
  refine ⟨(h.obj.keep (hb.block g hglt)).set 0 v', roww_mono (roww_keep hO (fun k e => hk k (by have := hv' k e; omega))) (fun k e => by have := hv' k e; omega), fun x hx => ?_, fun x hx => h.rng x (hY x hx), .inl h.dg, fun k e => ⟨.inr (hv' k e), by have := hv' k e; omega⟩, fun x hx k e => ?_, fun k hk' => ?_⟩
  · refine own_keep (h.item x (hY x hx)) (fun k e => ?_)
    obtain ⟨d1, d2, _⟩ := h.di x (hY x hx) k e
    exact (hk k d2).trans (hb.block k (h.lt k d1).2)
  · obtain ⟨d1, d2, _⟩ := h.di x (hY x hx) k e
    exact ⟨.inl d1, d2, fun e2 => by have := hv' k e2; have := (h.lt k d1).2; omega⟩
  · rw [hsz]
    rcases hk' with hk' | hk'
    · exact ⟨(h.lt k hk').1, by have := (h.lt k hk').2; omega⟩
    · exact ⟨by omega, hk'.2⟩
/-- the next slot -/
theorem DcX.turn {w : World} {base g n K : Nat} {dom : Nat → Prop} {v : Value} {X : List It} (h : DcX w base dom g n K v X) {K' : Nat} : DcX (w.setCell ⟨g, 2, none⟩ (.int .i64 (K' : Int))) base dom g n K' v X := by
  have hk : ∀ k, k ≠ g → (w.setCell ⟨g, 2, none⟩ (.int .i64 (K' : Int))).heap[k]? = w.heap[k]? := fun k hk => heap_setCell_other w ⟨g, 2, none⟩ k _ hk
  exact ⟨h.obj.set 2 _, roww_keep h.row (fun k e => hk k (h.dv k e).2), fun x hx => own_keep (h.item x hx) (fun k e => hk k (h.di x hx k e).2.1), h.rng, h.dg, h.dv, h.di, fun k hd => ⟨(h.lt k hd).1, by simpa using (h.lt k hd).2⟩⟩
theorem DcX.val {w : World} {base g n K : Nat} {dom : Nat → Prop} {v : Value} {X : List It} (h : DcX w base dom g n K v X) {i : Nat} (hi : i < X.length) : ∃ A c, X[i].2.1 = .slice A X[i].2.2.length c ∧ Rd w w.heap.size A X[i].2.2 := by
  obtain ⟨A, c, e, hr, _⟩ := (h.item X[i] (List.getElem_mem hi)).form
  exact ⟨A, c, e, hr⟩
/-- what Drop leaves -/
def RDrop (w w' : World) (base : Nat) (dom : Nat → Prop) (g n K : Nat) (X : List It) (t : Int) : Prop :=
  ∃ dom', Dc w' base dom' g n K (dropX X t) ∧ Frame (fun k => k < w.heap.size ∧ ¬ dom k) w w' ∧ (∀ k, dom' k → dom k ∨ w.heap.size ≤ k)
theorem cells_one (x : It) : cellsOf [x] = [.int .i64 (x.1 : Int), x.2.1] := rfl
set_option maxRecDepth 100000 in
set_option maxHeartbeats 2000000 in
theorem refdrop_any (base : Nat) (dom : Nat → Prop) (g n K : Nat) (X : List It) (t : Int) (w : World) (hX : X.length ≤ 1000) (h : Dc w base dom g n K X) (hbase : base ≤ w.heap.size) :
    Calls Try.prog 20 #[.pointer (some ⟨g, 0, none⟩), .int .i64 t] w fun e w' => e = .returned (.int .i64 (cntX X t : Int)) ∧ RDrop w w' base dom g n K X t := by
  have HC := Lib.hid (refcount_any base dom g n K X t w hX h)
  obtain ⟨v, hx⟩ := h
  obtain ⟨A, c, hv, hmc⟩ := hx.form
  have c0 := hx.obj.cell (i := 0) rfl
  have hgl := hx.obj.lt
  obtain ⟨m, hm⟩ : ∃ m, X.length = m := ⟨_, rfl⟩
  rw [hm] at hv hX
  subst hv
  have HX := Lib.hid hx
  have HM := Lib.hid hm
  have HB := Lib.hid hbase
  have hN := World.ownsRow_nil w w.heap.size 62 2
  have HN := Lib.hid hN
  generalize hcq : cntX X t = cq at *
  clear hx hm hmc hbase hN hcq
  go_enter Try.func20, Try.ntmps20
  go_wp2_with fail
  refine HC.out.mono ?_
  rintro e w1 ⟨rfl, rfl⟩
  go_wp2_with fail
  go_loopw [6, 7] (fun o i wr => ∃ (k : Nat), k ≤ m ∧ i = .int .i64 (k : Int) ∧ wr.ownsRow w.heap.size 62 2 o (dropX (X.take k) t).length (cellsOf (dropX (X.take k) t)) ∧ Below w.heap.size w wr) (fun _ i _ => m - (intOf i).toNat)
  case atStart => exact ⟨0, by omega, rfl, HN.out, Below.refl _ _⟩
  case round =>
    obtain ⟨k, hk, rfl, hO, hb⟩ := hrel
    have y0 := (hb.cell (p := ⟨g, 0, none⟩) hgl).trans c0
    have HO := Lib.hid hO
    have HBR := Lib.hid hb
    have hzr := hb.size
    clear hO hb
    by_cases hlt : k < m
    · have hkX : k < X.length := by rw [HM.out]; exact hlt
      obtain ⟨gr, rfl, hgr, x0, x1⟩ := HX.out.at_ hkX
      have y1 := (HBR.out.cell (p := ⟨gr, k * 2, none⟩) hgr).trans x0
      have y2 := (HBR.out.cell (p := ⟨gr, k * 2 + 1, none⟩) hgr).trans x1
      obtain ⟨Ax, cx, hxv, _⟩ := HX.out.val hkX
      have HST := Lib.hid (dropX_step X t k hkX)
      have HLE := Lib.hid (show (dropX (X.take k) t).length ≤ k from Nat.le_trans (dropX_le _ _) (by rw [List.length_take]; omega))
      rw [hxv] at y2
      obtain ⟨ml, hml⟩ : ∃ ml, X[k].2.2.length = ml := ⟨_, rfl⟩
      rw [hml] at y2 hxv
      have HC1 := Lib.hid (show cellsOf [X[k]] = [.int .i64 (X[k].1 : Int), .slice Ax ml cx] by rw [cells_one, hxv])
      clear hxv hml x0 x1
      obtain ⟨z, hz⟩ : ∃ z, X[k] = z := ⟨_, rfl⟩
      rw [hz] at y1 HC1
      rw [hz] at HST
      obtain ⟨xt, hxt⟩ : ∃ xt, z.1 = xt := ⟨_, rfl⟩
      rw [hxt] at y1 HC1 HST
      clear hz hxt hgr
      generalize dropX (X.take k) t = Y at *
      by_cases e : (xt : Int) = t
      · have hs2 : dropX (X.take (k + 1)) t = Y := by have := HST.out; rw [if_pos e] at this; exact this
        have HS2 := Lib.hid hs2
        clear HST hs2
        subst e
        go_wp2_with fail
        go_roundw
        case rel => exact ⟨k + 1, by omega, by go_num, by rw [HS2.out]; exact HO.out, HBR.out⟩
        case measure => simp [intOf] <;> omega
      · have hs2 : dropX (X.take (k + 1)) t = Y ++ [z] := by have := HST.out; rw [if_neg e] at this; exact this
        have HS2 := Lib.hid hs2
        clear HST hs2
        go_wp2_with (with_reducible refine at_slot 39 ?_
                     refine wpList_append_w eitem (by rfl) (.tmp 30) (.tmp 38) rfl w.heap.size _ Y.length (cellsOf Y) (some ⟨wr.heap.size, 0, none⟩) 1 1 [.int .i64 (xt : Int), .slice Ax ml cx] rfl rfl (roww_keep HO.out (fun b e => heap_alloc_old wr _ (World.ownsRow.lt HO.out b e).2)) rfl (src_two wr _ _ _) (by intro u hu; simp only [List.mem_cons, List.not_mem_nil, or_false] at hu; rcases hu with rfl | rfl; rfl; exact slice_one _ _ _) (by have := HLE.out; omega) (by have := HLE.out; omega) (by simp; omega) ?_
                     intro v5 w5 hO5 hg5 hat5
                     have hb5 := (HBR.out.alloc hzr _).grown hg5 (by simp; omega) (fun b e => by have := (World.ownsRow.lt HO.out b e).1; omega)
                     have HO5 := Lib.hid hO5
                     have HB5 := Lib.hid hb5
                     clear hO5 hg5 hat5 hb5)
        go_roundw
        case rel => exact ⟨k + 1, by omega, by go_num, by rw [HS2.out, List.length_append, List.length_singleton, cellsOf_app, HC1.out]; exact HO5.out, HB5.out⟩
        case measure => simp [intOf] <;> omega
    · obtain rfl : k = m := by omega
      have hall : X.take k = X := List.take_of_length_le (by rw [HM.out]; exact Nat.le_refl _)
      rw [hall] at HO
      obtain ⟨Ao, co, hov, _⟩ := roww_len HO.out
      obtain ⟨mo, hmo⟩ : ∃ mo, (dropX X t).length = mo := ⟨_, rfl⟩
      rw [hmo] at hov
      subst hov
      have hsw := HX.out.swap (Y := dropX X t) HBR.out HO.out (fun y hy => (List.mem_filter.1 hy).1) HB.out
      have fz := (HX.out.obj.keep (HBR.out.block g hgl)).frozen 0
      have HSW := Lib.hid hsw
      clear hsw hall hmo HC
      go_wp2_with fail
      go_ret
      refine ⟨rfl, _, ⟨_, HSW.out⟩, ?_, fun b hb => hb.elim .inl (fun h => .inr h.1)⟩
      exact (Frame.of_below HBR.out (fun b hb => hb.1)).setCell (fun hb => hb.2 HX.out.dg) _
/-! ### Next -/
theorem islice_to (gr m c i : Nat) (hi : i ≤ c) (w : World) : (Instr.slice 45 (.slice (some ⟨gr, 0, none⟩) m c) none (some (.int .i64 (i : Int))) none).run Try.prog w = .ok (.slice (some ⟨gr, 0, none⟩) i c) w := by
  have hu : Try.prog.underlying 45 = some (.slice (Try.prog.elem 45)) := by kernel_rfl
  have hz : (sizeOf (Try.prog.elem 45)).run Try.prog w = .ok 2 w := by kernel_rfl
  rw [run_slice_h w _ _ _ _ hu .i64 (i : Int) (by omega) (by omega), hz, Result.andThen_ok, sliced, Int.toNat_natCast, Nat.sub_zero, Nat.sub_zero]
  split
  · rfl
  · rw [Option.map_some, addr_add]
theorem islice_from (gr m c i : Nat) (hi : i ≤ m) (hm : m ≤ c) : ∃ A', (0 < m - i → A' = some ⟨gr, i * 2, none⟩) ∧ ∀ w : World, (Instr.slice 45 (.slice (some ⟨gr, 0, none⟩) m c) (some (.int .i64 (i : Int))) none none).run Try.prog w = .ok (.slice A' (m - i) (c - i)) w := by
  refine ⟨if c = i then some ⟨gr, 0, none⟩ else some ⟨gr, i * 2, none⟩, fun h => if_neg (by omega), fun w => ?_⟩
  have hu : Try.prog.underlying 45 = some (.slice (Try.prog.elem 45)) := by kernel_rfl
  have hz : (sizeOf (Try.prog.elem 45)).run Try.prog w = .ok 2 w := by kernel_rfl
  rw [run_slice_l w _ _ _ _ hu .i64 (i : Int) (by omega) (by omega), hz, Result.andThen_ok, sliced, Int.toNat_natCast, Option.map_some, addr_add, Nat.zero_add]
theorem cells_take (X : List It) (i : Nat) (h : i ≤ X.length) : cellsOf (X.take i) = (cellsOf X).take (i * 2) := by
  have hl : (cellsOf (X.take i)).length = i * 2 := by rw [cellsOf_len, List.length_take]; omega
  conv => rhs; rw [cellsOf_split X i]
  rw [← hl, List.take_left]
theorem cells_drop (X : List It) (i : Nat) (h : i ≤ X.length) : cellsOf (X.drop i) = (cellsOf X).drop (i * 2) := by
  have hl : (cellsOf (X.take i)).length = i * 2 := by rw [cellsOf_len, List.length_take]; omega
  conv => rhs; rw [cellsOf_split X i]
  rw [← hl, List.drop_left]
theorem DcX.cell {w : World} {base g n K m c gr : Nat} {dom : Nat → Prop} {X : List It} (h : DcX w base dom g n K (.slice (some ⟨gr, 0, none⟩) m c) X) (h0 : 0 < X.length) : ∀ j u, (cellsOf X)[j]? = some u → w.cell? ⟨gr, j, none⟩ = some u := by
  obtain ⟨gr', c', hv, _, _, _, _, hc⟩ := roww_at h.row h0
  injection hv with hv _ _
  injection hv with hv
  injection hv with hv
  subst hv
  exact hc
theorem DcX.one {w : World} {base g n K : Nat} {dom : Nat → Prop} {v : Value} {X Y : List It} (h : DcX w base dom g n K v X) (hY : ∀ y ∈ Y, y ∈ X) : ∀ u ∈ cellsOf Y, u.oneCell' = true := by
  intro u hu
  unfold cellsOf at hu
  rw [List.mem_flatMap] at hu
  obtain ⟨y, hy, hu⟩ := hu
  simp only [List.mem_cons, List.not_mem_nil, or_false] at hu
  rcases hu with rfl | rfl
  · rfl
  · obtain ⟨A, c, e, _, _⟩ := (h.item y (hY y hy)).form
    rw [e]; exact slice_one _ _ _
theorem rd_own {w : World} {base m c : Nat} {A : Option Addr} {l : List UInt8} (h : Own w 5 base (.slice A m c) l) : Rd w w.heap.size A l := by
  obtain ⟨A', c', e, hr, _⟩ := h.form
  injection e with e1 e2 e3
  subst e1
  exact hr
/-- what Next leaves -/
def RNext (w w' : World) (base : Nat) (dom : Nat → Prop) (g n K : Nat) (X : List It) (i : Nat) (A : Option Addr) (m c : Nat) : Prop :=
  ∃ dom', Dc w' base dom' g n K (X.take i ++ X.drop (i + 1)) ∧ Frame (fun k => k < w.heap.size ∧ ¬ dom k) w w' ∧ (∀ k, dom' k → dom k ∨ w.heap.size ≤ k) ∧ m = ((X[i]?.map (·.2.2)).getD []).length ∧ m ≤ c ∧ Rd w' w'.heap.size A ((X[i]?.map (·.2.2)).getD [])
set_option maxRecDepth 100000 in
set_option maxHeartbeats 2000000 in
theorem refnext_any (base : Nat) (dom : Nat → Prop) (g n K : Nat) (X : List It) (w : World) (h1 : 1 ≤ n) (hn : n ≤ 64) (hK : K ≤ 1000000) (hX : X.length ≤ 1000) (h : Dc w base dom g n K X) (hbase : base ≤ w.heap.size)
    (i : Nat) (hi : i ≤ X.length) (hlt : ∀ j (h : j < X.length), j < i → X[j].1 ≠ turnOf n K) (hat : ∀ h : i < X.length, X[i].1 = turnOf n K) :
    Calls Try.prog 18 #[.pointer (some ⟨g, 0, none⟩)] w fun e w' => ∃ A m c, e = .returned (.tuple #[.int .i64 (K : Int), .int .i64 (turnOf n K : Int), .slice A m c, .bool (decide (i < X.length))]) ∧ RNext w w' base dom g n (K + 1) X i A m c := by
  obtain ⟨v, hx0⟩ := h
  obtain ⟨A, c, hv, hmc⟩ := hx0.form
  have hx := hx0.turn (K' := K + 1)
  rw [show (((K + 1 : Nat)) : Int) = (K : Int) + 1 by push_cast; rfl] at hx
  have b2 := hx0.obj.cell (i := 2) rfl
  have bf := hx0.obj.frozen 2
  have hF1 : Frame (fun k => k < w.heap.size ∧ ¬ dom k) w (w.setCell ⟨g, 2, none⟩ (.int .i64 ((K : Int) + 1))) := (Frame.refl _ _).setCell (fun hb => hb.2 hx0.dg) _
  have hsz1 : (w.setCell ⟨g, 2, none⟩ (.int .i64 ((K : Int) + 1))).heap.size = w.heap.size := by simp
  obtain ⟨m, hm⟩ : ∃ m, X.length = m := ⟨_, rfl⟩
  rw [hm] at hv hX hmc hi
  subst hv
  obtain ⟨r, hr⟩ : ∃ r, r = K % n := ⟨_, rfl⟩
  have hrn : r < n := by rw [hr]; exact Nat.mod_lt _ (by omega)
  have hri : (K : Int) % (n : Int) = (r : Int) := by rw [hr]; push_cast; rfl
  have htn : turnOf n K = 1 + r := by rw [hr]; rfl
  rw [htn] at hlt hat ⊢
  have hti : ((1 + r : Nat) : Int) = (r : Int) + 1 := by omega
  rw [hti, hm]
  have hb0 : base ≤ (w.setCell ⟨g, 2, none⟩ (.int .i64 ((K : Int) + 1))).heap.size := by rw [hsz1]; exact hbase
  have c0 := hx.obj.cell (i := 0) rfl
  have c1 := hx.obj.cell (i := 1) rfl
  have hgl := hx.obj.lt
  have HX := Lib.hid hx
  have HM := Lib.hid hm
  have HB := Lib.hid hb0
  have HF1 := Lib.hid hF1
  have HS1 := Lib.hid hsz1
  have HN := Lib.hid (World.ownsRow_nil (w.setCell ⟨g, 2, none⟩ (.int .i64 ((K : Int) + 1))) (w.setCell ⟨g, 2, none⟩ (.int .i64 ((K : Int) + 1))).heap.size 62 2)
  have HLT := Lib.hid hlt
  have HAT := Lib.hid hat
  clear hx hx0 hm hbase hb0 hF1 hsz1 hr htn hti hlt hat
  go_enter Try.func18, Try.ntmps18
  go_wp2_with fail
  generalize w.setCell ⟨g, 2, none⟩ (.int .i64 ((K : Int) + 1)) = W at *
  go_loop [8] (fun iv => ∃ k : Nat, k ≤ i ∧ iv = .int .i64 (k : Int)) (fun iv => m - (intOf iv).toNat)
  case atStart => exact ⟨0, by omega, rfl⟩
  case round =>
    obtain ⟨k, hk, rfl⟩ := hrel
    by_cases hkm : k < m
    · have hkX : k < X.length := by rw [HM.out]; exact hkm
      obtain ⟨gr, rfl, hgr, x0, x1⟩ := HX.out.at_ hkX
      obtain ⟨Ax, cx, hxv, _⟩ := HX.out.val hkX
      rw [hxv] at x1
      by_cases hki : k < i
      · have hne := HLT.out k hkX hki
        clear hxv
        generalize X[k].2.2.length = ml at *
        generalize X[k].1 = xt at *
        have hb : ((xt : Int) == (r : Int) + 1) = false := by simp; omega
        clear hne
        go_wp2
        go_round
        case rel => exact ⟨k + 1, by omega, by go_num⟩
        case measure => simp [intOf] <;> omega
      · obtain rfl : k = i := by omega
        have he := HAT.out hkX
        have HXO := Lib.hid (HX.out.item X[k] (List.getElem_mem hkX))
        have HXD := Lib.hid (HX.out.di X[k] (List.getElem_mem hkX))
        have HXK := Lib.hid (show (X[k]?.map (·.2.2)).getD [] = X[k].2.2 by rw [List.getElem?_eq_getElem hkX]; rfl)
        rw [hxv] at HXO HXD
        clear hxv
        obtain ⟨l, hl⟩ : ∃ l, X[k].2.2 = l := ⟨_, rfl⟩
        rw [hl] at x1 HXO HXD HXK
        obtain ⟨ml, hml⟩ : ∃ ml, l.length = ml := ⟨_, rfl⟩
        rw [hml] at x1 HXO HXD
        have HML := Lib.hid hml
        clear hl hml
        generalize X[k].1 = xt at *
        subst he
        have hb : (((1 + r : Nat) : Int) == (r : Int) + 1) = true := by simp; omega
        have hti : ((1 + r : Nat) : Int) = (r : Int) + 1 := by omega
        rw [hti] at x0 hb
        have hk1 : k + 1 ≤ m := by omega
        have hs62 : ∀ w', (Instr.slice 45 (.slice (some ⟨gr, 0, none⟩) m c) none (some (.int .i64 (k : Int))) none).run Try.prog w' = .ok (.slice (some ⟨gr, 0, none⟩) k c) w' := fun w' => islice_to gr m c k (by omega) w'
        obtain ⟨A2, hA2, hs72⟩ := islice_from gr m c (k + 1) hk1 hmc
        rw [show (((k + 1 : Nat)) : Int) = (k : Int) + 1 by push_cast; rfl] at hs72
        have HA2 := Lib.hid hA2
        have HCT := Lib.hid (fun (j : Nat) (u : Value) (hj : (cellsOf (X.take k))[j]? = some u) => HX.out.cell (by omega) j u (by
          rw [cells_take X k (by omega)] at hj
          have h1 := (List.getElem?_eq_some_iff.1 hj).1
          rw [List.length_take] at h1
          rw [List.getElem?_take, if_pos (by omega)] at hj; exact hj))
        have HCF := Lib.hid (fun (j : Nat) (u : Value) (hj : (cellsOf (X.drop (k + 1)))[j]? = some u) => HX.out.cell (by omega) ((k + 1) * 2 + j) u (by
          rw [cells_drop X (k + 1) (by omega), List.getElem?_drop] at hj; exact hj))
        have HO1 := Lib.hid (HX.out.one (Y := X.take k) (fun y hy => List.mem_of_mem_take hy))
        have HO2 := Lib.hid (HX.out.one (Y := X.drop (k + 1)) (fun y hy => List.mem_of_mem_drop hy))
        have HT := Lib.hid (show (X.take k).length = k by rw [List.length_take]; omega)
        have HD := Lib.hid (show (X.drop (k + 1)).length = m - (k + 1) by rw [List.length_drop, HM.out])
        clear hA2 hti hk
        go_wp2_with (first
          | (with_reducible refine at_slot 63 ?_
             refine wpList_append_w eitem (by rfl) (.tmp 56) (.tmp 62) rfl W.heap.size _ 0 [] (some ⟨gr, 0, none⟩) k c (cellsOf (X.take k)) rfl rfl HN.out (by rw [cellsOf_len, HT.out]) (fun _ => ⟨_, rfl, fun j u hj => by rw [addr_add, Nat.zero_add]; exact HCT.out j u hj⟩) HO1.out (by omega) (by omega) (Nat.le_refl _) ?_
             intro v5 w5 hO5 hg5 hat5
             have hb5 := (Below.refl W.heap.size W).grown hg5 (Nat.le_refl _) (fun b e => by cases e)
             rw [List.nil_append, Nat.zero_add] at hO5
             have y0 := (hb5.cell (p := ⟨g, 0, none⟩) hgl).trans c0
             have HO5 := Lib.hid hO5
             have HB5 := Lib.hid hb5
             clear hO5 hg5 hat5 hb5)
          | (with_reducible refine at_slot 73 ?_
             refine wpList_append_w eitem (by rfl) (.tmp 65) (.tmp 72) rfl W.heap.size _ k (cellsOf (X.take k)) A2 (m - (k + 1)) (c - (k + 1)) (cellsOf (X.drop (k + 1))) rfl rfl HO5.out (by rw [cellsOf_len, HD.out]) (fun h0 => ⟨_, HA2.out h0, fun j u hj => by rw [addr_add]; exact (HB5.out.cell (p := ⟨gr, (k + 1) * 2 + j, none⟩) hgr).trans (HCF.out j u hj)⟩) HO2.out (by omega) (by omega) HB5.out.size ?_
             intro v6 w6 hO6 hg6 hat6
             have hb6 := HB5.out.grown hg6 HB5.out.size (fun b e => by have := (World.ownsRow.lt HO5.out b e).1; omega)
             rw [← cellsOf_app] at hO6
             obtain ⟨A6, c6, hv6, _⟩ := roww_len hO6
             have fz6 : w6.frozen? ⟨g, 0, none⟩ = false := (HX.out.obj.keep (hb6.block g hgl)).frozen 0
             have z0 := (hb6.cell (p := ⟨g, 0, none⟩) hgl).trans c0
             have HSW := Lib.hid (HX.out.swap (Y := X.take k ++ X.drop (k + 1)) hb6 (v' := v6) (by rw [List.length_append, HT.out, HD.out]; exact hO6) (fun y hy => (List.mem_append.1 hy).elim List.mem_of_mem_take List.mem_of_mem_drop) HB.out)
             have HB6 := Lib.hid hb6
             subst hv6
             clear hO6 hg6 hat6 hb6))
        refine bodyPost_ret (results_four rfl _ _ _) rfl ?_
        refine ⟨Ax, ml, cx, (by first | rfl | (rw [decide_eq_true hkm]; rfl)), _, ⟨_, HSW.out⟩, ?_, ?_, ?_, ?_, ?_⟩
        · exact (HF1.out.trans (Frame.of_below (S := fun k => k < w.heap.size ∧ ¬ dom k) HB6.out (fun b hb => by rw [HS1.out]; exact hb.1)) (fun _ h => h)).setCell (fun hb => hb.2 HX.out.dg) _
        · intro b hb
          rcases hb with hb | hb
          · exact .inl hb
          · exact .inr (by have := hb.1; rw [HS1.out] at this; exact this)
        · rw [HXK.out, HML.out]
        · obtain ⟨A', c', e, _, hcc⟩ := HXO.out.form
          injection e with e1 e2 e3
          omega
        · rw [HXK.out]
          refine rd_own (own_keep HXO.out (fun b e => ?_))
          obtain ⟨d1, d2, _⟩ := HXD.out b e
          exact (heap_setCell_other w6 ⟨g, 0, none⟩ b _ d2).trans (HB6.out.block b (HX.out.lt b d1).2)
    · obtain rfl : k = m := by omega
      obtain rfl : i = k := by omega
      go_wp2
      refine bodyPost_ret (results_four rfl _ _ _) rfl ?_
      have hno : X[i]? = none := List.getElem?_eq_none (by rw [HM.out]; exact Nat.le_refl _)
      refine ⟨none, 0, 0, (by first | rfl | (rw [decide_eq_false (Nat.lt_irrefl _)]; rfl)), ?_⟩
      refine ⟨dom, ⟨.slice A i c, ?_⟩, HF1.out, fun b hb => .inl hb, (by rw [hno]; rfl), Nat.le_refl _, (by rw [hno]; exact Rd.nil _ _ _)⟩
      rw [List.take_of_length_le (by rw [HM.out]; exact Nat.le_refl _), List.drop_eq_nil_of_le (by rw [HM.out]; omega), List.append_nil]
      exact HX.out
end Go.Proofs.Ytjlmgniachdfgaa.Slots
