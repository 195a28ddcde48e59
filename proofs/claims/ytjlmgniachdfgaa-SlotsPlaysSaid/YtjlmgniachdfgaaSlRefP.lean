/- The document's queues: Put. A contract. -/
import Derived.Test.YtjlmgniachdfgaaSlRef
import Derived.Test.YtjlmgniachdfgaaBuild
namespace Go.Proofs.Ytjlmgniachdfgaa.Slots
open Go Go.ChangeShapes Go.WideShapes Go.ChangeAt Go.RowKit
set_option linter.unusedVariables false
set_option linter.unusedSimpArgs false
theorem u8w : ElW Try.prog 28 5 (.int .u8 0) 1 1 := ⟨Try.underlying28, by kernel_rfl, rfl, by omega⟩
theorem rd_now {w w' : World} {A : Option Addr} {l : List UInt8} (hr : Rd w w.heap.size A l) (hb : Below w.heap.size w w') : Rd w' w'.heap.size A l := (hr.below hb).more hb.size
theorem src_two (w : World) (x y : Value) (T : TypeId) : 0 < 1 → ∃ ad, (some ⟨w.heap.size, 0, none⟩ : Option Addr) = some ad ∧ ∀ j u, ([x, y] : List Value)[j]? = some u → (w.alloc (.cells #[x, y] T)).cell? (ad.add j) = some u := fun _ => ⟨_, rfl, fun j u hj => by
  rw [addr_add, Nat.zero_add, cell_of_row _ _ j _ _ (0, 0) (heap_alloc_new w _)]; simpa using hj⟩
/-- what Put answers -/
def rputE (n : Nat) (X : List It) (t : Int) (l : List UInt8) : Nat := if t < 1 ∨ (n : Int) < t then 1 else if 400 < l.length then 2 else if 4 ≤ cntX X t then 14 else 0
/-- one more -/
theorem DcX.push {w w' : World} {base g n K : Nat} {dom : Nat → Prop} {v : Value} {X : List It} (h : DcX w base dom g n K v X) {t : Nat} (h1 : 1 ≤ t) (hn : t ≤ n) {v' vx : Value} {l : List UInt8} (hF : Frame (fun k => k < w.heap.size ∧ v.ownBlock ≠ some k) w w')
    (hO : w'.ownsRow base 62 2 v' (X.length + 1) (cellsOf X ++ [.int .i64 (t : Int), vx])) (hv : v'.ownBlock = v.ownBlock ∨ ∃ b, v'.ownBlock = some b ∧ w.heap.size ≤ b) (hx : Own w' 5 base vx l) (hxn : ∀ k, vx.ownBlock = some k → w.heap.size ≤ k ∧ v'.ownBlock ≠ some k) (hbase : base ≤ w.heap.size) :
    DcX (w'.setCell ⟨g, 0, none⟩ v') base (fun k => dom k ∨ (w.heap.size ≤ k ∧ k < w'.heap.size)) g n K v' (X ++ [(t, vx, l)]) := by
  have hglt := (h.lt g h.dg).2
  have hgv : v.ownBlock ≠ some g := fun e => (h.dv g e).2 rfl
  have hg' : v'.ownBlock ≠ some g := fun e => by
    rcases hv with hv | ⟨b, hb, hb'⟩
    · exact hgv (hv.symm.trans e)
    · rw [hb] at e; injection e with e; omega
  have hk : ∀ k, k ≠ g → (w'.setCell ⟨g, 0, none⟩ v').heap[k]? = w'.heap[k]? := fun k hk => heap_setCell_other w' ⟨g, 0, none⟩ k _ hk
  have hsz : (w'.setCell ⟨g, 0, none⟩ v').heap.size = w'.heap.size := by simp
  refine ⟨?_, ?_, fun x hx' => ?_, fun x hx' => ?_, .inl h.dg, fun k e => ⟨?_, fun e2 => hg' (e2 ▸ e)⟩, fun x hx' k e => ?_, fun k hk' => ?_⟩
  · exact (h.obj.keep (hF.block g ⟨hglt, hgv⟩)).set 0 v'
  · rw [List.length_append, List.length_singleton, cellsOf_app]
    exact roww_keep hO (fun k e => hk k (by rintro rfl; exact hg' e))
  · rcases List.mem_append.1 hx' with hx' | hx'
    · refine own_keep (h.item x hx') (fun k e => ?_)
      obtain ⟨d1, d2, d3⟩ := h.di x hx' k e
      exact (hk k d2).trans (hF.block k ⟨(h.lt k d1).2, d3⟩)
    · simp only [List.mem_singleton] at hx'
      subst hx'
      exact own_keep hx (fun k e => hk k (by rintro rfl; have := (hxn k e).1; omega))
  · rcases List.mem_append.1 hx' with hx' | hx'
    · exact h.rng x hx'
    · simp only [List.mem_singleton] at hx'
      subst hx'
      exact ⟨h1, hn⟩
  · rcases hv with hv | ⟨b, hb, hb'⟩
    · exact .inl (h.dv k (hv.symm.trans e)).1
    · have h2 := (World.ownsRow.lt hO k e).2
      rw [hb] at e; injection e with e
      exact .inr ⟨by omega, h2⟩
  · rcases List.mem_append.1 hx' with hx' | hx'
    · obtain ⟨d1, d2, d3⟩ := h.di x hx' k e
      refine ⟨.inl d1, d2, fun e2 => ?_⟩
      rcases hv with hv | ⟨b, hb, hb'⟩
      · exact d3 (hv.symm.trans e2)
      · rw [hb] at e2; injection e2 with e2
        have := (h.lt k d1).2; omega
    · simp only [List.mem_singleton] at hx'
      subst hx'
      obtain ⟨d1, d2⟩ := hxn k e
      exact ⟨.inr ⟨d1, (Own.lt hx k e).2⟩, by omega, d2⟩
  · rw [hsz]
    have hs := hF.size
    rcases hk' with hk' | hk'
    · exact ⟨(h.lt k hk').1, by have := (h.lt k hk').2; omega⟩
    · exact ⟨by omega, hk'.2⟩
/-- what Put leaves -/
def RPut (w w' : World) (base : Nat) (dom : Nat → Prop) (g n K : Nat) (X : List It) (t : Int) (l : List UInt8) (E : Nat) : Prop :=
  ∃ dom' X', Dc w' base dom' g n K X' ∧ Frame (fun k => k < w.heap.size ∧ ¬ dom k) w w' ∧ (∀ k, dom' k → dom k ∨ w.heap.size ≤ k) ∧ (E ≠ 0 → X' = X) ∧ (E = 0 → ∃ (k : Nat) (vx : Value), t = (k : Int) ∧ X' = X ++ [(k, vx, l)])
set_option maxRecDepth 100000 in
set_option maxHeartbeats 2000000 in
theorem refput_any (base : Nat) (dom : Nat → Prop) (g n K : Nat) (X : List It) (t : Int) (A : Option Addr) (ml cp : Nat) (l : List UInt8) (w : World) (hX : X.length ≤ 1000) (hn : n ≤ 64) (h : Dc w base dom g n K X) (hbase : base ≤ w.heap.size) (hl : l.length = ml) (hr : Rd w w.heap.size A l) :
    Calls Try.prog 17 #[.pointer (some ⟨g, 0, none⟩), .int .i64 t, .slice A ml cp] w fun e w' => e = .returned (.int .i64 (rputE n X t l : Int)) ∧ RPut w w' base dom g n K X t l (rputE n X t l) := by
  have HC := Lib.hid (refcount_any base dom g n K X t w hX h)
  have HD := Lib.hid h
  obtain ⟨v, hx⟩ := h
  have c1 := hx.obj.cell (i := 1) rfl
  by_cases h1 : t < 1
  · have hp : rputE n X t l = 1 := by unfold rputE; rw [if_pos (.inl h1)]
    rw [hp]
    clear hp hx
    go_enter Try.func17, Try.ntmps17
    go_wp2_with fail
    go_ret
    exact ⟨rfl, dom, X, HD.out, Frame.refl _ _, fun k hk => .inl hk, fun _ => rfl, fun e => by cases e⟩
  · by_cases h2 : (n : Int) < t
    · have hp : rputE n X t l = 1 := by unfold rputE; rw [if_pos (.inr h2)]
      rw [hp]
      clear hp hx
      go_enter Try.func17, Try.ntmps17
      go_wp2_with fail
      go_ret
      exact ⟨rfl, dom, X, HD.out, Frame.refl _ _, fun k hk => .inl hk, fun _ => rfl, fun e => by cases e⟩
    · have hpe : rputE n X t l = if 400 < ml then 2 else if 4 ≤ cntX X t then 14 else 0 := by unfold rputE; rw [if_neg (by omega), hl]
      by_cases hbig : 400 < ml
      · rw [if_pos hbig] at hpe
        rw [hpe]
        clear hpe hx hl
        go_enter Try.func17, Try.ntmps17
        go_wp2_with fail
        go_ret
        exact ⟨rfl, dom, X, HD.out, Frame.refl _ _, fun k hk => .inl hk, fun _ => rfl, fun e => by cases e⟩
      · rw [if_neg hbig] at hpe
        by_cases hfull : 4 ≤ cntX X t
        · rw [if_pos hfull] at hpe
          rw [hpe]
          generalize cntX X t = cq at *
          clear hpe hx hl
          go_enter Try.func17, Try.ntmps17
          go_wp2_with fail
          refine HC.out.mono ?_
          rintro e w1 ⟨rfl, rfl⟩
          go_wp2_with fail
          go_ret
          exact ⟨rfl, dom, X, HD.out, Frame.refl _ _, fun k hk => .inl hk, fun _ => rfl, fun e => by cases e⟩
        · rw [if_neg hfull] at hpe
          rw [hpe]
          obtain ⟨k, rfl⟩ := Int.eq_ofNat_of_zero_le (show 0 ≤ t by omega)
          obtain ⟨AX, cX, hv, _⟩ := hx.form
          obtain ⟨mx, hmx⟩ : ∃ mx, X.length = mx := ⟨_, rfl⟩
          rw [hmx] at hv hX
          subst hv
          have c0 := hx.obj.cell (i := 0) rfl
          have f0 := hx.obj.frozen 0
          have hgl := hx.obj.lt
          have hgX : Value.ownBlock (.slice AX mx cX) ≠ some g := fun e => (hx.dv g e).2 rfl
          have hXl : ∀ b, Value.ownBlock (.slice AX mx cX) = some b → b < w.heap.size := fun b e => (hx.lt b (hx.dv b e).1).2
          have hOe := own_empty (w := w.drew) 5 (base := w.heap.size) (Nat.le_refl _)
          have hbe : Below w.heap.size w (w.drew.alloc (.cells #[] 5)) := (Below.refl _ _).drew.alloc (Nat.le_refl _) _
          have e0 := (hbe.cell (p := ⟨g, 0, none⟩) hgl).trans c0
          have hze : (w.drew.alloc (.cells #[] 5)).heap.size = w.heap.size + 1 := by simp
          have HX := Lib.hid hx
          have HL := Lib.hid hl
          have HR := Lib.hid (rd_now hr hbe)
          have HMX := Lib.hid hmx
          have HGX := Lib.hid hgX
          have HXL := Lib.hid hXl
          have HOE := Lib.hid hOe
          have HBE := Lib.hid hbe
          have HZE := Lib.hid hze
          have HK := Lib.hid (show 1 ≤ k ∧ k ≤ n by omega)
          have hc4 : cntX X (k : Int) < 4 := by omega
          generalize cntX X (k : Int) = cq at *
          clear hpe hx hl hr hmx hgX hXl hOe hbe hze hfull
          go_enter Try.func17, Try.ntmps17
          go_wp2_with fail
          refine HC.out.mono ?_
          rintro e w1 ⟨rfl, rfl⟩
          go_wp2_with fail
          refine wp_region_last (S := fun w' => w'.cell? ⟨g, 0, none⟩ = some (.slice AX mx cX)) 14 (by kernel_rfl) (c0) (fun hHeld => ?_)
          refine wpAnyS_take (i := 0) (v := ?_) rfl (by kernel_rfl) (by kernel_rfl) (by kernel_rfl) (by kernel_rfl) (fun _ _ _ h => h) (Or.inl ⟨by kernel_rfl, ?_⟩) (by assumption) ?_
          rotate_left
          · (intro w hSw; (try dsimp only at hSw); go_simp; first | done | with_reducible rfl)
          (try simp only [Act.put, List.setIfInBounds_toArray, List.set_cons_zero, List.set_cons_succ, List.getElem_toArray, List.getElem_cons_zero, List.getElem_cons_succ])
          refine wpAnyS_take (i := 1) (v := ?_) rfl (by kernel_rfl) (by kernel_rfl) (by kernel_rfl) (by kernel_rfl) (fun _ _ _ h => h) (Or.inl ⟨by kernel_rfl, ?_⟩) (by assumption) ?_
          rotate_left
          · (intro w hSw; (try dsimp only at hSw); go_simp; first | done | with_reducible rfl)
          (try simp only [Act.put, List.setIfInBounds_toArray, List.set_cons_zero, List.set_cons_succ, List.getElem_toArray, List.getElem_cons_zero, List.getElem_cons_succ])
          refine wpAnyS_take (i := 2) (v := ?_) rfl (by kernel_rfl) (by kernel_rfl) (by kernel_rfl) (by kernel_rfl) (fun _ _ _ h => h) (Or.inl ⟨by kernel_rfl, ?_⟩) (by assumption) ?_
          rotate_left
          · (intro w hSw; (try dsimp only at hSw); go_simp; first | done | with_reducible rfl)
          (try simp only [Act.put, List.setIfInBounds_toArray, List.set_cons_zero, List.set_cons_succ, List.getElem_toArray, List.getElem_cons_zero, List.getElem_cons_succ])
          refine wpAnyS_take (i := 3) (v := ?_) rfl (by kernel_rfl) (by kernel_rfl) (by kernel_rfl) (by kernel_rfl) (fun _ _ _ h => h) (Or.inl ⟨by kernel_rfl, ?_⟩) (by assumption) ?_
          rotate_left
          · (intro w hSw; (try dsimp only at hSw); go_simp; first | done | with_reducible rfl)
          (try simp only [Act.put, List.setIfInBounds_toArray, List.set_cons_zero, List.set_cons_succ, List.getElem_toArray, List.getElem_cons_zero, List.getElem_cons_succ])
          refine wpAnyS_take (i := 4) (v := ?_) rfl (by kernel_rfl) (by kernel_rfl) (by kernel_rfl) (by kernel_rfl) (fun _ _ _ h => h) (Or.inl ⟨by kernel_rfl, ?_⟩) (by assumption) ?_
          rotate_left
          · (intro w hSw; (try dsimp only at hSw); go_simp; first | done | with_reducible rfl)
          (try simp only [Act.put, List.setIfInBounds_toArray, List.set_cons_zero, List.set_cons_succ, List.getElem_toArray, List.getElem_cons_zero, List.getElem_cons_succ])
          refine wpAnyS_take (i := 5) (v := ?_) rfl (by kernel_rfl) (by kernel_rfl) (by kernel_rfl) (by kernel_rfl) (fun _ _ _ h => h) (Or.inl ⟨by kernel_rfl, ?_⟩) (by assumption) ?_
          rotate_left
          · (intro w hSw; (try dsimp only at hSw); go_simp; first | done | with_reducible rfl)
          (try simp only [Act.put, List.setIfInBounds_toArray, List.set_cons_zero, List.set_cons_succ, List.getElem_toArray, List.getElem_cons_zero, List.getElem_cons_succ])
          refine wpAnyS_take (i := 7) (v := ?_) rfl (by kernel_rfl) (by kernel_rfl) (by kernel_rfl) (by kernel_rfl) (fun _ _ _ h => h) (Or.inl ⟨by kernel_rfl, ?_⟩) (by assumption) ?_
          rotate_left
          · (intro w hSw; (try dsimp only at hSw); go_simp; first | done | with_reducible rfl)
          (try simp only [Act.put, List.setIfInBounds_toArray, List.set_cons_zero, List.set_cons_succ, List.getElem_toArray, List.getElem_cons_zero, List.getElem_cons_succ])
          refine wpAnyS_one (i := 6) (by kernel_rfl) rfl (fun KK hKK => ?_)
          go_simp
          refine hKK.out _ _ ?_ (fun hHeld => ?_)
          · (first | exact q0 | exact e0)
          clear hKK KK
          (try simp only [Act.put, List.setIfInBounds_toArray, List.set_cons_zero, List.set_cons_succ, List.getElem_toArray, List.getElem_cons_zero, List.getElem_cons_succ])
          refine wpAnyS_one (i := 8) (by kernel_rfl) rfl (fun KK hKK => ?_)
          refine step_append_w u8w (by rfl) (.tmp 30) (.tmp 31) rfl w.heap.size _ 0 [] A ml cp (bvs l) rfl rfl HOE.out (by rw [bvs_length, HL.out, Nat.mul_one]) (HR.out.news ml HL.out) (bvs_one l) (by omega) (by omega) HBE.out.size ?_
          intro vx w2 hO2 hg2 hat2
          rw [List.nil_append, Nat.zero_add] at hO2
          have hx2 : Own w2 5 w.heap.size vx l := by unfold Own; rw [HL.out]; exact hO2
          have hF2 : Frame (fun b => b < w.heap.size) w w2 := (Frame.of_below HBE.out (fun b hb => hb)).trans (Frame.of_grown (S := fun b => b < w.heap.size) hg2 (fun b hb => ⟨Nat.lt_of_lt_of_le hb HBE.out.size, fun e => by injection e with e; simp at e; omega⟩)) (fun b hb => hb)
          have g0 : w2.cell? ⟨g, 0, none⟩ = some (.slice AX mx cX) := (World.cell?_of_block (a := ⟨g, 0, none⟩) (hF2.block g hgl)).trans c0
          obtain ⟨Ax, cx, hvx, _, _⟩ := hx2.form
          rw [HL.out] at hvx
          subst hvx
          have hFA : Frame (fun b => b < w.heap.size) w (w2.alloc (.cells #[.int .i64 (k : Int), .slice Ax ml cx] 62)) := hF2.alloc (fun b hb => by have := hF2.size; omega) _
          have a0 : (w2.alloc (.cells #[.int .i64 (k : Int), .slice Ax ml cx] 62)).cell? ⟨g, 0, none⟩ = some (.slice AX mx cX) := (World.cell?_of_block (a := ⟨g, 0, none⟩) (hFA.block g hgl)).trans c0
          have HX2 := Lib.hid hx2
          have HF2 := Lib.hid hF2
          have HFA := Lib.hid hFA
          clear hO2 hg2 hat2 hx2 hF2 hFA
          refine hKK.out _ _ ?_ (fun hHeld => ?_)
          · (exact g0)
          clear hKK KK
          (try simp only [Act.put, List.setIfInBounds_toArray, List.set_cons_zero, List.set_cons_succ, List.getElem_toArray, List.getElem_cons_zero, List.getElem_cons_succ])
          refine wpAnyS_take (i := 9) (v := ?_) rfl (by kernel_rfl) (by kernel_rfl) (by kernel_rfl) (by kernel_rfl) (fun _ _ _ h => h) (Or.inl ⟨by kernel_rfl, ?_⟩) (by assumption) ?_
          rotate_left
          · (intro w hSw; (try dsimp only at hSw); go_simp; first | done | with_reducible rfl)
          (try simp only [Act.put, List.setIfInBounds_toArray, List.set_cons_zero, List.set_cons_succ, List.getElem_toArray, List.getElem_cons_zero, List.getElem_cons_succ])
          refine wpAnyS_one (i := 10) (by kernel_rfl) rfl (fun KK hKK => ?_)
          refine step_buildSlice_one eitem (by omega) (by rfl) (.tmp 33) rfl #[.int .i64 (k : Int), .slice Ax ml cx] rfl rfl ?_
          refine hKK.out _ _ ?_ (fun hHeld => ?_)
          · (exact a0)
          clear hKK KK
          (try simp only [Act.put, List.setIfInBounds_toArray, List.set_cons_zero, List.set_cons_succ, List.getElem_toArray, List.getElem_cons_zero, List.getElem_cons_succ])
          refine wpAnyS_one (i := 11) (by kernel_rfl) rfl (fun KK hKK => ?_)
          refine step_append_w eitem (by rfl) (.tmp 28) (.tmp 34) rfl base _ mx (cellsOf X) (some ⟨w2.heap.size, 0, none⟩) 1 1 [.int .i64 (k : Int), .slice Ax ml cx] rfl rfl (by have h0 := HX.out.row; rw [HMX.out] at h0; exact roww_keep h0 (fun b e => HFA.out.block b (HXL.out b e))) rfl (src_two w2 _ _ _) (by intro u hu; simp only [List.mem_cons, List.not_mem_nil, or_false] at hu; rcases hu with rfl | rfl; rfl; exact slice_one _ _ _) (by omega) (by omega) (by have := HFA.out.size; omega) ?_
          intro v4 w4 hO4 hg4 hat4
          have hs2 : (w2.alloc (.cells #[.int .i64 (k : Int), .slice Ax ml cx] 62)).heap.size = w2.heap.size + 1 := by simp
          have hz2 := HF2.out.size
          have hF4 : Frame (fun b => b < w.heap.size ∧ Value.ownBlock (.slice AX mx cX) ≠ some b) w w4 := (HFA.out.mono (T := fun b => b < w.heap.size ∧ Value.ownBlock (.slice AX mx cX) ≠ some b) (fun b hb => hb.1)).trans (Frame.of_grown (S := fun b => b < w.heap.size ∧ Value.ownBlock (.slice AX mx cX) ≠ some b) hg4 (fun b hb => ⟨by omega, fun e => hb.2 e.symm⟩)) (fun b hb => hb)
          have hx4 : Own w4 5 w.heap.size (.slice Ax ml cx) l := own_keep HX2.out (fun b e => (hg4.block b (by have := (Own.lt HX2.out b e).2; omega) (fun e2 => by have := (Own.lt HX2.out b e).1; have := HXL.out b e2.symm; omega)).trans (heap_alloc_old w2 _ (Own.lt HX2.out b e).2))
          have hxn : ∀ b, Value.ownBlock (.slice Ax ml cx) = some b → w.heap.size ≤ b ∧ v4.ownBlock ≠ some b := fun b e => by
            have h1 := Own.lt HX2.out b e
            refine ⟨h1.1, fun e2 => ?_⟩
            rcases hat4 with h | h
            · rw [h] at e2; have := HXL.out b e2; omega
            · rw [h] at e2; injection e2 with e2; omega
          have hv4 : v4.ownBlock = Value.ownBlock (.slice AX mx cX) ∨ ∃ b, v4.ownBlock = some b ∧ w.heap.size ≤ b := by
            rcases hat4 with h | h
            · exact .inl h
            · exact .inr ⟨_, h, by omega⟩
          have hO4' : w4.ownsRow base 62 2 v4 (X.length + 1) (cellsOf X ++ [.int .i64 (k : Int), .slice Ax ml cx]) := by rw [HMX.out]; exact hO4
          have hpush := HX.out.push (t := k) HK.out.1 HK.out.2 hF4 hO4' hv4 (Own.mono hx4 hbase) hxn hbase
          have q0 : w4.cell? ⟨g, 0, none⟩ = some (.slice AX mx cX) := (World.cell?_of_block (a := ⟨g, 0, none⟩) (hF4.block g ⟨hgl, HGX.out⟩)).trans c0
          have fz4 : w4.frozen? ⟨g, 0, none⟩ = false := (HX.out.obj.keep (hF4.block g ⟨hgl, HGX.out⟩)).frozen 0
          have HP := Lib.hid hpush
          have HF4 := Lib.hid hF4
          have HZ4 := Lib.hid (show w.heap.size ≤ w4.heap.size from hF4.size)
          obtain ⟨A4, c4, hv4e, _⟩ := roww_len hO4
          subst hv4e
          clear hO4 hO4' hg4 hat4 hF4 hx4 hxn hv4 hpush hs2 hz2
          refine hKK.out _ _ ?_ (fun hHeld => ?_)
          · (exact q0)
          clear hKK KK
          (try simp only [Act.put, List.setIfInBounds_toArray, List.set_cons_zero, List.set_cons_succ, List.getElem_toArray, List.getElem_cons_zero, List.getElem_cons_succ])
          refine wpAnyS_one (i := 12) (by kernel_rfl) rfl (fun KK hKK => ?_)
          go_simp
          refine hKK.out _ _ ?_ (fun hHeld => ?_)
          · (first | exact q0 | exact e0)
          clear hKK KK
          (try simp only [Act.put, List.setIfInBounds_toArray, List.set_cons_zero, List.set_cons_succ, List.getElem_toArray, List.getElem_cons_zero, List.getElem_cons_succ])
          refine wpAnyS_take (i := 13) (v := ?_) rfl (by kernel_rfl) (by kernel_rfl) (by kernel_rfl) (by kernel_rfl) (fun _ _ _ h => h) (Or.inl ⟨by kernel_rfl, ?_⟩) (by assumption) ?_
          rotate_left
          · (intro w hSw; (try dsimp only at hSw); go_simp; first | done | with_reducible rfl)
          (try simp only [Act.put, List.setIfInBounds_toArray, List.set_cons_zero, List.set_cons_succ, List.getElem_toArray, List.getElem_cons_zero, List.getElem_cons_succ])
          refine wpAnyS_last (by kernel_rfl) rfl (by kernel_rfl) (fun KK hKK => ?_)
          go_simp
          refine hKK.out _ _ ?_
          clear hKK KK
          (try simp only [Act.put, List.setIfInBounds_toArray, List.set_cons_zero, List.set_cons_succ, List.getElem_toArray, List.getElem_cons_zero, List.getElem_cons_succ])
          go_wp2
          go_ret
          refine ⟨rfl, _, _, ⟨_, HP.out⟩, ?_, ?_, fun e => absurd rfl e, fun _ => ⟨k, _, rfl, rfl⟩⟩
          · refine (HF4.out.mono (fun b hb => ⟨hb.1, fun e => hb.2 (HX.out.dv b e).1⟩)).setCell (fun hb => hb.2 HX.out.dg) _
          · intro b hb
            rcases hb with hb | hb
            · exact .inl hb
            · exact .inr hb.1
end Go.Proofs.Ytjlmgniachdfgaa.Slots
