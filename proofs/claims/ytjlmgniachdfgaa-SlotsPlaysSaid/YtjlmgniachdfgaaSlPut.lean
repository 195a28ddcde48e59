/- Queues behind a pointer: contract of Put. -/
import Derived.Test.YtjlmgniachdfgaaSlWalks
namespace Go.Proofs.Ytjlmgniachdfgaa.Slots
open Go Go.ChangeShapes Go.WideShapes Go.ChangeAt Go.RowKit
set_option linter.unusedVariables false
set_option linter.unusedSimpArgs false
/-- what Put answers -/
def putE (n : Nat) (q : Qs) (t : Int) (l : List UInt8) : Nat := if isT n t = false then 1 else if 400 < l.length then 2 else if 4 ≤ (q t.toNat).length then 14 else 0
def putQ (n : Nat) (q : Qs) (t : Int) (l : List UInt8) : Qs := if putE n q t l = 0 then upd q t.toNat (q t.toNat ++ [l]) else q
theorem src1s (w : World) (v : Value) (T : TypeId) : 0 < 1 → ∃ ad, (some ⟨w.heap.size, 0, none⟩ : Option Addr) = some ad ∧ ∀ j u, ([v] : List Value)[j]? = some u → (w.alloc (.cells #[v] T)).cell? (ad.add j) = some u := fun _ => ⟨_, rfl, fun j u hj => by
  rw [addr_add, Nat.zero_add, cell_of_row _ _ j _ _ (0, 0) (heap_alloc_new w _)]; simpa using hj⟩
theorem slice_one (A : Option Addr) (n c : Nat) : (Value.slice A n c).oneCell' = true := by cases A <;> rfl
set_option maxRecDepth 100000 in
set_option maxHeartbeats 2000000 in
theorem put_any (base : Nat) (tag : Tags) (g n K : Nat) (q : Qs) (t : Int) (A : Option Addr) (m cp : Nat) (l : List UInt8) (w : World) (B : Nat) (hB : B ≤ w.heap.size) (hn : n ≤ 64) (h : Sl w base tag g n K q) (hbase : base ≤ w.heap.size) (hl : l.length = m) (hr : Rd w B A l) :
    Calls Try.prog 10 #[.pointer (some ⟨g, 0, none⟩), .int .i64 t, .slice A m cp] w fun e w' => ∃ tag', e = .returned (.int .i64 (putE n q t l : Int)) ∧ Sl w' base tag' g n K (putQ n q t l) ∧ Frame (Rest w tag) w w' ∧ (∀ k, tag' k ≠ none → tag k ≠ none ∨ w.heap.size ≤ k) := by
  have HS := Lib.hid h
  obtain ⟨gq, vs, iv, c, hx⟩ := h
  have HOB := Lib.hid hx.obj
  cases hi : isT n t with
  | false =>
    have hp : putE n q t l = 1 := by unfold putE; rw [hi]; rfl
    have hpq : putQ n q t l = q := by unfold putQ; rw [hp]; rfl
    rw [hp, hpq]
    have HI := Lib.hid hi
    clear hi hx hp hpq
    go_enter Try.func10, Try.ntmps10
    go_wp2_with fail
    refine (is_any g gq n _ t w HOB.out hn).mono ?_
    rw [HI.out]
    rintro e w1 ⟨rfl, rfl⟩
    go_wp2_with fail
    go_ret
    exact ⟨tag, rfl, HS.out, Frame.refl _ _, fun k hk => .inl hk⟩
  | true =>
    obtain ⟨k, rfl, hk1, hkn⟩ := isT_yes hi
    have k1 : (k : Int) < (n : Int) + 1 := by omega
    have c0 := hx.obj.cell (i := 0) rfl
    have c1 := hx.row hkn
    have f1 := hx.rows.frozen k
    obtain ⟨Aq, mq, cap, hv, hm⟩ : ∃ A m cap, vs k = .slice A m cap ∧ (q k).length = m := by
      obtain ⟨A, cap, h1, _⟩ := vlen (n := (q k).length) (hx.own k hkn) (hx.len k hkn)
      exact ⟨A, _, cap, h1, rfl⟩
    rw [hv] at c1
    have HI := Lib.hid hi
    have hpe : putE n q (k : Int) l = if 400 < m then 2 else if 4 ≤ mq then 14 else 0 := by
      unfold putE; rw [hi, hl, Int.toNat_natCast, hm]; rfl
    by_cases hbig : 400 < m
    · have hp : putE n q (k : Int) l = 2 := by rw [hpe, if_pos hbig]
      have hpq : putQ n q (k : Int) l = q := by unfold putQ; rw [hp]; rfl
      rw [hp, hpq]
      clear hi hx hp hpq hpe hl hm hv
      go_enter Try.func10, Try.ntmps10
      go_wp2_with fail
      refine (is_any g gq n _ (k : Int) w HOB.out hn).mono ?_
      rw [HI.out]
      rintro e w1 ⟨rfl, rfl⟩
      go_wp2_with fail
      go_ret
      exact ⟨tag, rfl, HS.out, Frame.refl _ _, fun k hk => .inl hk⟩
    · by_cases hfull : 4 ≤ mq
      · have hp : putE n q (k : Int) l = 14 := by rw [hpe, if_neg hbig, if_pos hfull]
        have hpq : putQ n q (k : Int) l = q := by unfold putQ; rw [hp]; rfl
        rw [hp, hpq]
        clear hi hx hp hpq hpe hl hm hv
        go_enter Try.func10, Try.ntmps10
        go_wp2_with fail
        refine (is_any g gq n _ (k : Int) w HOB.out hn).mono ?_
        rw [HI.out]
        rintro e w1 ⟨rfl, rfl⟩
        go_wp2_with fail
        go_ret
        exact ⟨tag, rfl, HS.out, Frame.refl _ _, fun k hk => .inl hk⟩
      · have hp : putE n q (k : Int) l = 0 := by rw [hpe, if_neg hbig, if_neg hfull]
        have hpq : putQ n q (k : Int) l = upd q k (q k ++ [l]) := by unfold putQ; rw [hp, if_pos rfl, Int.toNat_natCast]
        rw [hp, hpq]
        have HX := Lib.hid hx
        have HV := Lib.hid hv
        have HL := Lib.hid hl
        have HR := Lib.hid hr
        have HLEN := Lib.hid ((hx.len k hkn).trans hm)
        have hrl := hx.rows.lt
        have hgl := hx.obj.lt
        have hqb : ∀ b, Value.ownBlock (.slice Aq mq cap) = some b → b < w.heap.size ∧ b ≠ g ∧ b ≠ gq := fun b e => by
          have h1 := hx.to k b hkn (by rw [hv]; exact e)
          refine ⟨(hx.lt b (by rw [h1]; simp)).2, fun e2 => ?_, fun e2 => ?_⟩
          · rw [e2, hx.tg] at h1; simp at h1
          · rw [e2, hx.tq] at h1; simp at h1
        have HQB := Lib.hid hqb
        have k0 : (0 : Int) ≤ (k : Int) := by omega
        have m4 : mq < 4 := by omega
        clear hi hx hp hpq hpe hl hm hv hr hqb
        go_enter Try.func10, Try.ntmps10
        go_wp2_with fail
        refine (is_any g gq n _ (k : Int) w HOB.out hn).mono ?_
        rw [HI.out]
        rintro e w1 ⟨rfl, rfl⟩
        go_wp2_with fail
        refine wp_region_last (S := fun w' => w'.cell? ⟨g, 0, none⟩ = some (.slice (some ⟨gq, 0, none⟩) (n + 1) (n + 1)) ∧ w'.cell? ⟨gq, k, none⟩ = some (.slice Aq mq cap)) 17 (by kernel_rfl) (⟨c0, c1⟩) (fun hHeld => ?_)
        refine wpAnyS_take (i := 0) (v := ?_) rfl (by kernel_rfl) (by kernel_rfl) (by kernel_rfl) (by kernel_rfl) (fun _ _ _ h => h) (Or.inl ⟨by kernel_rfl, ?_⟩) (by assumption) ?_
        rotate_left
        · (intro w hSw; (try dsimp only at hSw); go_simp; first | done | with_reducible rfl)
        (try simp only [Act.put, List.setIfInBounds_toArray, List.set_cons_zero, List.set_cons_succ])
        refine wpAnyS_take (i := 1) (v := ?_) rfl (by kernel_rfl) (by kernel_rfl) (by kernel_rfl) (by kernel_rfl) (fun _ _ _ h => h) (Or.inl ⟨by kernel_rfl, ?_⟩) (by assumption) ?_
        rotate_left
        · (intro w hSw; (try dsimp only at hSw); go_simp; first | done | with_reducible rfl)
        (try simp only [Act.put, List.setIfInBounds_toArray, List.set_cons_zero, List.set_cons_succ])
        refine wpAnyS_take (i := 2) (v := ?_) rfl (by kernel_rfl) (by kernel_rfl) (by kernel_rfl) (by kernel_rfl) (fun _ _ _ h => h) (Or.inl ⟨by kernel_rfl, ?_⟩) (by assumption) ?_
        rotate_left
        · (intro w hSw; (try dsimp only at hSw); go_simp; first | done | with_reducible rfl)
        (try simp only [Act.put, List.setIfInBounds_toArray, List.set_cons_zero, List.set_cons_succ])
        refine wpAnyS_take (i := 3) (v := ?_) rfl (by kernel_rfl) (by kernel_rfl) (by kernel_rfl) (by kernel_rfl) (fun _ _ _ h => h) (Or.inl ⟨by kernel_rfl, ?_⟩) (by assumption) ?_
        rotate_left
        · (intro w hSw; (try dsimp only at hSw); go_simp; first | done | with_reducible rfl)
        (try simp only [Act.put, List.setIfInBounds_toArray, List.set_cons_zero, List.set_cons_succ])
        refine wpAnyS_take (i := 4) (v := ?_) rfl (by kernel_rfl) (by kernel_rfl) (by kernel_rfl) (by kernel_rfl) (fun _ _ _ h => h) (Or.inl ⟨by kernel_rfl, ?_⟩) (by assumption) ?_
        rotate_left
        · (intro w hSw; (try dsimp only at hSw); go_simp; first | done | with_reducible rfl)
        (try simp only [Act.put, List.setIfInBounds_toArray, List.set_cons_zero, List.set_cons_succ])
        refine wpAnyS_take (i := 5) (v := ?_) rfl (by kernel_rfl) (by kernel_rfl) (by kernel_rfl) (by kernel_rfl) (fun _ _ _ h => h) (Or.inl ⟨by kernel_rfl, ?_⟩) (by assumption) ?_
        rotate_left
        · (intro w hSw; (try dsimp only at hSw); go_simp; first | done | with_reducible rfl)
        (try simp only [Act.put, List.setIfInBounds_toArray, List.set_cons_zero, List.set_cons_succ])
        refine wpAnyS_take (i := 6) (v := ?_) rfl (by kernel_rfl) (by kernel_rfl) (by kernel_rfl) (by kernel_rfl) (fun _ _ _ h => h) (Or.inl ⟨by kernel_rfl, ?_⟩) (by assumption) ?_
        rotate_left
        · (intro w hSw; (try dsimp only at hSw); go_simp; first | done | with_reducible rfl)
        (try simp only [Act.put, List.setIfInBounds_toArray, List.set_cons_zero, List.set_cons_succ])
        refine wpAnyS_take (i := 7) (v := ?_) rfl (by kernel_rfl) (by kernel_rfl) (by kernel_rfl) (by kernel_rfl) (fun _ _ _ h => h) (Or.inl ⟨by kernel_rfl, ?_⟩) (by assumption) ?_
        rotate_left
        · (intro w hSw; (try dsimp only at hSw); go_simp; first | done | with_reducible rfl)
        (try simp only [Act.put, List.setIfInBounds_toArray, List.set_cons_zero, List.set_cons_succ])
        refine wpAnyS_take (i := 8) (v := ?_) rfl (by kernel_rfl) (by kernel_rfl) (by kernel_rfl) (by kernel_rfl) (fun _ _ _ h => h) (Or.inl ⟨by kernel_rfl, ?_⟩) (by assumption) ?_
        rotate_left
        · (intro w hSw; (try dsimp only at hSw); go_simp; first | done | with_reducible rfl)
        (try simp only [Act.put, List.setIfInBounds_toArray, List.set_cons_zero, List.set_cons_succ])
        refine wpAnyS_take (i := 9) (v := ?_) rfl (by kernel_rfl) (by kernel_rfl) (by kernel_rfl) (by kernel_rfl) (fun _ _ _ h => h) (Or.inl ⟨by kernel_rfl, ?_⟩) (by assumption) ?_
        rotate_left
        · (intro w hSw; (try dsimp only at hSw); go_simp; first | done | with_reducible rfl)
        (try simp only [Act.put, List.setIfInBounds_toArray, List.set_cons_zero, List.set_cons_succ])
        refine wpAnyS_take (i := 10) (v := ?_) rfl (by kernel_rfl) (by kernel_rfl) (by kernel_rfl) (by kernel_rfl) (fun _ _ _ h => h) (Or.inl ⟨by kernel_rfl, ?_⟩) (by assumption) ?_
        rotate_left
        · (intro w hSw; (try dsimp only at hSw); go_simp; first | done | with_reducible rfl)
        (try simp only [Act.put, List.setIfInBounds_toArray, List.set_cons_zero, List.set_cons_succ])
        refine wpAnyS_take (i := 11) (v := ?_) rfl (by kernel_rfl) (by kernel_rfl) (by kernel_rfl) (by kernel_rfl) (fun _ _ _ h => h) (Or.inl ⟨by kernel_rfl, ?_⟩) (by assumption) ?_
        rotate_left
        · (intro w hSw; (try dsimp only at hSw); go_simp; first | done | with_reducible rfl)
        (try simp only [Act.put, List.setIfInBounds_toArray, List.set_cons_zero, List.set_cons_succ])
        refine wpAnyS_take (i := 12) (v := ?_) rfl (by kernel_rfl) (by kernel_rfl) (by kernel_rfl) (by kernel_rfl) (fun _ _ _ h => h) (Or.inl ⟨by kernel_rfl, ?_⟩) (by assumption) ?_
        rotate_left
        · (intro w hSw; (try dsimp only at hSw); go_simp; first | done | with_reducible rfl)
        (try simp only [Act.put, List.setIfInBounds_toArray, List.set_cons_zero, List.set_cons_succ])
        refine wpAnyS_one (i := 13) (by kernel_rfl) rfl (fun KK hKK => ?_)
        go_simp
        refine (bclone_any A m cp l _ w.heap.size (by simp) HL.out (by omega) ((HR.out.below (Below.refl _ _).drew).more hB)).mono ?_
        rintro e w2 ⟨vx, rfl, hO2, hb2⟩
        have hb12 : Below w.heap.size w w2 := (Below.refl _ _).drew.trans hb2
        have hz2 := hb12.size
        obtain ⟨Ax, cx, hvx, _, _⟩ := hO2.form
        rw [HL.out] at hvx
        subst hvx
        have HO2 := Lib.hid (show Own w2 5 w.heap.size (.slice Ax m cx) l from hO2)
        have HB12 := Lib.hid hb12
        have d0 : w2.cell? ⟨g, 0, none⟩ = some (.slice (some ⟨gq, 0, none⟩) (n + 1) (n + 1)) := (hb12.cell (p := ⟨g, 0, none⟩) hgl).trans c0
        have d1 : w2.cell? ⟨gq, k, none⟩ = some (.slice Aq mq cap) := (hb12.cell (p := ⟨gq, k, none⟩) hrl).trans c1
        have hb13 := hb12.alloc hz2 (.cells #[.slice Ax m cx] 28)
        have e0 : (w2.alloc (.cells #[.slice Ax m cx] 28)).cell? ⟨g, 0, none⟩ = some (.slice (some ⟨gq, 0, none⟩) (n + 1) (n + 1)) := (hb13.cell (p := ⟨g, 0, none⟩) hgl).trans c0
        have e1 : (w2.alloc (.cells #[.slice Ax m cx] 28)).cell? ⟨gq, k, none⟩ = some (.slice Aq mq cap) := (hb13.cell (p := ⟨gq, k, none⟩) hrl).trans c1
        have hown3 : OwnV (w2.alloc (.cells #[.slice Ax m cx] 28)) 28 base (.slice Aq mq cap) (iv k) := by
          have h0 := HX.out.own k hkn
          rw [HV.out] at h0
          exact h0.below hb13 (fun b e => (HQB.out b e).1)
        have HOWN3 := Lib.hid hown3
        have HB13 := Lib.hid hb13
        clear hO2 hb2 hb12 hb13 hown3
        go_wp2_with fail
        refine hKK.out _ _ ?_ (fun hHeld => ?_)
        · (exact ⟨d0, d1⟩)
        clear hKK KK
        (try simp only [Act.put, List.setIfInBounds_toArray, List.set_cons_zero, List.set_cons_succ])
        refine wpAnyS_one (i := 14) (by kernel_rfl) rfl (fun KK hKK => ?_)
        go_simp
        refine hKK.out _ _ ?_ (fun hHeld => ?_)
        · (exact ⟨e0, e1⟩)
        clear hKK KK
        (try simp only [Act.put, List.setIfInBounds_toArray, List.set_cons_zero, List.set_cons_succ])
        refine wpAnyS_one (i := 15) (by kernel_rfl) rfl (fun KK hKK => ?_)
        refine step_append_v eqv (by rfl) (.tmp 37) (.tmp 40) rfl base _ (iv k) _ 1 1 [.slice Ax m cx] rfl rfl HOWN3.out rfl (src1s w2 _ _) (by intro u hu; simp only [List.mem_singleton] at hu; subst hu; exact slice_one _ _ _) (by rw [HLEN.out]; omega) (by rw [HLEN.out]; omega) (by simp; omega) ?_
        intro v4 w4 hO4 hg4 hat4
        have hF4 : Frame (fun b => b < w.heap.size ∧ (vs k).ownBlock ≠ some b) w w4 := (Frame.of_below HB13.out (fun b hb => hb.1)).trans (Frame.of_grown (S := fun b => b < (w2.alloc (.cells #[.slice Ax m cx] 28)).heap.size ∧ Value.ownBlock (.slice Aq mq cap) ≠ some b) hg4 (fun b hb => ⟨hb.1, fun e => hb.2 e.symm⟩)) (fun b hb => ⟨by have := HB13.out.size; omega, by rw [← HV.out]; exact hb.2⟩)
        have hx4 : Own w4 5 base (.slice Ax m cx) l := (Own.mono (own_keep HO2.out (fun b e => (hg4.block b (by have := (HO2.out.lt b e).2; simp; omega) (fun e2 => by have h1 := (HO2.out.lt b e).1; have h2 := (HQB.out b e2.symm).1; omega)).trans (heap_alloc_old w2 _ (HO2.out.lt b e).2))) hbase)
        have hxn : ∀ b, Value.ownBlock (.slice Ax m cx) = some b → w.heap.size ≤ b ∧ v4.ownBlock ≠ some b := fun b e => by
          have h1 := HO2.out.lt b e
          refine ⟨h1.1, fun e2 => ?_⟩
          rcases hat4 with h | h
          · rw [h] at e2; have := (HQB.out b e2).1; omega
          · rw [h] at e2; injection e2 with e2; simp at e2; omega
        have hv4 : v4.ownBlock = (vs k).ownBlock ∨ ∃ b, v4.ownBlock = some b ∧ w.heap.size ≤ b := by
          rcases hat4 with h | h
          · exact .inl (h.trans (by rw [HV.out]; rfl))
          · exact .inr ⟨_, h, by have := HB13.out.size; exact this⟩
        have hpush := HX.out.push hkn hF4 hO4 hv4 hx4 hxn hbase
        have g0 : w4.cell? ⟨g, 0, none⟩ = some (.slice (some ⟨gq, 0, none⟩) (n + 1) (n + 1)) := (World.cell?_of_block (a := ⟨g, 0, none⟩) (hF4.block g ⟨hgl, fun e => (HQB.out g (by rw [← HV.out]; exact e)).2.1 rfl⟩)).trans c0
        have g1 : w4.cell? ⟨gq, k, none⟩ = some (.slice Aq mq cap) := (World.cell?_of_block (a := ⟨gq, k, none⟩) (hF4.block gq ⟨hrl, fun e => (HQB.out gq (by rw [← HV.out]; exact e)).2.2 rfl⟩)).trans c1
        have fz4 : w4.frozen? ⟨gq, k, none⟩ = false := by
          have h0 := HX.out.rows.keep (hF4.block gq ⟨hrl, fun e => (HQB.out gq (by rw [← HV.out]; exact e)).2.2 rfl⟩)
          exact h0.frozen k
        have HP := Lib.hid hpush
        have HF4 := Lib.hid hF4
        have HXN := Lib.hid hxn
        have HV4 := Lib.hid hv4
        obtain ⟨A4, m4', c4, hv4e⟩ : ∃ A m c, v4 = .slice A m c := by
          obtain ⟨A, c, h1, _⟩ := vlen (n := mq + 1) hO4 (by rw [List.length_append, HLEN.out]; rfl)
          exact ⟨A, _, c, h1⟩
        subst hv4e
        clear hO4 hg4 hat4 hF4 hx4 hxn hv4 hpush
        refine hKK.out _ _ ?_ (fun hHeld => ?_)
        · (exact ⟨g0, g1⟩)
        clear hKK KK
        (try simp only [Act.put, List.setIfInBounds_toArray, List.set_cons_zero, List.set_cons_succ])
        refine wpAnyS_take (i := 16) (v := ?_) rfl (by kernel_rfl) (by kernel_rfl) (by kernel_rfl) (by kernel_rfl) (fun _ _ _ h => h) (Or.inl ⟨by kernel_rfl, ?_⟩) (by assumption) ?_
        rotate_left
        · (intro w hSw; (try dsimp only at hSw); go_simp; first | done | with_reducible rfl)
        (try simp only [Act.put, List.setIfInBounds_toArray, List.set_cons_zero, List.set_cons_succ])
        refine wpAnyS_last (by kernel_rfl) rfl (by kernel_rfl) (fun KK hKK => ?_)
        go_simp
        refine hKK.out _ _ ?_
        clear hKK KK
        (try simp only [Act.put, List.setIfInBounds_toArray, List.set_cons_zero, List.set_cons_succ])
        go_wp2
        go_ret
        refine ⟨_, rfl, ⟨gq, _, _, c, HP.out⟩, ?_, ?_⟩
        · refine (HF4.out.mono (fun b hb => ⟨hb.1, fun e => ?_⟩)).setCell (fun hb => ?_) _
          · have h1 := HX.out.to k b hkn e
            rw [hb.2] at h1; cases h1
          · have h1 := hb.2
            rw [HX.out.tq] at h1; cases h1
        · intro b hb
          by_cases e1 : Value.ownBlock (.slice Ax m cx) = some b
          · exact .inr (HXN.out b e1).1
          · by_cases e2 : Value.ownBlock (.slice A4 m4' c4) = some b
            · rcases HV4.out with h | ⟨b', h, hle⟩
              · left
                have h1 := HX.out.to k b hkn (h.symm.trans e2)
                rw [h1]; simp
              · right
                rw [h] at e2; injection e2 with e2; omega
            · left
              intro e3
              refine hb ?_
              show (if Value.ownBlock (.slice Ax m cx) = some b then some (3, k, c k + (q k).length) else if Value.ownBlock (.slice A4 m4' c4) = some b then some (2, k, 0) else tag b) = none
              rw [if_neg e1, if_neg e2, e3]
end Go.Proofs.Ytjlmgniachdfgaa.Slots
