/- The small case of this layer's statements: contract. -/
import Derived.Test.YtcbihjcnnfohmaaAesSmall
namespace Go.Proofs.Ytcbihjcnnfohmaa.Aes
open Go Go.ChangeShapes Go.WideShapes Go.ChangeAt Go.RowKit Go.Proofs.Ytcbihjcnnfohmaa.Fld
set_option linter.unusedVariables false
set_option linter.unusedSimpArgs false
theorem row1_any (w : World) : Calls Try.prog 41 #[.int .i64 0, .int .i64 16, .int .i64 1] w fun e w' => ∃ v, e = .returned v ∧ Own w' 5 w.heap.size v (rowL 1 16) ∧ Below w.heap.size w w' := row_any 1 (by omega) w
theorem row17_any (w : World) : Calls Try.prog 41 #[.int .i64 0, .int .i64 16, .int .i64 17] w fun e w' => ∃ v, e = .returned v ∧ Own w' 5 w.heap.size v (rowL 17 16) ∧ Below w.heap.size w w' := row_any 17 (by omega) w
theorem own_rds {w : World} {e : TypeId} {base : Nat} {v : Value} {l : List UInt8} (h : Own w e base v l) {S : Nat → Prop} (hS : ∀ k, v.ownBlock = some k → S k) {A : Option Addr} {n c : Nat} (hv : v = .slice A n c) : RdS w S A l := fun h0 => by
  obtain ⟨g, c', he, h1, h2, _⟩ := h.at_ (i := 0) h0
  subst hv
  injection he with he
  subst he
  exact ⟨_, rfl, hS _ rfl, fun j hj => by rw [add_zero_block]; exact (h.at_g hj).2.2.1⟩
theorem off_below {w w' : World} {base B0 : Nat} {g : Nat} {B : Nat → Prop} {key : Blk} (h : KeyIs w base B g key) (hF : Frame (Off w B) w w') (hB : B0 ≤ base) (hs : base ≤ w.heap.size) : Below B0 w w' :=
  hF.toBelow fun k hk => ⟨by omega, fun hb => by have := (h.lt k hb).1; omega⟩
set_option maxRecDepth 100000 in
set_option maxHeartbeats 2000000 in
theorem small_any (w : World) : Calls Try.prog 16 #[] w fun e w' => e = .returned (.bool true) ∧ Below w.heap.size w w' := by
  have hk16 : KeyOk (rowL 1 16) := .inl (rowL_length _ _)
  have HK := Lib.hid hk16
  clear hk16
  go_enter Try.func16, Try.ntmps16
  go_wp2_with fail
  refine (row1_any _).mono ?_
  rintro e w1 ⟨v1, rfl, hO1, hb1⟩
  obtain ⟨A1, c1, hv1, hR1, _⟩ := hO1.form
  rw [rowL_length] at hv1
  subst hv1
  have hz1 := hb1.size
  have HR1 := Lib.hid hR1
  have HB1 := Lib.hid hb1
  clear hO1 hR1 hb1
  go_wp2_with fail
  refine (new_any A1 16 c1 (rowL 1 16) _ w1.heap.size (Nat.le_refl _) (rowL_length _ _) HR1.out HK.out).mono ?_
  rintro e w2 ⟨g, B2, rfl, hK2, hb2⟩
  have hbw2 := HB1.out.trans (hb2.mono hz1)
  have hz2 := hb2.size
  have HK2 := Lib.hid hK2
  have HB2 := Lib.hid hbw2
  clear hK2 hb2 hbw2
  go_wp2_with fail
  refine (row17_any _).mono ?_
  rintro e w3 ⟨v3, rfl, hO3, hb3⟩
  obtain ⟨A3, c3, hv3, _, hc3⟩ := hO3.form
  rw [rowL_length] at hv3 hc3
  subst hv3
  have hK3 : KeyIs w3 w1.heap.size B2 g (rowL 1 16) := KeyIs.below_ (.inl HK2.out) hb3
  have hz3 := hb3.size
  have hrs3 : RdS w3 (Off w3 B2) A3 (rowL 17 16) := own_rds hO3 (fun k hk => ⟨(hO3.lt k hk).2, fun hB => by have h1 := (hO3.lt k hk).1; have h2 := (KeyIs.lt (.inl HK2.out) k hB).2; omega⟩) rfl
  have hbw3 := HB2.out.trans (hb3.mono (Nat.le_trans hz1 hz2))
  have HK3 := Lib.hid hK3
  have HRS3 := Lib.hid hrs3
  have HB3 := Lib.hid hbw3
  clear hO3 hb3 hK3 hrs3 hbw3
  go_wp2_with fail
  refine (enc_any w1.heap.size B2 g (rowL 1 16) (rowL 17 16) A3 c3 _ HK3.out (by omega) (rowL_length _ _) hc3 HRS3.out).mono ?_
  rintro e w4 ⟨v4, B4, rfl, hO4, hK4, hF4, hB4, hv4⟩
  have hel := enc_length HK.out (rowL_length 17 16)
  obtain ⟨Ac, cc, hve, _, hcc⟩ := hO4.form
  rw [hel] at hve hcc
  subst hve
  have hbw4 := HB3.out.trans (off_below HK3.out hF4 hz1 (by omega))
  have hz4 := hF4.size
  have hrs4 : RdS w4 (Off w4 B4) Ac (enc (rowL 1 16) (rowL 17 16)) := own_rds hO4 (fun k hk => ⟨(hO4.lt k hk).2, hv4 k hk⟩) rfl
  have HK4 := Lib.hid (show KeyIs w4 w1.heap.size B4 g (rowL 1 16) from .inr hK4)
  have HRS4 := Lib.hid hrs4
  have HB4 := Lib.hid hbw4
  have HO4 := Lib.hid hO4
  have HV4 := Lib.hid hv4
  have HEL := Lib.hid hel
  clear hO4 hK4 hF4 hB4 hv4 hbw4 hrs4 hel
  go_wp2_with fail
  refine (dec_any w1.heap.size B4 g (rowL 1 16) (enc (rowL 1 16) (rowL 17 16)) Ac cc _ HK4.out (by omega) HEL.out hcc HRS4.out).mono ?_
  rintro e w5 ⟨v5, B5, rfl, hO5, hK5, hF5, hB5, hv5⟩
  rw [dec_of_enc HK.out (rowL_length 17 16)] at hO5
  obtain ⟨Ap, cp, hvp, hR5, _⟩ := hO5.form
  have hRp := hR5
  rw [rowL_length] at hvp
  subst hvp
  have hbw5 := HB4.out.trans (off_below HK4.out hF5 hz1 (by omega))
  have hO45 : Own w5 5 w3.heap.size (.slice Ac 16 cc) (enc (rowL 1 16) (rowL 17 16)) := own_keep_ HO4.out (fun k hk => hF5.block k ⟨(HO4.out.lt k hk).2, HV4.out k hk⟩)
  obtain ⟨sq, hsq⟩ : ∃ sq, str (rowL 17 16) = sq := ⟨_, rfl⟩
  have hsc : ∀ w' : World, Below w5.heap.size w5 w' → (convert 22 9 (.slice Ac 16 cc)).run Try.prog w' = .ok (.string ⟨#[105, 196, 224, 216, 106, 123, 4, 48, 216, 205, 183, 128, 112, 180, 197, 90]⟩) w' := fun w' hb => by
    have h0 := hO45.below hb
    obtain ⟨A, c, e, hr, _⟩ := h0.form
    injection e with e1 e2 e3
    subst e1 e3
    have := hr.str Go.Proofs.Ytcbihjcnnfohmaa.u8 9 Try.underlying9 cc
    rw [HEL.out] at this
    rw [this, small_enc]; rfl
  have hsp : ∀ w' : World, Below w5.heap.size w5 w' → (convert 22 9 (.slice Ap 16 cp)).run Try.prog w' = .ok (.string sq) w' := fun w' hb => by
    have := (hRp.below hb).str Go.Proofs.Ytcbihjcnnfohmaa.u8 9 Try.underlying9 cp
    rw [rowL_length] at this
    rw [← hsq]; exact this
  have c0 := hsc w5.drew (Below.refl w5.heap.size w5).drew
  have c1' := hsp w5.drew (Below.refl w5.heap.size w5).drew
  have hz5 := hF5.size
  have HSC := Lib.hid hsc
  have HSP := Lib.hid hsp
  have HSQ := Lib.hid hsq
  have HB5 := Lib.hid hbw5
  clear hO5 hK5 hF5 hB5 hv5 hR5 hRp hbw5 hO45 hsc hsp hsq
  go_wp2_with fail
  refine wp_region_held_drew (S := fun w' => (convert 22 9 (.slice Ac 16 cc)).run Try.prog w' = .ok (.string ⟨#[105, 196, 224, 216, 106, 123, 4, 48, 216, 205, 183, 128, 112, 180, 197, 90]⟩) w' ∧ (convert 22 9 (.slice Ap 16 cp)).run Try.prog w' = .ok (.string sq) w') (by kernel_rfl) (⟨c0, c1'⟩) (fun hHeld => ?_)
  refine wpAnyH_take (i := 0) (v := ?_) rfl (by kernel_rfl) (by kernel_rfl) (by kernel_rfl) (fun _ _ _ h => h) (Or.inl ⟨by kernel_rfl, ?_⟩) (by assumption) ?_
  rotate_left
  · (intro w hSw; (try dsimp only at hSw); go_simp; first | done | with_reducible rfl)
  (try simp only [Act.put, List.setIfInBounds_toArray, List.set_cons_zero, List.set_cons_succ, List.getElem_toArray, List.getElem_cons_zero, List.getElem_cons_succ])
  refine wpAnyH_take (i := 1) (v := ?_) rfl (by kernel_rfl) (by kernel_rfl) (by kernel_rfl) (fun _ _ _ h => h) (Or.inl ⟨by kernel_rfl, ?_⟩) (by assumption) ?_
  rotate_left
  · (intro w hSw; (try dsimp only at hSw); go_simp; first | done | with_reducible rfl)
  (try simp only [Act.put, List.setIfInBounds_toArray, List.set_cons_zero, List.set_cons_succ, List.getElem_toArray, List.getElem_cons_zero, List.getElem_cons_succ])
  refine wpAnyH_take (i := 2) (v := ?_) rfl (by kernel_rfl) (by kernel_rfl) (by kernel_rfl) (fun _ _ _ h => h) (Or.inl ⟨by kernel_rfl, ?_⟩) (by assumption) ?_
  rotate_left
  · (intro w hSw; (try dsimp only at hSw); go_simp; first | done | with_reducible rfl)
  (try simp only [Act.put, List.setIfInBounds_toArray, List.set_cons_zero, List.set_cons_succ, List.getElem_toArray, List.getElem_cons_zero, List.getElem_cons_succ])
  refine wpAnyH_take (i := 3) (v := ?_) rfl (by kernel_rfl) (by kernel_rfl) (by kernel_rfl) (fun _ _ _ h => h) (Or.inl ⟨by kernel_rfl, ?_⟩) (by assumption) ?_
  rotate_left
  · (intro w hSw; (try dsimp only at hSw); go_simp; first | done | with_reducible rfl)
  (try simp only [Act.put, List.setIfInBounds_toArray, List.set_cons_zero, List.set_cons_succ, List.getElem_toArray, List.getElem_cons_zero, List.getElem_cons_succ])
  refine wpAnyH_take (i := 4) (v := ?_) rfl (by kernel_rfl) (by kernel_rfl) (by kernel_rfl) (fun _ _ _ h => h) (Or.inl ⟨by kernel_rfl, ?_⟩) (by assumption) ?_
  rotate_left
  · (intro w hSw; (try dsimp only at hSw); go_simp; first | done | with_reducible rfl)
  (try simp only [Act.put, List.setIfInBounds_toArray, List.set_cons_zero, List.set_cons_succ, List.getElem_toArray, List.getElem_cons_zero, List.getElem_cons_succ])
  refine wpAnyH_take (i := 5) (v := ?_) rfl (by kernel_rfl) (by kernel_rfl) (by kernel_rfl) (fun _ _ _ h => h) (Or.inl ⟨by kernel_rfl, ?_⟩) (by assumption) ?_
  rotate_left
  · (intro w hSw; (try dsimp only at hSw); go_simp; first | done | with_reducible rfl)
  (try simp only [Act.put, List.setIfInBounds_toArray, List.set_cons_zero, List.set_cons_succ, List.getElem_toArray, List.getElem_cons_zero, List.getElem_cons_succ])
  refine wpAnyH_take (i := 6) (v := ?_) rfl (by kernel_rfl) (by kernel_rfl) (by kernel_rfl) (fun _ _ _ h => h) (Or.inl ⟨by kernel_rfl, ?_⟩) (by assumption) ?_
  rotate_left
  · (intro w hSw; (try dsimp only at hSw); go_simp; first | done | with_reducible rfl)
  (try simp only [Act.put, List.setIfInBounds_toArray, List.set_cons_zero, List.set_cons_succ, List.getElem_toArray, List.getElem_cons_zero, List.getElem_cons_succ])
  refine wpAnyH_take (i := 7) (v := ?_) rfl (by kernel_rfl) (by kernel_rfl) (by kernel_rfl) (fun _ _ _ h => h) (Or.inl ⟨by kernel_rfl, ?_⟩) (by assumption) ?_
  rotate_left
  · (intro w hSw; (try dsimp only at hSw); go_simp; first | done | with_reducible rfl)
  (try simp only [Act.put, List.setIfInBounds_toArray, List.set_cons_zero, List.set_cons_succ, List.getElem_toArray, List.getElem_cons_zero, List.getElem_cons_succ])
  refine wpAnyH_take (i := 8) (v := ?_) rfl (by kernel_rfl) (by kernel_rfl) (by kernel_rfl) (fun _ _ _ h => h) (Or.inl ⟨by kernel_rfl, ?_⟩) (by assumption) ?_
  rotate_left
  · (intro w hSw; (try dsimp only at hSw); go_simp; first | done | with_reducible rfl)
  (try simp only [Act.put, List.setIfInBounds_toArray, List.set_cons_zero, List.set_cons_succ, List.getElem_toArray, List.getElem_cons_zero, List.getElem_cons_succ])
  refine wpAnyH_take (i := 9) (v := ?_) rfl (by kernel_rfl) (by kernel_rfl) (by kernel_rfl) (fun _ _ _ h => h) (Or.inl ⟨by kernel_rfl, ?_⟩) (by assumption) ?_
  rotate_left
  · (intro w hSw; (try dsimp only at hSw); go_simp; first | done | with_reducible rfl)
  (try simp only [Act.put, List.setIfInBounds_toArray, List.set_cons_zero, List.set_cons_succ, List.getElem_toArray, List.getElem_cons_zero, List.getElem_cons_succ])
  refine wpAnyH_take (i := 10) (v := ?_) rfl (by kernel_rfl) (by kernel_rfl) (by kernel_rfl) (fun _ _ _ h => h) (Or.inl ⟨by kernel_rfl, ?_⟩) (by assumption) ?_
  rotate_left
  · (intro w hSw; (try dsimp only at hSw); go_simp; first | done | with_reducible rfl)
  (try simp only [Act.put, List.setIfInBounds_toArray, List.set_cons_zero, List.set_cons_succ, List.getElem_toArray, List.getElem_cons_zero, List.getElem_cons_succ])
  refine wpAnyH_take (i := 11) (v := ?_) rfl (by kernel_rfl) (by kernel_rfl) (by kernel_rfl) (fun _ _ _ h => h) (Or.inl ⟨by kernel_rfl, ?_⟩) (by assumption) ?_
  rotate_left
  · (intro w hSw; (try dsimp only at hSw); go_simp; first | done | with_reducible rfl)
  (try simp only [Act.put, List.setIfInBounds_toArray, List.set_cons_zero, List.set_cons_succ, List.getElem_toArray, List.getElem_cons_zero, List.getElem_cons_succ])
  refine wpAnyH_take (i := 12) (v := ?_) rfl (by kernel_rfl) (by kernel_rfl) (by kernel_rfl) (fun _ _ _ h => h) (Or.inl ⟨by kernel_rfl, ?_⟩) (by assumption) ?_
  rotate_left
  · (intro w hSw; (try dsimp only at hSw); go_simp; first | done | with_reducible rfl)
  (try simp only [Act.put, List.setIfInBounds_toArray, List.set_cons_zero, List.set_cons_succ, List.getElem_toArray, List.getElem_cons_zero, List.getElem_cons_succ])
  refine wpAnyH_take (i := 13) (v := ?_) rfl (by kernel_rfl) (by kernel_rfl) (by kernel_rfl) (fun _ _ _ h => h) (Or.inl ⟨by kernel_rfl, ?_⟩) (by assumption) ?_
  rotate_left
  · (intro w hSw; (try dsimp only at hSw); go_simp; first | done | with_reducible rfl)
  (try simp only [Act.put, List.setIfInBounds_toArray, List.set_cons_zero, List.set_cons_succ, List.getElem_toArray, List.getElem_cons_zero, List.getElem_cons_succ])
  refine wpAnyH_ready (rs := [14]) (by kernel_rfl) (by simp) ?_
  refine AllReadyH.cons rfl (fun KK hKK => ?_) AllReadyH.nil
  go_simp
  refine (row17_any _).mono ?_
  rintro e w9 ⟨v9, rfl, hO9, hb9⟩
  obtain ⟨A9, c9, rfl, hR9, _⟩ := hO9.form
  rw [rowL_length] at *
  have hs9 : (convert 22 9 (.slice A9 16 c9)).run Try.prog w9 = .ok (.string sq) w9 := by
    have := hR9.str Go.Proofs.Ytcbihjcnnfohmaa.u8 9 Try.underlying9 c9
    rw [rowL_length] at this
    rw [← HSQ.out]; exact this
  have hb59 : Below w5.heap.size w5 w9 := (Below.refl w5.heap.size w5).drew.trans hb9
  have d0 := HSC.out w9 hb59
  have d1 := HSP.out w9 hb59
  have HB9 := Lib.hid hb59
  clear hO9 hb9 hR9 hb59
  go_wp2_with fail
  refine hKK.out _ _ ?_ (fun hHeld => ?_)
  · (exact ⟨d0, d1⟩)
  clear hKK KK
  (try simp only [Act.put, List.setIfInBounds_toArray, List.set_cons_zero, List.set_cons_succ, List.getElem_toArray, List.getElem_cons_zero, List.getElem_cons_succ])
  refine wpAnyH_ready (rs := [15]) (by kernel_rfl) (by simp) ?_
  refine AllReadyH.cons rfl (fun KK hKK => ?_) AllReadyH.nil
  go_simp
  refine hKK.out _ _ ?_ (fun hHeld => ?_)
  · (exact ⟨d0, d1⟩)
  clear hKK KK
  (try simp only [Act.put, List.setIfInBounds_toArray, List.set_cons_zero, List.set_cons_succ, List.getElem_toArray, List.getElem_cons_zero, List.getElem_cons_succ])
  refine wpAnyH_take (i := 16) (v := ?_) rfl (by kernel_rfl) (by kernel_rfl) (by kernel_rfl) (fun _ _ _ h => h) (Or.inl ⟨by kernel_rfl, ?_⟩) (by assumption) ?_
  rotate_left
  · (intro w hSw; (try dsimp only at hSw); go_simp; first | done | with_reducible rfl)
  (try simp only [Act.put, List.setIfInBounds_toArray, List.set_cons_zero, List.set_cons_succ, List.getElem_toArray, List.getElem_cons_zero, List.getElem_cons_succ])
  refine wpAnyH_take (i := 17) (v := ?_) rfl (by kernel_rfl) (by kernel_rfl) (by kernel_rfl) (fun _ _ _ h => h) (Or.inl ⟨by kernel_rfl, ?_⟩) (by assumption) ?_
  rotate_left
  · (intro w hSw; (try dsimp only at hSw); go_simp; first | done | with_reducible rfl)
  (try simp only [Act.put, List.setIfInBounds_toArray, List.set_cons_zero, List.set_cons_succ, List.getElem_toArray, List.getElem_cons_zero, List.getElem_cons_succ])
  refine wpAnyH_take (i := 18) (v := ?_) rfl (by kernel_rfl) (by kernel_rfl) (by kernel_rfl) (fun _ _ _ h => h) (Or.inl ⟨by kernel_rfl, ?_⟩) (by assumption) ?_
  rotate_left
  · (intro w hSw; (try dsimp only at hSw); go_simp; first | done | with_reducible rfl)
  (try simp only [Act.put, List.setIfInBounds_toArray, List.set_cons_zero, List.set_cons_succ, List.getElem_toArray, List.getElem_cons_zero, List.getElem_cons_succ])
  refine wpAnyH_done (by kernel_rfl) ?_ _
  go_wp2_with fail
  go_ret
  exact ⟨rfl, HB5.out.trans (HB9.out.mono (by have := HB1.out.size; omega))⟩
end Go.Proofs.Ytcbihjcnnfohmaa.Aes
