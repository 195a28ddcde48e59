/- The pad's blocks behind a closure: contracts. -/
import Derived.Test.YtcbihjcnnfohmaaGreatStrPad
namespace Go.Proofs.YtcbihjcnnfohmaaGreat.Str
open Go Go.ChangeShapes Go.WideShapes Go.ChangeAt Go.RowKit Go.Proofs.YtcbihjcnnfohmaaGreat.Aes
set_option linter.unusedVariables false
set_option linter.unusedSimpArgs false

/-- what the closure holds: a key, a nonce -/
structure Strm (w : World) (base : Nat) (B : Nat → Prop) (g pk pn : Nat) (key : Blk) (nonce : Nat) : Prop where
  key : KeyIs w base B g key
  ck : w.cell? ⟨pk, 0, none⟩ = some (.pointer (some ⟨g, 0, none⟩))
  cn : w.cell? ⟨pn, 0, none⟩ = some (.int .i64 (nonce : Int))
  kl : pk < w.heap.size
  nl : pn < w.heap.size
  kb : ¬ B pk
  nb : ¬ B pn
theorem Strm.frame {w w' : World} {base g pk pn nonce : Nat} {B S : Nat → Prop} {key : Blk} (h : Strm w base B g pk pn key nonce) (hf : Frame S w w') (hS : ∀ k, B k → S k) (hk : S pk) (hn : S pn) : Strm w' base B g pk pn key nonce :=
  ⟨h.key.frame hf hS, (World.cell?_of_block (a := ⟨pk, 0, none⟩) (hf.block pk hk)).trans h.ck, (World.cell?_of_block (a := ⟨pn, 0, none⟩) (hf.block pn hn)).trans h.cn, Nat.lt_of_lt_of_le h.kl hf.size, Nat.lt_of_lt_of_le h.nl hf.size, h.kb, h.nb⟩
theorem RdS.elim_off {w : World} {g : Nat} {l : List UInt8} {B : Nat → Prop} (h : RdS w (fun k => k < w.heap.size) (some ⟨g, 0, none⟩) l) (hB : ¬ B g) : RdS w (Off w B) (some ⟨g, 0, none⟩) l := fun h0 => by
  obtain ⟨ad, e, hs, hc⟩ := h h0
  injection e with e
  subst e
  exact ⟨_, rfl, ⟨hs, hB⟩, hc⟩
set_option maxRecDepth 100000 in
set_option maxHeartbeats 2000000 in
theorem at_any (base : Nat) (B : Nat → Prop) (g pk pn : Nat) (key : Blk) (nonce blk : Nat) (hnc : nonce < 9223372036854775808) (hbk : blk < 9223372036854775808) (w : World) (h : Strm w base B g pk pn key nonce) (hbase : base ≤ w.heap.size) :
    Calls Tryz.prog 48 #[.int .i64 (blk : Int), .pointer (some ⟨pk, 0, none⟩), .pointer (some ⟨pn, 0, none⟩)] w fun e w' => ∃ v B', e = .returned v ∧ Own w' 5 w.heap.size v (enc key (cntL nonce blk)) ∧ Strm w' base B' g pk pn key nonce ∧ Frame (Off w B) w w' ∧ (∀ k, B' k → B k ∨ w.heap.size ≤ k) ∧ ∀ k, v.ownBlock = some k → ¬ B' k := by
  have HST := Lib.hid h
  have HNC := Lib.hid hnc
  have HBK := Lib.hid hbk
  clear h hnc hbk
  go_enter Tryz.func48, Tryz.ntmps48
  go_wp2_with fail
  refine wp_region_held_drew (S := fun w' => w'.cell? ⟨pk, 0, none⟩ = some (.pointer (some ⟨g, 0, none⟩)) ∧ w'.cell? ⟨pn, 0, none⟩ = some (.int .i64 (nonce : Int))) (by kernel_rfl) (⟨HST.out.ck, HST.out.cn⟩) (fun hHeld => ?_)
  refine wpAnyH_take (i := 0) (v := ?_) rfl (by kernel_rfl) (by kernel_rfl) (by kernel_rfl) (fun _ _ _ h => h) (Or.inl ⟨by kernel_rfl, ?_⟩) (by assumption) ?_
  rotate_left
  · (intro w hSw; (try dsimp only at hSw); go_simp; first | done | with_reducible rfl)
  (try simp only [Act.put, List.setIfInBounds_toArray, List.set_cons_zero, List.set_cons_succ, List.getElem_toArray, List.getElem_cons_zero, List.getElem_cons_succ])
  refine wpAnyH_take (i := 1) (v := ?_) rfl (by kernel_rfl) (by kernel_rfl) (by kernel_rfl) (fun _ _ _ h => h) (Or.inl ⟨by kernel_rfl, ?_⟩) (by assumption) ?_
  rotate_left
  · (intro w hSw; (try dsimp only at hSw); go_simp; first | done | with_reducible rfl)
  (try simp only [Act.put, List.setIfInBounds_toArray, List.set_cons_zero, List.set_cons_succ, List.getElem_toArray, List.getElem_cons_zero, List.getElem_cons_succ])
  refine wpAnyH_take (i := 2) (v := ?_) rfl (by kernel_rfl) (by kernel_rfl) (by kernel_rfl) (fun _ _ _ h => h) (Or.inl ⟨by kernel_rfl, ?_⟩) (by assumption) ?_
  rotate_left
  · (intro w hSw; (try dsimp only at hSw); go_simp; first | done | with_reducible rfl)
  (try simp only [Act.put, List.setIfInBounds_toArray, List.set_cons_zero, List.set_cons_succ, List.getElem_toArray, List.getElem_cons_zero, List.getElem_cons_succ])
  refine wpAnyH_ready (rs := [3]) (by kernel_rfl) (by simp) ?_
  refine AllReadyH.cons rfl (fun KK hKK => ?_) AllReadyH.nil
  go_simp
  refine (counter_any nonce blk HNC.out HBK.out _).mono ?_
  rintro e w1 ⟨rfl, hg1, hb1⟩
  have hb01 : Below w.heap.size w w1 := (Below.refl w.heap.size w).drew.trans hb1
  have k1 : w1.cell? ⟨pk, 0, none⟩ = some (.pointer (some ⟨g, 0, none⟩)) := (hb01.cell (p := ⟨pk, 0, none⟩) HST.out.kl).trans HST.out.ck
  have n1 : w1.cell? ⟨pn, 0, none⟩ = some (.int .i64 (nonce : Int)) := (hb01.cell (p := ⟨pn, 0, none⟩) HST.out.nl).trans HST.out.cn
  have hst1 : Strm w1 base B g pk pn key nonce := HST.out.frame (Frame.of_below hb01 (S := fun k => k < w.heap.size) (fun k hk => hk)) (fun k hk => (HST.out.key.lt k hk).2) HST.out.kl HST.out.nl
  have hrd : RdS w1 (Off w1 B) (some ⟨w.heap.size, 0, none⟩) (cntL nonce blk) := RdS.elim_off ((row_rd hg1).s (S := fun k => k < w1.heap.size) (fun k hk => hk)) (fun hB => by have := (HST.out.key.lt w.heap.size hB).2; omega)
  have HG1 := Lib.hid hg1
  have HB01 := Lib.hid hb01
  have HST1 := Lib.hid hst1
  have HRD := Lib.hid hrd
  clear hg1 hb1 hb01 hst1 hrd
  go_wp2_with fail
  refine hKK.out _ _ ?_ (fun hHeld => ?_)
  · (exact ⟨k1, n1⟩)
  clear hKK KK
  (try simp only [Act.put, List.setIfInBounds_toArray, List.set_cons_zero, List.set_cons_succ, List.getElem_toArray, List.getElem_cons_zero, List.getElem_cons_succ])
  refine wpAnyH_ready (rs := [4]) (by kernel_rfl) (by simp) ?_
  refine AllReadyH.cons rfl (fun KK hKK => ?_) AllReadyH.nil
  go_simp
  have hz1 := HB01.out.size
  refine (enc_any base B g key (cntL nonce blk) _ 16 _ HST1.out.key (by omega) (cntL_length _ _) (Nat.le_refl _) HRD.out).mono ?_
  rintro e w2 ⟨v2, B2, rfl, hO2, hK2, hF2, hB2, hv2⟩
  have k2 : w2.cell? ⟨pk, 0, none⟩ = some (.pointer (some ⟨g, 0, none⟩)) := (World.cell?_of_block (a := ⟨pk, 0, none⟩) (hF2.block pk ⟨HST1.out.kl, HST1.out.kb⟩)).trans HST1.out.ck
  have n2 : w2.cell? ⟨pn, 0, none⟩ = some (.int .i64 (nonce : Int)) := (World.cell?_of_block (a := ⟨pn, 0, none⟩) (hF2.block pn ⟨HST1.out.nl, HST1.out.nb⟩)).trans HST1.out.cn
  have hst2 : Strm w2 base B2 g pk pn key nonce := ⟨.inr hK2, k2, n2, Nat.lt_of_lt_of_le HST1.out.kl hF2.size, Nat.lt_of_lt_of_le HST1.out.nl hF2.size, fun hb => by
    rcases hB2 pk hb with h | h
    · exact HST1.out.kb h
    · have := HST1.out.kl; omega, fun hb => by
    rcases hB2 pn hb with h | h
    · exact HST1.out.nb h
    · have := HST1.out.nl; omega⟩
  have hf02 : Frame (Off w B) w w2 := Frame.trans (Frame.of_below HB01.out (S := Off w B) (fun k hk => hk.1)) hF2 (fun k hk => ⟨Nat.lt_of_lt_of_le hk.1 hz1, hk.2⟩)
  have HST2 := Lib.hid hst2
  have HF02 := Lib.hid hf02
  have HO2 := Lib.hid (hO2.mono hz1)
  have HB2 := Lib.hid (show ∀ k, B2 k → B k ∨ w.heap.size ≤ k from fun k hk => (hB2 k hk).imp id (fun h => Nat.le_trans hz1 h))
  have HV2 := Lib.hid hv2
  clear hO2 hK2 hF2 hB2 hv2 hst2 hf02
  go_wp2_with fail
  refine hKK.out _ _ ?_ (fun hHeld => ?_)
  · (exact ⟨k2, n2⟩)
  clear hKK KK
  (try simp only [Act.put, List.setIfInBounds_toArray, List.set_cons_zero, List.set_cons_succ, List.getElem_toArray, List.getElem_cons_zero, List.getElem_cons_succ])
  refine wpAnyH_take (i := 5) (v := ?_) rfl (by kernel_rfl) (by kernel_rfl) (by kernel_rfl) (fun _ _ _ h => h) (Or.inl ⟨by kernel_rfl, ?_⟩) (by assumption) ?_
  rotate_left
  · (intro w hSw; (try dsimp only at hSw); go_simp; first | done | with_reducible rfl)
  (try simp only [Act.put, List.setIfInBounds_toArray, List.set_cons_zero, List.set_cons_succ, List.getElem_toArray, List.getElem_cons_zero, List.getElem_cons_succ])
  refine wpAnyH_take (i := 6) (v := ?_) rfl (by kernel_rfl) (by kernel_rfl) (by kernel_rfl) (fun _ _ _ h => h) (Or.inl ⟨by kernel_rfl, ?_⟩) (by assumption) ?_
  rotate_left
  · (intro w hSw; (try dsimp only at hSw); go_simp; first | done | with_reducible rfl)
  (try simp only [Act.put, List.setIfInBounds_toArray, List.set_cons_zero, List.set_cons_succ, List.getElem_toArray, List.getElem_cons_zero, List.getElem_cons_succ])
  refine wpAnyH_take (i := 7) (v := ?_) rfl (by kernel_rfl) (by kernel_rfl) (by kernel_rfl) (fun _ _ _ h => h) (Or.inl ⟨by kernel_rfl, ?_⟩) (by assumption) ?_
  rotate_left
  · (intro w hSw; (try dsimp only at hSw); go_simp; first | done | with_reducible rfl)
  (try simp only [Act.put, List.setIfInBounds_toArray, List.set_cons_zero, List.set_cons_succ, List.getElem_toArray, List.getElem_cons_zero, List.getElem_cons_succ])
  refine wpAnyH_take (i := 8) (v := ?_) rfl (by kernel_rfl) (by kernel_rfl) (by kernel_rfl) (fun _ _ _ h => h) (Or.inl ⟨by kernel_rfl, ?_⟩) (by assumption) ?_
  rotate_left
  · (intro w hSw; (try dsimp only at hSw); go_simp; first | done | with_reducible rfl)
  (try simp only [Act.put, List.setIfInBounds_toArray, List.set_cons_zero, List.set_cons_succ, List.getElem_toArray, List.getElem_cons_zero, List.getElem_cons_succ])
  refine wpAnyH_take (i := 9) (v := ?_) rfl (by kernel_rfl) (by kernel_rfl) (by kernel_rfl) (fun _ _ _ h => h) (Or.inl ⟨by kernel_rfl, ?_⟩) (by assumption) ?_
  rotate_left
  · (intro w hSw; (try dsimp only at hSw); go_simp; first | done | with_reducible rfl)
  (try simp only [Act.put, List.setIfInBounds_toArray, List.set_cons_zero, List.set_cons_succ, List.getElem_toArray, List.getElem_cons_zero, List.getElem_cons_succ])
  refine wpAnyH_done (by kernel_rfl) ?_ _
  go_wp2_with fail
  go_ret
  exact ⟨v2, B2, rfl, HO2.out, HST2.out, HF02.out, HB2.out, HV2.out⟩
set_option maxRecDepth 100000 in
set_option maxHeartbeats 1000000 in
theorem blocks_yes (A : Option Addr) (n c : Nat) (l : List UInt8) (nonce : Nat) (hnc : nonce < 9223372036854775808) (w : World) (Bd : Nat) (hB : Bd ≤ w.heap.size) (hn : l.length = n) (hr : Rd w Bd A l) (hk : KeyOk l) :
    Calls Tryz.prog 36 #[.slice A n c, .int .i64 (nonce : Int)] w fun e w' => ∃ g pk pn B, e = .returned (.tuple #[.func (.func 48) #[] #[.pointer (some ⟨pk, 0, none⟩), .pointer (some ⟨pn, 0, none⟩)], .int .i64 0]) ∧ Strm w' w.heap.size B g pk pn l nonce ∧ w.heap.size ≤ pk ∧ w.heap.size ≤ pn ∧ Below w.heap.size w w' := by
  have HK := Lib.hid hk
  have HN := Lib.hid hn
  have hra := hr.alloc hB (.cells #[.int .i64 (nonce : Int)] 3)
  have HR := Lib.hid hra
  have hmf : ∀ (fn : Fn) (first cap : Array Value) (w : World), (Instr.makeFunc fn first cap).run Tryz.prog w = .ok (.func fn first cap) w := fun _ _ _ _ => rfl
  have n0 : (0 : Int) ≤ (nonce : Int) := by omega
  clear hr hra hk hn hnc
  go_enter Tryz.func36, Tryz.ntmps36
  go_wp2_with fail
  refine (Aes.new_any A n c l _ Bd (by simp; omega) HN.out HR.out HK.out).mono ?_
  rintro e w1 ⟨g, B1, rfl, hK1, hb1⟩
  have hz1 : w.heap.size + 1 ≤ w1.heap.size := by have := hb1.size; simpa using this
  have hn1 : w1.cell? ⟨w.heap.size, 0, none⟩ = some (.int .i64 (nonce : Int)) := by
    rw [hb1.cell (p := ⟨w.heap.size, 0, none⟩) (by show w.heap.size < (w.alloc (.cells #[.int .i64 (nonce : Int)] 3)).heap.size; simp), cell_of_row _ _ 0 _ _ (0, 0) (heap_alloc_new w _)]; rfl
  have hn1' : (w1.alloc (.cells #[.pointer (some ⟨g, 0, none⟩)] 74)).cell? ⟨w.heap.size, 0, none⟩ = some (.int .i64 (nonce : Int)) := (World.cell?_alloc_lt w1 _ ⟨w.heap.size, 0, none⟩ (by show w.heap.size < _; omega)).trans hn1
  have hk1' : (w1.alloc (.cells #[.pointer (some ⟨g, 0, none⟩)] 74)).cell? ⟨w1.heap.size, 0, none⟩ = some (.pointer (some ⟨g, 0, none⟩)) := by
    rw [cell_of_row _ _ 0 _ _ (0, 0) (heap_alloc_new w1 _)]; rfl
  have hlt := KeyIs.lt (.inl hK1)
  have hst : Strm (w1.alloc (.cells #[.pointer (some ⟨g, 0, none⟩)] 74)) w.heap.size B1 g w1.heap.size w.heap.size l nonce := by
    refine ⟨?_, hk1', hn1', by simp, by simp; omega, fun hb => by have := (hlt _ hb).2; omega, fun hb => by have := (hlt _ hb).1; simp at this; omega⟩
    have h0 := KeyIs.below_ (.inl hK1) ((Below.refl w1.heap.size w1).alloc (Nat.le_refl _) (.cells #[.pointer (some ⟨g, 0, none⟩)] 74))
    rcases h0 with ⟨raw, hx⟩ | ⟨raw, rv, hx, hr⟩
    · exact .inl ⟨raw, hx.obj, hx.ok, hx.own.mono (by simp), hx.bg, hx.braw, hx.brv, fun k hk => ⟨by have := (hx.lt k hk).1; simp at this; omega, (hx.lt k hk).2⟩⟩
    · exact .inr ⟨raw, rv, ⟨hx.obj, hx.ok, hx.own.mono (by simp), hx.bg, hx.braw, hx.brv, fun k hk => ⟨by have := (hx.lt k hk).1; simp at this; omega, (hx.lt k hk).2⟩⟩, roww_mono hr (fun k hk => by have := (World.ownsRow.lt hr k hk).1; simp at this; omega)⟩
  have HST := Lib.hid hst
  have HBB := Lib.hid ((((Below.refl w.heap.size w).alloc (Nat.le_refl _) (.cells #[.int .i64 (nonce : Int)] 3)).trans (hb1.mono (by simp))).alloc (by omega) (.cells #[.pointer (some ⟨g, 0, none⟩)] 74))
  clear hK1 hb1 hn1 hlt hst
  go_wp2_with fail
  go_ret2
  exact ⟨g, w1.heap.size, w.heap.size, B1, rfl, HST.out, by omega, Nat.le_refl _, HBB.out⟩
set_option maxRecDepth 100000 in
theorem blocks_no (A : Option Addr) (n c : Nat) (l : List UInt8) (nonce : Int) (w : World) (Bd : Nat) (hB : Bd ≤ w.heap.size) (hn : l.length = n) (hr : Rd w Bd A l) (h : ¬ KeyOk l ∨ nonce < 0) :
    Calls Tryz.prog 36 #[.slice A n c, .int .i64 nonce] w fun e w' => e = .returned (.tuple #[Value.nilFunc, .int .i64 1]) ∧ Below w.heap.size w w' := by
  have HN := Lib.hid hn
  have hra := hr.alloc hB (.cells #[.int .i64 nonce] 3)
  have HR := Lib.hid hra
  clear hr hra hn
  by_cases hk : KeyOk l
  · have hneg : nonce < 0 := h.resolve_left (fun h' => h' hk)
    have HK := Lib.hid hk
    clear h hk
    go_enter Tryz.func36, Tryz.ntmps36
    go_wp2_with fail
    refine (Aes.new_any A n c l _ Bd (by simp; omega) HN.out HR.out HK.out).mono ?_
    rintro e w1 ⟨g, B1, rfl, hK1, hb1⟩
    have hz1 : w.heap.size + 1 ≤ w1.heap.size := by have := hb1.size; simpa using this
    have hn1 : w1.cell? ⟨w.heap.size, 0, none⟩ = some (.int .i64 nonce) := by
      rw [hb1.cell (p := ⟨w.heap.size, 0, none⟩) (by show w.heap.size < (w.alloc (.cells #[.int .i64 nonce] 3)).heap.size; simp), cell_of_row _ _ 0 _ _ (0, 0) (heap_alloc_new w _)]; rfl
    have hn1' : (w1.alloc (.cells #[.pointer (some ⟨g, 0, none⟩)] 74)).cell? ⟨w.heap.size, 0, none⟩ = some (.int .i64 nonce) := (World.cell?_alloc_lt w1 _ ⟨w.heap.size, 0, none⟩ (by show w.heap.size < _; omega)).trans hn1
    have HBB := Lib.hid ((((Below.refl w.heap.size w).alloc (Nat.le_refl _) (.cells #[.int .i64 nonce] 3)).trans (hb1.mono (by simp))).alloc (by omega) (.cells #[.pointer (some ⟨g, 0, none⟩)] 74))
    clear hK1 hb1 hn1
    go_wp2_with fail
    go_ret2
    exact ⟨rfl, HBB.out⟩
  · have HK := Lib.hid hk
    clear h hk
    go_enter Tryz.func36, Tryz.ntmps36
    go_wp2_with fail
    refine (Aes.new_no A n c l _ HN.out HK.out).mono ?_
    rintro e w1 ⟨rfl, rfl⟩
    go_wp2_with fail
    go_ret2
    exact ⟨rfl, ((Below.refl w.heap.size w).alloc (Nat.le_refl _) _).alloc (by simp) _⟩
end Go.Proofs.YtcbihjcnnfohmaaGreat.Str
