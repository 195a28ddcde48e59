/- The law 'SlotsPlays' answers true for every input, and its arguments read afterwards as before; no condition. The frame follows the kit's skeleton; the walk is ours. -/
import Derived.Test.YtjlmgniachdfgaaRows
import Derived.Test.YtjlmgniachdfgaaArgs
import Derived.Test.YtjlmgniachdfgaaArgA2
import Derived.Test.YtjlmgniachdfgaaSlPlay
import Derived.Deep.RegionHeld
import Derived.Deep.DrawnRows
import Derived.WalkKit
import Derived.ProofKit
import Derived.OpenShut
import Derived.ShutString
import Derived.ChangeOld
import Derived.Below
import Derived.SizedLaws
namespace Go.Proofs.Ytjlmgniachdfgaa.slotsPlays
open Go.ChangeShapes Go.WideShapes Go.ChangeAt Go.RowKit
set_option linter.unusedVariables false

theorem own : ownKnob Try.prog.godebug = none := by kernel_rfl
theorem laidOut : laidOutB Try.prog = true := by kernel_rfl

open Slots
set_option linter.unusedSimpArgs false

set_option maxRecDepth 100000 in
set_option maxHeartbeats 8000000 in
theorem walk (a0 : Int) (a1 : Option Addr) (len1 cap1 : Nat) (as1 : List ActP) (w : World) (w0 : (Lit.int .i64 a0).wf = true) (w1 : ArgA2 w a1 len1 cap1 as1) :
    Calls Try.prog 5 #[.int .i64 a0, .slice a1 len1 cap1] w fun e w' => e = .returned (.bool true) ∧ Below w.heap.size w w' := by
  obtain ⟨hb00, hb01⟩ := bounds_i64 w0
  obtain ⟨⟨hl1, hf1, hm1, hr1, hok1⟩, hsm1⟩ := w1
  clear w0
  by_cases hn : 1 ≤ a0 ∧ a0 ≤ 64
  · obtain ⟨hn1, hn64⟩ := hn
    obtain ⟨n, rfl⟩ := Int.eq_ofNat_of_zero_le (show 0 ≤ a0 by omega)
    have n1 : 1 ≤ n := by omega
    have n64 : n ≤ 64 := by omega
    have HL := Lib.hid hl1
    have HR := Lib.hid hr1
    have HOK := Lib.hid hok1
    have HSM := Lib.hid hsm1
    clear hl1 hr1 hok1 hsm1
    go_enter Try.func5, Try.ntmps5
    go_wp2_with fail
    refine (small_any _).mono ?_
    rintro e w1 ⟨rfl, hb1⟩
    have hz1 := hb1.size
    go_wp2_with fail
    refine (new_yes n n1 n64 _).mono ?_
    rintro e w2 ⟨g, tag2, rfl, h2, hb2⟩
    have hbw2 := hb1.trans (hb2.mono hz1)
    have hz12 := hb2.size
    have H2 := Lib.hid h2
    have HB2 := Lib.hid hbw2
    clear h2 hb2 hbw2
    go_wp2_with fail
    refine (dnew_yes n n1 n64 _).mono ?_
    rintro e w3 ⟨h, rfl, ⟨dom3, h3⟩, hb3⟩
    have hbw3 := HB2.out.trans (hb3.mono (Nat.le_trans hz1 hz12))
    have hz13 := Nat.le_trans hz12 hb3.size
    have hT3 := Both.new H2.out hb3 h3 hz12
    have HT := Lib.hid hT3
    have HB3 := Lib.hid hbw3
    clear h3 hb3 hbw3 hT3 H2 HB2
    go_wp2_with fail
    go_loopw [10] (fun i wr => ∃ (k K L : Nat) (tg : Tags) (dom : Nat → Prop) (q : Qs), k ≤ len1 ∧ k ≤ 200 ∧ K ≤ k ∧ L ≤ k ∧ i = .int .i64 k ∧ Both wr w1.heap.size tg dom g h n K K L q q ∧ w1.heap.size ≤ wr.heap.size ∧ Below w.heap.size w wr) (fun i _ => len1 - (intOf i).toNat)
    case atStart => exact ⟨0, 0, 0, tag2, dom3, _, by omega, by omega, by omega, by omega, rfl, HT.out, hz13, HB3.out⟩
    case round =>
      obtain ⟨k, K, L, tg, dom, q, hk, hk200, hKk, hLk, rfl, hT, hzr, hbr⟩ := hrel
      clear HT HB3
      have HT := Lib.hid hT
      have HBR := Lib.hid hbr
      clear hT hbr
      by_cases hgo : k < len1 ∧ k < 200
      · obtain ⟨hlt, hlt200⟩ := hgo
        obtain ⟨ad, hA, hSb, hc⟩ := HR.out (by rw [HL.out]; omega)
        subst hA
        have hkl : k < as1.length := by rw [HL.out]; exact hlt
        obtain ⟨x0, x1, x2⟩ := hc k hkl
        have hpk := HOK.out as1[k] (List.getElem_mem hkl)
        have hsk := HSM.out as1[k] (List.getElem_mem hkl)
        generalize as1[k] = ap at *
        obtain ⟨pd, pn, pA, pm, pc, pl⟩ := ap
        obtain ⟨p1, p2, p3, p4, p5, p6, p7, p8⟩ := hpk
        simp only at p1 p2 p3 p4 p5 p6 p7 p8 x0 x1 x2 hsk
        have y0 := (HBR.out.cell (p := ad.add (k * 3)) (by rw [add_block]; exact hSb)).trans x0
        have y1 := (HBR.out.cell (p := ad.add (k * 3 + 1)) (by rw [add_block]; exact hSb)).trans x1
        have y2 := (HBR.out.cell (p := ad.add (k * 3 + 2)) (by rw [add_block]; exact hSb)).trans x2
        rw [add_plus _ _ _ (by omega)] at y1 y2
        have HP5 := Lib.hid p5
        have HP8 := Lib.hid p8
        have HSK := Lib.hid hsk
        have hT0 : Both (wr.alloc (.cells #[.int .i64 pd, .int .i64 pn, .slice pA pm pc] 40)) w1.heap.size tg dom g h n K K L q q := HT.out.below_ ((Below.refl _ _).alloc (Nat.le_refl _) _)
        have hb0 : Below w.heap.size w (wr.alloc (.cells #[.int .i64 pd, .int .i64 pn, .slice pA pm pc] 40)) := HBR.out.alloc HBR.out.size _
        have hr0 : RowV (wr.alloc (.cells #[.int .i64 pd, .int .i64 pn, .slice pA pm pc] 40)) 40 wr.heap.size [.int .i64 pd, .int .i64 pn, .slice pA pm pc] := heap_alloc_new wr _
        have hzs : (wr.alloc (.cells #[.int .i64 pd, .int .i64 pn, .slice pA pm pc] 40)).heap.size = wr.heap.size + 1 := by simp
        have hq0 := HT.out.free (o := (.cells #[.int .i64 pd, .int .i64 pn, .slice pA pm pc] 40))
        have HT0 := Lib.hid hT0
        have HB0 := Lib.hid hb0
        have HR0 := Lib.hid hr0
        have HQ0 := Lib.hid hq0
        have HZS := Lib.hid hzs
        clear p5 p8 x0 x1 x2 hc hT0 hb0 hr0 hq0 hzs hsk HT HBR
        by_cases hd0 : pd = 0
        · subst hd0
          go_wp2_with fail
          generalize wr.alloc (.cells #[.int .i64 0, .int .i64 pn, .slice pA pm pc] 40) = W at *
          refine (lent_any pA pm pc pl W w.heap.size HB0.out.size HP5.out (by have := HSK.out; omega) (HP8.out.below HB0.out)).mono ?_
          rintro e w4 ⟨rfl, hrow4, hb4⟩
          have hT4 := HT0.out.below_ hb4
          have hB4 := HB0.out.trans (hb4.mono HB0.out.size)
          have hzW : wr.heap.size < W.heap.size := by rw [HZS.out]; omega
          have hR4 : RowV w4 40 wr.heap.size [.int .i64 0, .int .i64 pn, .slice pA pm pc] := HR0.out.keep (hb4.block _ hzW)
          have hfz := HT0.out.fresh (Nat.le_refl W.heap.size)
          have hz4 := hb4.size
          have hlz : W.heap.size < w4.heap.size := hrow4.lt
          have c41 := hR4.cell (i := 1) rfl
          have HT4 := Lib.hid hT4
          have HB4 := Lib.hid hB4
          have HR4 := Lib.hid hR4
          have HW4 := Lib.hid hrow4
          have HFZ := Lib.hid hfz
          clear hT4 hB4 hR4 hrow4 hb4 hfz HT0
          generalize W.heap.size = z at *
          go_wp2_with fail
          refine (put_any w1.heap.size tg g n K q pn (some ⟨z, 0, none⟩) pm (pm + 1) pl w4 w4.heap.size (Nat.le_refl _) n64 HT4.out.s (by omega) HP5.out HW4.out.rd_take).mono ?_
          rintro e w5 ⟨tg5, rfl, h5, hF5, ht5⟩
          have hT5 := HT4.out.left h5 hF5 ht5
          have hB5 := HB4.out.trans (HT4.out.s.rest hF5 hz1 (by omega))
          have hz5 := hF5.size
          have hRr : Slots.Rest w4 tg wr.heap.size := ⟨by omega, HQ0.out.1.2⟩
          have hR5 := HR4.out.keep (hF5.block _ hRr)
          have hW5 : Row w5 5 z (pl ++ [77]) := (hF5.block z ⟨hlz, HFZ.out.1⟩).trans HW4.out
          have hq5 : tg5 z = none := by
            cases e5 : tg5 z with
            | none => rfl
            | some x => rcases ht5 z (by rw [e5]; simp) with h1 | h1
                        · exact absurd HFZ.out.1 h1
                        · omega
          have hqr5 : tg5 wr.heap.size = none := by
            cases e5 : tg5 wr.heap.size with
            | none => rfl
            | some x => rcases ht5 wr.heap.size (by rw [e5]; simp) with h1 | h1
                        · exact absurd HQ0.out.1.2 h1
                        · omega
          have c52 := hR5.cell (i := 2) rfl
          have HT5 := Lib.hid hT5
          have HB5 := Lib.hid hB5
          have HR5 := Lib.hid hR5
          have HW5 := Lib.hid hW5
          have HQ5 := Lib.hid (And.intro hq5 HFZ.out.2)
          clear hT5 hB5 hR5 hW5 hq5 hRr h5 hF5 ht5 HT4 HB4 HR4 HW4 HFZ
          generalize hE : putE n q pn pl = E at *
          have HE := Lib.hid hE
          clear hE
          go_wp2_with fail
          refine (kept_any pA pm pc z pl w5 w.heap.size HP5.out (by have := HSK.out; omega) (HP8.out.below HB5.out) HW5.out).mono ?_
          rintro e w6 ⟨rfl, rfl⟩
          go_wp2_with fail
          refine (owned1_any w5 ⟨some z, pm, pm + 1⟩ z (by
            have h0 := orow_row HW5.out (n := pm) (m := pm + 1) (by omega) (by rw [List.length_append, HP5.out]; rfl) (by have := HSK.out; omega)
            exact ⟨h0.fit, fun b e => by obtain ⟨e1, _, e3⟩ := h0.own b e; exact ⟨e1, by injection e with e; omega, e3⟩⟩)).mono ?_
          rintro e w7 ⟨rfl, hF7⟩
          have hT7 := HT5.out.owned hF7 (fun b e => by injection e with e; subst e; exact HQ5.out)
          have hB7 := HB5.out.trans (owned_below hF7 (fun b e => by injection e with e; have := HB0.out.size; omega) HB5.out.size)
          have hR7 := HR5.out.keep (hF7.block _ ⟨by omega, fun e => by injection e with e; omega⟩)
          have hz7 := hF7.size
          have c71 := hR7.cell (i := 1) rfl
          have c72 := hR7.cell (i := 2) rfl
          have HT7 := Lib.hid hT7
          have HB7 := Lib.hid hB7
          have HR7 := Lib.hid hR7
          clear hF7 hT7 hB7 hR7 HT5 HB5 HR5 HW5 HQ5 c52 c41
          go_wp2_with fail
          refine (dput_any w1.heap.size dom h n K L q pn pA pm pc pl w7 (by omega) n64 HT7.out.d (by omega) HP5.out ((HP8.out.below HB7.out).more HB7.out.size)).mono ?_
          rw [HE.out]
          rintro e w8 ⟨rfl, dom8, h8, hF8, ht8⟩
          have hT8 := HT7.out.right h8 hF8 ht8
          have hB8 := HB7.out.trans (HT7.out.d.rest hF8 hz1 (by omega))
          have hz8 := hF8.size
          have hR8 := HR7.out.keep (hF8.block _ ⟨by omega, HQ0.out.2.2⟩)
          have HT8 := Lib.hid hT8
          have HB8 := Lib.hid hB8
          have HR8 := Lib.hid hR8
          clear h8 hF8 ht8 hT8 hB8 hR8 HT7 HB7 HR7 c71 c72
          generalize putQ n q pn pl = q8 at *
          go_wp2_with fail
          refine wp_region_held_drew (S := fun w' => w'.cell? ⟨wr.heap.size, 1, none⟩ = some (.int .i64 pn) ∧ w'.cell? ⟨h, 2, none⟩ = some (.int .i64 (K : Int))) (by kernel_rfl) (⟨HR8.out.cell (i := 1) rfl, HT8.out.d.slot⟩) (fun hHeld => ?_)
          refine wpAnyH_take (i := 0) (v := ?_) rfl (by kernel_rfl) (by kernel_rfl) (by kernel_rfl) (fun _ _ _ h => h) (Or.inl ⟨by kernel_rfl, ?_⟩) (by assumption) ?_
          rotate_left
          · (intro w hSw; (try dsimp only at hSw); go_simp; first | done | with_reducible rfl)
          (try simp only [Act.put, List.setIfInBounds_toArray, List.set_cons_zero, List.set_cons_succ, List.getElem_toArray, List.getElem_cons_zero, List.getElem_cons_succ])
          refine wpAnyH_take (i := 1) (v := ?_) rfl (by kernel_rfl) (by kernel_rfl) (by kernel_rfl) (fun _ _ _ h => h) (Or.inl ⟨by kernel_rfl, ?_⟩) (by assumption) ?_
          rotate_left
          · (intro w hSw; (try dsimp only at hSw); go_simp; first | done | with_reducible rfl)
          (try simp only [Act.put, List.setIfInBounds_toArray, List.set_cons_zero, List.set_cons_succ, List.getElem_toArray, List.getElem_cons_zero, List.getElem_cons_succ])
          refine wpAnyH_take (i := 2) (v := ?_) rfl (by kernel_rfl) (by kernel_rfl) (by kernel_rfl) (fun _ _ _ h => h) (Or.inl ⟨by kernel_rfl, ?_⟩) (by assumption) ?_
          rotate_left
          · (intro w hSw; (try dsimp only at hSw); go_simp; first | done | with_reducible rfl)
          (try simp only [Act.put, List.setIfInBounds_toArray, List.set_cons_zero, List.set_cons_succ, List.getElem_toArray, List.getElem_cons_zero, List.getElem_cons_succ])
          refine wpAnyH_take (i := 4) (v := ?_) rfl (by kernel_rfl) (by kernel_rfl) (by kernel_rfl) (fun _ _ _ h => h) (Or.inl ⟨by kernel_rfl, ?_⟩) (by assumption) ?_
          rotate_left
          · (intro w hSw; (try dsimp only at hSw); go_simp; first | done | with_reducible rfl)
          (try simp only [Act.put, List.setIfInBounds_toArray, List.set_cons_zero, List.set_cons_succ, List.getElem_toArray, List.getElem_cons_zero, List.getElem_cons_succ])
          refine wpAnyH_take (i := 5) (v := ?_) rfl (by kernel_rfl) (by kernel_rfl) (by kernel_rfl) (fun _ _ _ h => h) (Or.inl ⟨by kernel_rfl, ?_⟩) (by assumption) ?_
          rotate_left
          · (intro w hSw; (try dsimp only at hSw); go_simp; first | done | with_reducible rfl)
          (try simp only [Act.put, List.setIfInBounds_toArray, List.set_cons_zero, List.set_cons_succ, List.getElem_toArray, List.getElem_cons_zero, List.getElem_cons_succ])
          refine wpAnyH_take (i := 6) (v := ?_) rfl (by kernel_rfl) (by kernel_rfl) (by kernel_rfl) (fun _ _ _ h => h) (Or.inl ⟨by kernel_rfl, ?_⟩) (by assumption) ?_
          rotate_left
          · (intro w hSw; (try dsimp only at hSw); go_simp; first | done | with_reducible rfl)
          (try simp only [Act.put, List.setIfInBounds_toArray, List.set_cons_zero, List.set_cons_succ, List.getElem_toArray, List.getElem_cons_zero, List.getElem_cons_succ])
          refine wpAnyH_ready (rs := [3]) (by kernel_rfl) (by simp) ?_
          refine AllReadyH.cons rfl (fun KK hKK => ?_) AllReadyH.nil
          go_simp
          refine (count_any w1.heap.size tg5 g n K q8 pn _ n64 (HT8.out.below_ (Below.refl _ _).drew).s).mono ?_
          rintro e w' ⟨rfl, rfl⟩
          go_wp2_with fail
          refine hKK.out _ _ ?_ (fun hHeld => ?_)
          · (exact ⟨HR8.out.cell (i := 1) rfl, HT8.out.d.slot⟩)
          clear hKK KK
          (try simp only [Act.put, List.setIfInBounds_toArray, List.set_cons_zero, List.set_cons_succ, List.getElem_toArray, List.getElem_cons_zero, List.getElem_cons_succ])
          refine wpAnyH_ready (rs := [7]) (by kernel_rfl) (by simp) ?_
          refine AllReadyH.cons rfl (fun KK hKK => ?_) AllReadyH.nil
          go_simp
          refine (dcount_any w1.heap.size dom8 h n K (L + 1) q8 pn _ (by omega) (HT8.out.below_ (Below.refl _ _).drew).d).mono ?_
          rintro e w' ⟨rfl, rfl⟩
          go_wp2_with fail
          refine hKK.out _ _ ?_ (fun hHeld => ?_)
          · (exact ⟨HR8.out.cell (i := 1) rfl, HT8.out.d.slot⟩)
          clear hKK KK
          (try simp only [Act.put, List.setIfInBounds_toArray, List.set_cons_zero, List.set_cons_succ, List.getElem_toArray, List.getElem_cons_zero, List.getElem_cons_succ])
          refine wpAnyH_take (i := 8) (v := ?_) rfl (by kernel_rfl) (by kernel_rfl) (by kernel_rfl) (fun _ _ _ h => h) (Or.inl ⟨by kernel_rfl, ?_⟩) (by assumption) ?_
          rotate_left
          · (intro w hSw; (try dsimp only at hSw); go_simp; first | done | with_reducible rfl)
          (try simp only [Act.put, List.setIfInBounds_toArray, List.set_cons_zero, List.set_cons_succ, List.getElem_toArray, List.getElem_cons_zero, List.getElem_cons_succ])
          refine wpAnyH_take (i := 9) (v := ?_) rfl (by kernel_rfl) (by kernel_rfl) (by kernel_rfl) (fun _ _ _ h => h) (Or.inl ⟨by kernel_rfl, ?_⟩) (by assumption) ?_
          rotate_left
          · (intro w hSw; (try dsimp only at hSw); go_simp; first | done | with_reducible rfl)
          (try simp only [Act.put, List.setIfInBounds_toArray, List.set_cons_zero, List.set_cons_succ, List.getElem_toArray, List.getElem_cons_zero, List.getElem_cons_succ])
          refine wpAnyH_take (i := 10) (v := ?_) rfl (by kernel_rfl) (by kernel_rfl) (by kernel_rfl) (fun _ _ _ h => h) (Or.inl ⟨by kernel_rfl, ?_⟩) (by assumption) ?_
          rotate_left
          · (intro w hSw; (try dsimp only at hSw); go_simp; first | done | with_reducible rfl)
          (try simp only [Act.put, List.setIfInBounds_toArray, List.set_cons_zero, List.set_cons_succ, List.getElem_toArray, List.getElem_cons_zero, List.getElem_cons_succ])
          refine wpAnyH_take (i := 12) (v := ?_) rfl (by kernel_rfl) (by kernel_rfl) (by kernel_rfl) (fun _ _ _ h => h) (Or.inl ⟨by kernel_rfl, ?_⟩) (by assumption) ?_
          rotate_left
          · (intro w hSw; (try dsimp only at hSw); go_simp; first | done | with_reducible rfl)
          (try simp only [Act.put, List.setIfInBounds_toArray, List.set_cons_zero, List.set_cons_succ, List.getElem_toArray, List.getElem_cons_zero, List.getElem_cons_succ])
          refine wpAnyH_take (i := 13) (v := ?_) rfl (by kernel_rfl) (by kernel_rfl) (by kernel_rfl) (fun _ _ _ h => h) (Or.inl ⟨by kernel_rfl, ?_⟩) (by assumption) ?_
          rotate_left
          · (intro w hSw; (try dsimp only at hSw); go_simp; first | done | with_reducible rfl)
          (try simp only [Act.put, List.setIfInBounds_toArray, List.set_cons_zero, List.set_cons_succ, List.getElem_toArray, List.getElem_cons_zero, List.getElem_cons_succ])
          refine wpAnyH_take (i := 14) (v := ?_) rfl (by kernel_rfl) (by kernel_rfl) (by kernel_rfl) (fun _ _ _ h => h) (Or.inl ⟨by kernel_rfl, ?_⟩) (by assumption) ?_
          rotate_left
          · (intro w hSw; (try dsimp only at hSw); go_simp; first | done | with_reducible rfl)
          (try simp only [Act.put, List.setIfInBounds_toArray, List.set_cons_zero, List.set_cons_succ, List.getElem_toArray, List.getElem_cons_zero, List.getElem_cons_succ])
          refine wpAnyH_take (i := 15) (v := ?_) rfl (by kernel_rfl) (by kernel_rfl) (by kernel_rfl) (fun _ _ _ h => h) (Or.inl ⟨by kernel_rfl, ?_⟩) (by assumption) ?_
          rotate_left
          · (intro w hSw; (try dsimp only at hSw); go_simp; first | done | with_reducible rfl)
          (try simp only [Act.put, List.setIfInBounds_toArray, List.set_cons_zero, List.set_cons_succ, List.getElem_toArray, List.getElem_cons_zero, List.getElem_cons_succ])
          refine wpAnyH_ready (rs := [11]) (by kernel_rfl) (by simp) ?_
          refine AllReadyH.cons rfl (fun KK hKK => ?_) AllReadyH.nil
          go_simp
          refine (slot_any w1.heap.size tg5 g n K q8 _ (HT8.out.below_ (Below.refl _ _).drew).s).mono ?_
          rintro e w' ⟨rfl, rfl⟩
          go_wp2_with fail
          refine hKK.out _ _ ?_ (fun hHeld => ?_)
          · (exact ⟨HR8.out.cell (i := 1) rfl, HT8.out.d.slot⟩)
          clear hKK KK
          (try simp only [Act.put, List.setIfInBounds_toArray, List.set_cons_zero, List.set_cons_succ, List.getElem_toArray, List.getElem_cons_zero, List.getElem_cons_succ])
          refine wpAnyH_take (i := 16) (v := ?_) rfl (by kernel_rfl) (by kernel_rfl) (by kernel_rfl) (fun _ _ _ h => h) (Or.inl ⟨by kernel_rfl, ?_⟩) (by assumption) ?_
          rotate_left
          · (intro w hSw; (try dsimp only at hSw); go_simp; first | done | with_reducible rfl)
          (try simp only [Act.put, List.setIfInBounds_toArray, List.set_cons_zero, List.set_cons_succ, List.getElem_toArray, List.getElem_cons_zero, List.getElem_cons_succ])
          refine wpAnyH_take (i := 17) (v := ?_) rfl (by kernel_rfl) (by kernel_rfl) (by kernel_rfl) (fun _ _ _ h => h) (Or.inl ⟨by kernel_rfl, ?_⟩) (by assumption) ?_
          rotate_left
          · (intro w hSw; (try dsimp only at hSw); go_simp; first | done | with_reducible rfl)
          (try simp only [Act.put, List.setIfInBounds_toArray, List.set_cons_zero, List.set_cons_succ, List.getElem_toArray, List.getElem_cons_zero, List.getElem_cons_succ])
          refine wpAnyH_done (by kernel_rfl) ?_ _
          go_wp2_with fail
          go_roundw
          case rel => exact ⟨k + 1, K, (L + 1), tg5, dom8, q8, by omega, by omega, by omega, by omega, by go_num, (HT8.out.below_ (Below.refl _ _).drew), (show w1.heap.size ≤ w8.heap.size from by omega), HB8.out.drew⟩
          case measure => simp [intOf] <;> omega
        · by_cases hd1 : pd = 1
          · subst hd1
            go_wp2_with fail
            generalize wr.alloc (.cells #[.int .i64 1, .int .i64 pn, .slice pA pm pc] 40) = W at *
            have hTk := turnOf_ok (K := K) n1
            refine (next_any w1.heap.size tg g n K q _ n1 n64 (by omega) HT0.out.s).mono ?_
            rintro e w4 ⟨A4, m4, c4, tg4, l4, hm4, hl4, rfl, hv4, ht4, h4, hs4, hz4, hF4⟩
            have hT4 := HT0.out.left h4 hF4 (fun b hb => .inl (hs4 b hb))
            have hB4 := HB0.out.trans (HT0.out.s.rest hF4 hz1 (by rw [HZS.out]; omega))
            have hzW : wr.heap.size < W.heap.size := by rw [HZS.out]; omega
            have hR4 := HR0.out.keep (hF4.block _ ⟨hzW, HQ0.out.1.2⟩)
            have HV4 := Lib.hid hv4
            have HBL := Lib.hid (fun (b : Nat) (e : Value.ownBlock (.slice A4 m4 c4) = some b) => (⟨(ht4 b e).2, HT0.out.dis b (ht4 b e).1, fun e2 => (ht4 b e).1 (e2 ▸ HQ0.out.1.2)⟩ : tg4 b = none ∧ ¬ dom b ∧ b ≠ wr.heap.size))
            have HT4 := Lib.hid hT4
            have HB4 := Lib.hid hB4
            have HR4 := Lib.hid hR4
            have HM4 := Lib.hid hm4
            have HL4 := Lib.hid hl4
            clear hT4 hB4 hR4 hv4 ht4 h4 hs4 hF4 hm4 hl4 HT0
            go_wp2_with fail
            refine (dnext_any w1.heap.size dom h n K L q _ n1 n64 (by omega) (by omega) HT4.out.d (by omega)).mono ?_
            rw [← HL4.out]
            rintro e w5 ⟨A5, m5, c5, rfl, ⟨dom5, h5, hF5, ht5⟩, hm5, hc5, hr5⟩
            have hT5 := HT4.out.right h5 hF5 ht5
            have hB5 := HB4.out.trans (HT4.out.d.rest hF5 hz1 (by omega))
            have hz5 := hF5.size
            have hR5 := HR4.out.keep (hF5.block _ ⟨by omega, HQ0.out.2.2⟩)
            have hv5 := own_keep HV4.out (fun b e => hF5.block b ⟨(Own.lt HV4.out b e).2, (HBL.out b e).2.1⟩)
            have HBL5 := Lib.hid (fun (b : Nat) (e : Value.ownBlock (.slice A4 m4 c4) = some b) => (⟨(HBL.out b e).1, fun hd => (ht5 b hd).elim (HBL.out b e).2.1 (fun h' => by have := (Own.lt HV4.out b e).2; omega)⟩ : tg4 b = none ∧ ¬ dom5 b))
            have s4 : (convert 28 9 (.slice A4 m4 c4)).run Try.prog w5 = .ok (.string (str l4)) w5 := by
              obtain ⟨A, c, e, hr, _⟩ := hv5.form
              injection e with e1 e2 e3
              subst e1 e3
              rw [HM4.out]; exact hr.str Go.Proofs.Ytjlmgniachdfgaa.u8 9 Try.underlying9 c4
            have s5 : (convert 28 9 (.slice A5 m5 c5)).run Try.prog w5 = .ok (.string (str l4)) w5 := by
              rw [hm5]; exact hr5.str Go.Proofs.Ytjlmgniachdfgaa.u8 9 Try.underlying9 c5
            have HV5 := Lib.hid hv5
            have HT5 := Lib.hid hT5
            have HB5 := Lib.hid hB5
            have HR5 := Lib.hid hR5
            clear h5 hF5 ht5 hm5 hc5 hr5 hT5 hB5 hR5 hv5 HT4 HB4 HR4 HV4 HM4 HL4
            generalize nextQ n K q = q5 at *
            generalize (!(q (turnOf n K)).isEmpty) = bl at *
            generalize turnOf n K = τ at *
            generalize str l4 = sl at *
            go_wp2_with fail
            clear s4 s5
            refine (owned1v_any w5 (.slice A4 m4 c4) w1.heap.size l4 HV5.out).mono ?_
            rintro e w8 ⟨rfl, hF8⟩
            have hT8 := HT5.out.owned hF8 HBL5.out
            have hB8 := HB5.out.trans (owned_below hF8 (fun b e => by have := (Own.lt HV5.out b e).1; omega) HB5.out.size)
            have hR8 := HR5.out.keep (hF8.block _ ⟨by omega, fun e => (HBL.out _ e).2.2 rfl⟩)
            have hz8 := hF8.size
            have hT8' : Both w8 w1.heap.size tg4 dom5 g h n (K + 1) (K + 1) L q5 q5 := hT8
            have HT8 := Lib.hid hT8'
            have HB8 := Lib.hid hB8
            have HR8 := Lib.hid hR8
            clear hF8 hT8 hT8' hB8 hR8 HT5 HB5 HR5 HV5 HBL HBL5
            go_wp2_with fail
            refine wp_region_held_drew (S := fun w' => w'.cell? ⟨wr.heap.size, 1, none⟩ = some (.int .i64 pn) ∧ w'.cell? ⟨h, 2, none⟩ = some (.int .i64 ((K + 1 : Nat) : Int))) (by kernel_rfl) (⟨HR8.out.cell (i := 1) rfl, HT8.out.d.slot⟩) (fun hHeld => ?_)
            refine wpAnyH_take (i := 0) (v := ?_) rfl (by kernel_rfl) (by kernel_rfl) (by kernel_rfl) (fun _ _ _ h => h) (Or.inl ⟨by kernel_rfl, ?_⟩) (by assumption) ?_
            rotate_left
            · (intro w hSw; (try dsimp only at hSw); go_simp; first | done | with_reducible rfl)
            (try simp only [Act.put, List.setIfInBounds_toArray, List.set_cons_zero, List.set_cons_succ, List.getElem_toArray, List.getElem_cons_zero, List.getElem_cons_succ])
            refine wpAnyH_take (i := 1) (v := ?_) rfl (by kernel_rfl) (by kernel_rfl) (by kernel_rfl) (fun _ _ _ h => h) (Or.inl ⟨by kernel_rfl, ?_⟩) (by assumption) ?_
            rotate_left
            · (intro w hSw; (try dsimp only at hSw); go_simp; first | done | with_reducible rfl)
            (try simp only [Act.put, List.setIfInBounds_toArray, List.set_cons_zero, List.set_cons_succ, List.getElem_toArray, List.getElem_cons_zero, List.getElem_cons_succ])
            refine wpAnyH_take (i := 2) (v := ?_) rfl (by kernel_rfl) (by kernel_rfl) (by kernel_rfl) (fun _ _ _ h => h) (Or.inl ⟨by kernel_rfl, ?_⟩) (by assumption) ?_
            rotate_left
            · (intro w hSw; (try dsimp only at hSw); go_simp; first | done | with_reducible rfl)
            (try simp only [Act.put, List.setIfInBounds_toArray, List.set_cons_zero, List.set_cons_succ, List.getElem_toArray, List.getElem_cons_zero, List.getElem_cons_succ])
            refine wpAnyH_take (i := 4) (v := ?_) rfl (by kernel_rfl) (by kernel_rfl) (by kernel_rfl) (fun _ _ _ h => h) (Or.inl ⟨by kernel_rfl, ?_⟩) (by assumption) ?_
            rotate_left
            · (intro w hSw; (try dsimp only at hSw); go_simp; first | done | with_reducible rfl)
            (try simp only [Act.put, List.setIfInBounds_toArray, List.set_cons_zero, List.set_cons_succ, List.getElem_toArray, List.getElem_cons_zero, List.getElem_cons_succ])
            refine wpAnyH_take (i := 5) (v := ?_) rfl (by kernel_rfl) (by kernel_rfl) (by kernel_rfl) (fun _ _ _ h => h) (Or.inl ⟨by kernel_rfl, ?_⟩) (by assumption) ?_
            rotate_left
            · (intro w hSw; (try dsimp only at hSw); go_simp; first | done | with_reducible rfl)
            (try simp only [Act.put, List.setIfInBounds_toArray, List.set_cons_zero, List.set_cons_succ, List.getElem_toArray, List.getElem_cons_zero, List.getElem_cons_succ])
            refine wpAnyH_take (i := 6) (v := ?_) rfl (by kernel_rfl) (by kernel_rfl) (by kernel_rfl) (fun _ _ _ h => h) (Or.inl ⟨by kernel_rfl, ?_⟩) (by assumption) ?_
            rotate_left
            · (intro w hSw; (try dsimp only at hSw); go_simp; first | done | with_reducible rfl)
            (try simp only [Act.put, List.setIfInBounds_toArray, List.set_cons_zero, List.set_cons_succ, List.getElem_toArray, List.getElem_cons_zero, List.getElem_cons_succ])
            refine wpAnyH_ready (rs := [3]) (by kernel_rfl) (by simp) ?_
            refine AllReadyH.cons rfl (fun KK hKK => ?_) AllReadyH.nil
            go_simp
            refine (count_any w1.heap.size tg4 g n (K + 1) q5 pn _ n64 (HT8.out.below_ (Below.refl _ _).drew).s).mono ?_
            rintro e w' ⟨rfl, rfl⟩
            go_wp2_with fail
            refine hKK.out _ _ ?_ (fun hHeld => ?_)
            · (exact ⟨HR8.out.cell (i := 1) rfl, HT8.out.d.slot⟩)
            clear hKK KK
            (try simp only [Act.put, List.setIfInBounds_toArray, List.set_cons_zero, List.set_cons_succ, List.getElem_toArray, List.getElem_cons_zero, List.getElem_cons_succ])
            refine wpAnyH_ready (rs := [7]) (by kernel_rfl) (by simp) ?_
            refine AllReadyH.cons rfl (fun KK hKK => ?_) AllReadyH.nil
            go_simp
            refine (dcount_any w1.heap.size dom5 h n (K + 1) L q5 pn _ (by omega) (HT8.out.below_ (Below.refl _ _).drew).d).mono ?_
            rintro e w' ⟨rfl, rfl⟩
            go_wp2_with fail
            refine hKK.out _ _ ?_ (fun hHeld => ?_)
            · (exact ⟨HR8.out.cell (i := 1) rfl, HT8.out.d.slot⟩)
            clear hKK KK
            (try simp only [Act.put, List.setIfInBounds_toArray, List.set_cons_zero, List.set_cons_succ, List.getElem_toArray, List.getElem_cons_zero, List.getElem_cons_succ])
            refine wpAnyH_take (i := 8) (v := ?_) rfl (by kernel_rfl) (by kernel_rfl) (by kernel_rfl) (fun _ _ _ h => h) (Or.inl ⟨by kernel_rfl, ?_⟩) (by assumption) ?_
            rotate_left
            · (intro w hSw; (try dsimp only at hSw); go_simp; first | done | with_reducible rfl)
            (try simp only [Act.put, List.setIfInBounds_toArray, List.set_cons_zero, List.set_cons_succ, List.getElem_toArray, List.getElem_cons_zero, List.getElem_cons_succ])
            refine wpAnyH_take (i := 9) (v := ?_) rfl (by kernel_rfl) (by kernel_rfl) (by kernel_rfl) (fun _ _ _ h => h) (Or.inl ⟨by kernel_rfl, ?_⟩) (by assumption) ?_
            rotate_left
            · (intro w hSw; (try dsimp only at hSw); go_simp; first | done | with_reducible rfl)
            (try simp only [Act.put, List.setIfInBounds_toArray, List.set_cons_zero, List.set_cons_succ, List.getElem_toArray, List.getElem_cons_zero, List.getElem_cons_succ])
            refine wpAnyH_take (i := 10) (v := ?_) rfl (by kernel_rfl) (by kernel_rfl) (by kernel_rfl) (fun _ _ _ h => h) (Or.inl ⟨by kernel_rfl, ?_⟩) (by assumption) ?_
            rotate_left
            · (intro w hSw; (try dsimp only at hSw); go_simp; first | done | with_reducible rfl)
            (try simp only [Act.put, List.setIfInBounds_toArray, List.set_cons_zero, List.set_cons_succ, List.getElem_toArray, List.getElem_cons_zero, List.getElem_cons_succ])
            refine wpAnyH_take (i := 12) (v := ?_) rfl (by kernel_rfl) (by kernel_rfl) (by kernel_rfl) (fun _ _ _ h => h) (Or.inl ⟨by kernel_rfl, ?_⟩) (by assumption) ?_
            rotate_left
            · (intro w hSw; (try dsimp only at hSw); go_simp; first | done | with_reducible rfl)
            (try simp only [Act.put, List.setIfInBounds_toArray, List.set_cons_zero, List.set_cons_succ, List.getElem_toArray, List.getElem_cons_zero, List.getElem_cons_succ])
            refine wpAnyH_take (i := 13) (v := ?_) rfl (by kernel_rfl) (by kernel_rfl) (by kernel_rfl) (fun _ _ _ h => h) (Or.inl ⟨by kernel_rfl, ?_⟩) (by assumption) ?_
            rotate_left
            · (intro w hSw; (try dsimp only at hSw); go_simp; first | done | with_reducible rfl)
            (try simp only [Act.put, List.setIfInBounds_toArray, List.set_cons_zero, List.set_cons_succ, List.getElem_toArray, List.getElem_cons_zero, List.getElem_cons_succ])
            refine wpAnyH_take (i := 14) (v := ?_) rfl (by kernel_rfl) (by kernel_rfl) (by kernel_rfl) (fun _ _ _ h => h) (Or.inl ⟨by kernel_rfl, ?_⟩) (by assumption) ?_
            rotate_left
            · (intro w hSw; (try dsimp only at hSw); go_simp; first | done | with_reducible rfl)
            (try simp only [Act.put, List.setIfInBounds_toArray, List.set_cons_zero, List.set_cons_succ, List.getElem_toArray, List.getElem_cons_zero, List.getElem_cons_succ])
            refine wpAnyH_take (i := 15) (v := ?_) rfl (by kernel_rfl) (by kernel_rfl) (by kernel_rfl) (fun _ _ _ h => h) (Or.inl ⟨by kernel_rfl, ?_⟩) (by assumption) ?_
            rotate_left
            · (intro w hSw; (try dsimp only at hSw); go_simp; first | done | with_reducible rfl)
            (try simp only [Act.put, List.setIfInBounds_toArray, List.set_cons_zero, List.set_cons_succ, List.getElem_toArray, List.getElem_cons_zero, List.getElem_cons_succ])
            refine wpAnyH_ready (rs := [11]) (by kernel_rfl) (by simp) ?_
            refine AllReadyH.cons rfl (fun KK hKK => ?_) AllReadyH.nil
            go_simp
            refine (slot_any w1.heap.size tg4 g n (K + 1) q5 _ (HT8.out.below_ (Below.refl _ _).drew).s).mono ?_
            rintro e w' ⟨rfl, rfl⟩
            go_wp2_with fail
            refine hKK.out _ _ ?_ (fun hHeld => ?_)
            · (exact ⟨HR8.out.cell (i := 1) rfl, HT8.out.d.slot⟩)
            clear hKK KK
            (try simp only [Act.put, List.setIfInBounds_toArray, List.set_cons_zero, List.set_cons_succ, List.getElem_toArray, List.getElem_cons_zero, List.getElem_cons_succ])
            refine wpAnyH_take (i := 16) (v := ?_) rfl (by kernel_rfl) (by kernel_rfl) (by kernel_rfl) (fun _ _ _ h => h) (Or.inl ⟨by kernel_rfl, ?_⟩) (by assumption) ?_
            rotate_left
            · (intro w hSw; (try dsimp only at hSw); go_simp; first | done | with_reducible rfl)
            (try simp only [Act.put, List.setIfInBounds_toArray, List.set_cons_zero, List.set_cons_succ, List.getElem_toArray, List.getElem_cons_zero, List.getElem_cons_succ])
            refine wpAnyH_take (i := 17) (v := ?_) rfl (by kernel_rfl) (by kernel_rfl) (by kernel_rfl) (fun _ _ _ h => h) (Or.inl ⟨by kernel_rfl, ?_⟩) (by assumption) ?_
            rotate_left
            · (intro w hSw; (try dsimp only at hSw); go_simp; first | done | with_reducible rfl)
            (try simp only [Act.put, List.setIfInBounds_toArray, List.set_cons_zero, List.set_cons_succ, List.getElem_toArray, List.getElem_cons_zero, List.getElem_cons_succ])
            refine wpAnyH_done (by kernel_rfl) ?_ _
            go_wp2_with fail
            go_roundw
            case rel => exact ⟨k + 1, (K + 1), L, tg4, dom5, q5, by omega, by omega, by omega, by omega, by go_num, (HT8.out.below_ (Below.refl _ _).drew), (show w1.heap.size ≤ w8.heap.size from by omega), HB8.out.drew⟩
            case measure => simp [intOf] <;> omega
          · by_cases hd2 : pd = 2
            · subst hd2
              go_wp2_with fail
              generalize wr.alloc (.cells #[.int .i64 2, .int .i64 pn, .slice pA pm pc] 40) = W at *
              have hzW : wr.heap.size < W.heap.size := by rw [HZS.out]; omega
              refine wp_region_held_drew (S := fun w' => w'.cell? ⟨wr.heap.size, 1, none⟩ = some (.int .i64 pn)) (by kernel_rfl) (HR0.out.cell (i := 1) rfl) (fun hHeld => ?_)
              refine wpAnyH_take (i := 0) (v := ?_) rfl (by kernel_rfl) (by kernel_rfl) (by kernel_rfl) (fun _ _ _ h => h) (Or.inl ⟨by kernel_rfl, ?_⟩) (by assumption) ?_
              rotate_left
              · (intro w hSw; (try dsimp only at hSw); go_simp; first | done | with_reducible rfl)
              (try simp only [Act.put, List.setIfInBounds_toArray, List.set_cons_zero, List.set_cons_succ, List.getElem_toArray, List.getElem_cons_zero, List.getElem_cons_succ])
              refine wpAnyH_take (i := 1) (v := ?_) rfl (by kernel_rfl) (by kernel_rfl) (by kernel_rfl) (fun _ _ _ h => h) (Or.inl ⟨by kernel_rfl, ?_⟩) (by assumption) ?_
              rotate_left
              · (intro w hSw; (try dsimp only at hSw); go_simp; first | done | with_reducible rfl)
              (try simp only [Act.put, List.setIfInBounds_toArray, List.set_cons_zero, List.set_cons_succ, List.getElem_toArray, List.getElem_cons_zero, List.getElem_cons_succ])
              refine wpAnyH_take (i := 2) (v := ?_) rfl (by kernel_rfl) (by kernel_rfl) (by kernel_rfl) (fun _ _ _ h => h) (Or.inl ⟨by kernel_rfl, ?_⟩) (by assumption) ?_
              rotate_left
              · (intro w hSw; (try dsimp only at hSw); go_simp; first | done | with_reducible rfl)
              (try simp only [Act.put, List.setIfInBounds_toArray, List.set_cons_zero, List.set_cons_succ, List.getElem_toArray, List.getElem_cons_zero, List.getElem_cons_succ])
              refine wpAnyH_take (i := 4) (v := ?_) rfl (by kernel_rfl) (by kernel_rfl) (by kernel_rfl) (fun _ _ _ h => h) (Or.inl ⟨by kernel_rfl, ?_⟩) (by assumption) ?_
              rotate_left
              · (intro w hSw; (try dsimp only at hSw); go_simp; first | done | with_reducible rfl)
              (try simp only [Act.put, List.setIfInBounds_toArray, List.set_cons_zero, List.set_cons_succ, List.getElem_toArray, List.getElem_cons_zero, List.getElem_cons_succ])
              refine wpAnyH_take (i := 5) (v := ?_) rfl (by kernel_rfl) (by kernel_rfl) (by kernel_rfl) (fun _ _ _ h => h) (Or.inl ⟨by kernel_rfl, ?_⟩) (by assumption) ?_
              rotate_left
              · (intro w hSw; (try dsimp only at hSw); go_simp; first | done | with_reducible rfl)
              (try simp only [Act.put, List.setIfInBounds_toArray, List.set_cons_zero, List.set_cons_succ, List.getElem_toArray, List.getElem_cons_zero, List.getElem_cons_succ])
              refine wpAnyH_take (i := 6) (v := ?_) rfl (by kernel_rfl) (by kernel_rfl) (by kernel_rfl) (fun _ _ _ h => h) (Or.inl ⟨by kernel_rfl, ?_⟩) (by assumption) ?_
              rotate_left
              · (intro w hSw; (try dsimp only at hSw); go_simp; first | done | with_reducible rfl)
              (try simp only [Act.put, List.setIfInBounds_toArray, List.set_cons_zero, List.set_cons_succ, List.getElem_toArray, List.getElem_cons_zero, List.getElem_cons_succ])
              refine wpAnyH_ready (rs := [3]) (by kernel_rfl) (by simp) ?_
              refine AllReadyH.cons rfl (fun KK hKK => ?_) AllReadyH.nil
              go_simp
              refine (drop_any w1.heap.size tg g n K q pn _ n64 (HT0.out.s.below_ (Below.refl _ _).drew)).mono ?_
              change ∀ (e : Ending) (w4 : World), e = .returned (.int .i64 (cnt n q pn : Int)) ∧ Sl w4 w1.heap.size tg g n K (dropQ n q pn) ∧ _ → _
              rintro e w4 ⟨rfl, h4, hz4, hF4⟩
              have hF4' : Frame (Slots.Rest W tg) W w4 := undrew hF4
              have hT4 := HT0.out.left h4 hF4' (fun b hb => .inl hb)
              have hB4 := HB0.out.trans (HT0.out.s.rest hF4' hz1 (by rw [HZS.out]; omega))
              have hz4' := hF4'.size
              have hR4 := HR0.out.keep (hF4'.block _ ⟨hzW, HQ0.out.1.2⟩)
              have HT4 := Lib.hid hT4
              have HB4 := Lib.hid hB4
              have HR4 := Lib.hid hR4
              clear h4 hF4 hF4' hT4 hB4 hR4
              go_wp2_with fail
              refine hKK.out _ _ ?_ (fun hHeld => ?_)
              · (exact HR4.out.cell (i := 1) rfl)
              clear hKK KK
              (try simp only [Act.put, List.setIfInBounds_toArray, List.set_cons_zero, List.set_cons_succ, List.getElem_toArray, List.getElem_cons_zero, List.getElem_cons_succ])
              refine wpAnyH_ready (rs := [7]) (by kernel_rfl) (by simp) ?_
              refine AllReadyH.cons rfl (fun KK hKK => ?_) AllReadyH.nil
              go_simp
              refine (ddrop_any w1.heap.size dom h n K L q pn _ (by omega) HT4.out.d (by omega)).mono ?_
              rintro e w5 ⟨rfl, dom5, h5, hF5, ht5⟩
              have hT5 := HT4.out.right h5 hF5 ht5
              have hB5 := HB4.out.trans (HT4.out.d.rest hF5 hz1 (by omega))
              have hz5 := hF5.size
              have hR5 := HR4.out.keep (hF5.block _ ⟨by omega, HQ0.out.2.2⟩)
              have HT5 := Lib.hid hT5
              have HB5 := Lib.hid hB5
              have HR5 := Lib.hid hR5
              clear h5 hF5 ht5 hT5 hB5 hR5
              go_wp2_with fail
              refine hKK.out _ _ ?_ (fun hHeld => ?_)
              · (exact HR5.out.cell (i := 1) rfl)
              clear hKK KK
              (try simp only [Act.put, List.setIfInBounds_toArray, List.set_cons_zero, List.set_cons_succ, List.getElem_toArray, List.getElem_cons_zero, List.getElem_cons_succ])
              refine wpAnyH_take (i := 8) (v := ?_) rfl (by kernel_rfl) (by kernel_rfl) (by kernel_rfl) (fun _ _ _ h => h) (Or.inl ⟨by kernel_rfl, ?_⟩) (by assumption) ?_
              rotate_left
              · (intro w hSw; (try dsimp only at hSw); go_simp; first | done | with_reducible rfl)
              (try simp only [Act.put, List.setIfInBounds_toArray, List.set_cons_zero, List.set_cons_succ, List.getElem_toArray, List.getElem_cons_zero, List.getElem_cons_succ])
              refine wpAnyH_done (by kernel_rfl) ?_ _
              go_wp2_with fail
              generalize dropQ n q pn = q5 at *
              refine wp_region_held_drew (S := fun w' => w'.cell? ⟨wr.heap.size, 1, none⟩ = some (.int .i64 pn) ∧ w'.cell? ⟨h, 2, none⟩ = some (.int .i64 (K : Int))) (by kernel_rfl) (⟨HR5.out.cell (i := 1) rfl, HT5.out.d.slot⟩) (fun hHeld => ?_)
              refine wpAnyH_take (i := 0) (v := ?_) rfl (by kernel_rfl) (by kernel_rfl) (by kernel_rfl) (fun _ _ _ h => h) (Or.inl ⟨by kernel_rfl, ?_⟩) (by assumption) ?_
              rotate_left
              · (intro w hSw; (try dsimp only at hSw); go_simp; first | done | with_reducible rfl)
              (try simp only [Act.put, List.setIfInBounds_toArray, List.set_cons_zero, List.set_cons_succ, List.getElem_toArray, List.getElem_cons_zero, List.getElem_cons_succ])
              refine wpAnyH_take (i := 1) (v := ?_) rfl (by kernel_rfl) (by kernel_rfl) (by kernel_rfl) (fun _ _ _ h => h) (Or.inl ⟨by kernel_rfl, ?_⟩) (by assumption) ?_
              rotate_left
              · (intro w hSw; (try dsimp only at hSw); go_simp; first | done | with_reducible rfl)
              (try simp only [Act.put, List.setIfInBounds_toArray, List.set_cons_zero, List.set_cons_succ, List.getElem_toArray, List.getElem_cons_zero, List.getElem_cons_succ])
              refine wpAnyH_take (i := 2) (v := ?_) rfl (by kernel_rfl) (by kernel_rfl) (by kernel_rfl) (fun _ _ _ h => h) (Or.inl ⟨by kernel_rfl, ?_⟩) (by assumption) ?_
              rotate_left
              · (intro w hSw; (try dsimp only at hSw); go_simp; first | done | with_reducible rfl)
              (try simp only [Act.put, List.setIfInBounds_toArray, List.set_cons_zero, List.set_cons_succ, List.getElem_toArray, List.getElem_cons_zero, List.getElem_cons_succ])
              refine wpAnyH_take (i := 4) (v := ?_) rfl (by kernel_rfl) (by kernel_rfl) (by kernel_rfl) (fun _ _ _ h => h) (Or.inl ⟨by kernel_rfl, ?_⟩) (by assumption) ?_
              rotate_left
              · (intro w hSw; (try dsimp only at hSw); go_simp; first | done | with_reducible rfl)
              (try simp only [Act.put, List.setIfInBounds_toArray, List.set_cons_zero, List.set_cons_succ, List.getElem_toArray, List.getElem_cons_zero, List.getElem_cons_succ])
              refine wpAnyH_take (i := 5) (v := ?_) rfl (by kernel_rfl) (by kernel_rfl) (by kernel_rfl) (fun _ _ _ h => h) (Or.inl ⟨by kernel_rfl, ?_⟩) (by assumption) ?_
              rotate_left
              · (intro w hSw; (try dsimp only at hSw); go_simp; first | done | with_reducible rfl)
              (try simp only [Act.put, List.setIfInBounds_toArray, List.set_cons_zero, List.set_cons_succ, List.getElem_toArray, List.getElem_cons_zero, List.getElem_cons_succ])
              refine wpAnyH_take (i := 6) (v := ?_) rfl (by kernel_rfl) (by kernel_rfl) (by kernel_rfl) (fun _ _ _ h => h) (Or.inl ⟨by kernel_rfl, ?_⟩) (by assumption) ?_
              rotate_left
              · (intro w hSw; (try dsimp only at hSw); go_simp; first | done | with_reducible rfl)
              (try simp only [Act.put, List.setIfInBounds_toArray, List.set_cons_zero, List.set_cons_succ, List.getElem_toArray, List.getElem_cons_zero, List.getElem_cons_succ])
              refine wpAnyH_ready (rs := [3]) (by kernel_rfl) (by simp) ?_
              refine AllReadyH.cons rfl (fun KK hKK => ?_) AllReadyH.nil
              go_simp
              refine (count_any w1.heap.size tg g n K q5 pn _ n64 (HT5.out.below_ (Below.refl _ _).drew).s).mono ?_
              rintro e w' ⟨rfl, rfl⟩
              go_wp2_with fail
              refine hKK.out _ _ ?_ (fun hHeld => ?_)
              · (exact ⟨HR5.out.cell (i := 1) rfl, HT5.out.d.slot⟩)
              clear hKK KK
              (try simp only [Act.put, List.setIfInBounds_toArray, List.set_cons_zero, List.set_cons_succ, List.getElem_toArray, List.getElem_cons_zero, List.getElem_cons_succ])
              refine wpAnyH_ready (rs := [7]) (by kernel_rfl) (by simp) ?_
              refine AllReadyH.cons rfl (fun KK hKK => ?_) AllReadyH.nil
              go_simp
              refine (dcount_any w1.heap.size dom5 h n K L q5 pn _ (by omega) (HT5.out.below_ (Below.refl _ _).drew).d).mono ?_
              rintro e w' ⟨rfl, rfl⟩
              go_wp2_with fail
              refine hKK.out _ _ ?_ (fun hHeld => ?_)
              · (exact ⟨HR5.out.cell (i := 1) rfl, HT5.out.d.slot⟩)
              clear hKK KK
              (try simp only [Act.put, List.setIfInBounds_toArray, List.set_cons_zero, List.set_cons_succ, List.getElem_toArray, List.getElem_cons_zero, List.getElem_cons_succ])
              refine wpAnyH_take (i := 8) (v := ?_) rfl (by kernel_rfl) (by kernel_rfl) (by kernel_rfl) (fun _ _ _ h => h) (Or.inl ⟨by kernel_rfl, ?_⟩) (by assumption) ?_
              rotate_left
              · (intro w hSw; (try dsimp only at hSw); go_simp; first | done | with_reducible rfl)
              (try simp only [Act.put, List.setIfInBounds_toArray, List.set_cons_zero, List.set_cons_succ, List.getElem_toArray, List.getElem_cons_zero, List.getElem_cons_succ])
              refine wpAnyH_take (i := 9) (v := ?_) rfl (by kernel_rfl) (by kernel_rfl) (by kernel_rfl) (fun _ _ _ h => h) (Or.inl ⟨by kernel_rfl, ?_⟩) (by assumption) ?_
              rotate_left
              · (intro w hSw; (try dsimp only at hSw); go_simp; first | done | with_reducible rfl)
              (try simp only [Act.put, List.setIfInBounds_toArray, List.set_cons_zero, List.set_cons_succ, List.getElem_toArray, List.getElem_cons_zero, List.getElem_cons_succ])
              refine wpAnyH_take (i := 10) (v := ?_) rfl (by kernel_rfl) (by kernel_rfl) (by kernel_rfl) (fun _ _ _ h => h) (Or.inl ⟨by kernel_rfl, ?_⟩) (by assumption) ?_
              rotate_left
              · (intro w hSw; (try dsimp only at hSw); go_simp; first | done | with_reducible rfl)
              (try simp only [Act.put, List.setIfInBounds_toArray, List.set_cons_zero, List.set_cons_succ, List.getElem_toArray, List.getElem_cons_zero, List.getElem_cons_succ])
              refine wpAnyH_take (i := 12) (v := ?_) rfl (by kernel_rfl) (by kernel_rfl) (by kernel_rfl) (fun _ _ _ h => h) (Or.inl ⟨by kernel_rfl, ?_⟩) (by assumption) ?_
              rotate_left
              · (intro w hSw; (try dsimp only at hSw); go_simp; first | done | with_reducible rfl)
              (try simp only [Act.put, List.setIfInBounds_toArray, List.set_cons_zero, List.set_cons_succ, List.getElem_toArray, List.getElem_cons_zero, List.getElem_cons_succ])
              refine wpAnyH_take (i := 13) (v := ?_) rfl (by kernel_rfl) (by kernel_rfl) (by kernel_rfl) (fun _ _ _ h => h) (Or.inl ⟨by kernel_rfl, ?_⟩) (by assumption) ?_
              rotate_left
              · (intro w hSw; (try dsimp only at hSw); go_simp; first | done | with_reducible rfl)
              (try simp only [Act.put, List.setIfInBounds_toArray, List.set_cons_zero, List.set_cons_succ, List.getElem_toArray, List.getElem_cons_zero, List.getElem_cons_succ])
              refine wpAnyH_take (i := 14) (v := ?_) rfl (by kernel_rfl) (by kernel_rfl) (by kernel_rfl) (fun _ _ _ h => h) (Or.inl ⟨by kernel_rfl, ?_⟩) (by assumption) ?_
              rotate_left
              · (intro w hSw; (try dsimp only at hSw); go_simp; first | done | with_reducible rfl)
              (try simp only [Act.put, List.setIfInBounds_toArray, List.set_cons_zero, List.set_cons_succ, List.getElem_toArray, List.getElem_cons_zero, List.getElem_cons_succ])
              refine wpAnyH_take (i := 15) (v := ?_) rfl (by kernel_rfl) (by kernel_rfl) (by kernel_rfl) (fun _ _ _ h => h) (Or.inl ⟨by kernel_rfl, ?_⟩) (by assumption) ?_
              rotate_left
              · (intro w hSw; (try dsimp only at hSw); go_simp; first | done | with_reducible rfl)
              (try simp only [Act.put, List.setIfInBounds_toArray, List.set_cons_zero, List.set_cons_succ, List.getElem_toArray, List.getElem_cons_zero, List.getElem_cons_succ])
              refine wpAnyH_ready (rs := [11]) (by kernel_rfl) (by simp) ?_
              refine AllReadyH.cons rfl (fun KK hKK => ?_) AllReadyH.nil
              go_simp
              refine (slot_any w1.heap.size tg g n K q5 _ (HT5.out.below_ (Below.refl _ _).drew).s).mono ?_
              rintro e w' ⟨rfl, rfl⟩
              go_wp2_with fail
              refine hKK.out _ _ ?_ (fun hHeld => ?_)
              · (exact ⟨HR5.out.cell (i := 1) rfl, HT5.out.d.slot⟩)
              clear hKK KK
              (try simp only [Act.put, List.setIfInBounds_toArray, List.set_cons_zero, List.set_cons_succ, List.getElem_toArray, List.getElem_cons_zero, List.getElem_cons_succ])
              refine wpAnyH_take (i := 16) (v := ?_) rfl (by kernel_rfl) (by kernel_rfl) (by kernel_rfl) (fun _ _ _ h => h) (Or.inl ⟨by kernel_rfl, ?_⟩) (by assumption) ?_
              rotate_left
              · (intro w hSw; (try dsimp only at hSw); go_simp; first | done | with_reducible rfl)
              (try simp only [Act.put, List.setIfInBounds_toArray, List.set_cons_zero, List.set_cons_succ, List.getElem_toArray, List.getElem_cons_zero, List.getElem_cons_succ])
              refine wpAnyH_take (i := 17) (v := ?_) rfl (by kernel_rfl) (by kernel_rfl) (by kernel_rfl) (fun _ _ _ h => h) (Or.inl ⟨by kernel_rfl, ?_⟩) (by assumption) ?_
              rotate_left
              · (intro w hSw; (try dsimp only at hSw); go_simp; first | done | with_reducible rfl)
              (try simp only [Act.put, List.setIfInBounds_toArray, List.set_cons_zero, List.set_cons_succ, List.getElem_toArray, List.getElem_cons_zero, List.getElem_cons_succ])
              refine wpAnyH_done (by kernel_rfl) ?_ _
              go_wp2_with fail
              go_roundw
              case rel => exact ⟨k + 1, K, L, tg, dom5, q5, by omega, by omega, by omega, by omega, by go_num, (HT5.out.below_ (Below.refl _ _).drew), (show w1.heap.size ≤ w5.heap.size from by omega), HB5.out.drew⟩
              case measure => simp [intOf] <;> omega
            · have hb0 : (pd == 0) = false := by simpa using hd0
              have hb1' : (pd == 1) = false := by simpa using hd1
              have hb2 : (pd == 2) = false := by simpa using hd2
              go_wp2_with fail
              generalize wr.alloc (.cells #[.int .i64 pd, .int .i64 pn, .slice pA pm pc] 40) = W at *
              refine wp_region_held_drew (S := fun w' => w'.cell? ⟨wr.heap.size, 1, none⟩ = some (.int .i64 pn) ∧ w'.cell? ⟨h, 2, none⟩ = some (.int .i64 (K : Int))) (by kernel_rfl) (⟨HR0.out.cell (i := 1) rfl, HT0.out.d.slot⟩) (fun hHeld => ?_)
              refine wpAnyH_take (i := 0) (v := ?_) rfl (by kernel_rfl) (by kernel_rfl) (by kernel_rfl) (fun _ _ _ h => h) (Or.inl ⟨by kernel_rfl, ?_⟩) (by assumption) ?_
              rotate_left
              · (intro w hSw; (try dsimp only at hSw); go_simp; first | done | with_reducible rfl)
              (try simp only [Act.put, List.setIfInBounds_toArray, List.set_cons_zero, List.set_cons_succ, List.getElem_toArray, List.getElem_cons_zero, List.getElem_cons_succ])
              refine wpAnyH_take (i := 1) (v := ?_) rfl (by kernel_rfl) (by kernel_rfl) (by kernel_rfl) (fun _ _ _ h => h) (Or.inl ⟨by kernel_rfl, ?_⟩) (by assumption) ?_
              rotate_left
              · (intro w hSw; (try dsimp only at hSw); go_simp; first | done | with_reducible rfl)
              (try simp only [Act.put, List.setIfInBounds_toArray, List.set_cons_zero, List.set_cons_succ, List.getElem_toArray, List.getElem_cons_zero, List.getElem_cons_succ])
              refine wpAnyH_take (i := 2) (v := ?_) rfl (by kernel_rfl) (by kernel_rfl) (by kernel_rfl) (fun _ _ _ h => h) (Or.inl ⟨by kernel_rfl, ?_⟩) (by assumption) ?_
              rotate_left
              · (intro w hSw; (try dsimp only at hSw); go_simp; first | done | with_reducible rfl)
              (try simp only [Act.put, List.setIfInBounds_toArray, List.set_cons_zero, List.set_cons_succ, List.getElem_toArray, List.getElem_cons_zero, List.getElem_cons_succ])
              refine wpAnyH_take (i := 4) (v := ?_) rfl (by kernel_rfl) (by kernel_rfl) (by kernel_rfl) (fun _ _ _ h => h) (Or.inl ⟨by kernel_rfl, ?_⟩) (by assumption) ?_
              rotate_left
              · (intro w hSw; (try dsimp only at hSw); go_simp; first | done | with_reducible rfl)
              (try simp only [Act.put, List.setIfInBounds_toArray, List.set_cons_zero, List.set_cons_succ, List.getElem_toArray, List.getElem_cons_zero, List.getElem_cons_succ])
              refine wpAnyH_take (i := 5) (v := ?_) rfl (by kernel_rfl) (by kernel_rfl) (by kernel_rfl) (fun _ _ _ h => h) (Or.inl ⟨by kernel_rfl, ?_⟩) (by assumption) ?_
              rotate_left
              · (intro w hSw; (try dsimp only at hSw); go_simp; first | done | with_reducible rfl)
              (try simp only [Act.put, List.setIfInBounds_toArray, List.set_cons_zero, List.set_cons_succ, List.getElem_toArray, List.getElem_cons_zero, List.getElem_cons_succ])
              refine wpAnyH_take (i := 6) (v := ?_) rfl (by kernel_rfl) (by kernel_rfl) (by kernel_rfl) (fun _ _ _ h => h) (Or.inl ⟨by kernel_rfl, ?_⟩) (by assumption) ?_
              rotate_left
              · (intro w hSw; (try dsimp only at hSw); go_simp; first | done | with_reducible rfl)
              (try simp only [Act.put, List.setIfInBounds_toArray, List.set_cons_zero, List.set_cons_succ, List.getElem_toArray, List.getElem_cons_zero, List.getElem_cons_succ])
              refine wpAnyH_ready (rs := [3]) (by kernel_rfl) (by simp) ?_
              refine AllReadyH.cons rfl (fun KK hKK => ?_) AllReadyH.nil
              go_simp
              refine (count_any w1.heap.size tg g n K q pn _ n64 (HT0.out.below_ (Below.refl _ _).drew).s).mono ?_
              rintro e w' ⟨rfl, rfl⟩
              go_wp2_with fail
              refine hKK.out _ _ ?_ (fun hHeld => ?_)
              · (exact ⟨HR0.out.cell (i := 1) rfl, HT0.out.d.slot⟩)
              clear hKK KK
              (try simp only [Act.put, List.setIfInBounds_toArray, List.set_cons_zero, List.set_cons_succ, List.getElem_toArray, List.getElem_cons_zero, List.getElem_cons_succ])
              refine wpAnyH_ready (rs := [7]) (by kernel_rfl) (by simp) ?_
              refine AllReadyH.cons rfl (fun KK hKK => ?_) AllReadyH.nil
              go_simp
              refine (dcount_any w1.heap.size dom h n K L q pn _ (by omega) (HT0.out.below_ (Below.refl _ _).drew).d).mono ?_
              rintro e w' ⟨rfl, rfl⟩
              go_wp2_with fail
              refine hKK.out _ _ ?_ (fun hHeld => ?_)
              · (exact ⟨HR0.out.cell (i := 1) rfl, HT0.out.d.slot⟩)
              clear hKK KK
              (try simp only [Act.put, List.setIfInBounds_toArray, List.set_cons_zero, List.set_cons_succ, List.getElem_toArray, List.getElem_cons_zero, List.getElem_cons_succ])
              refine wpAnyH_take (i := 8) (v := ?_) rfl (by kernel_rfl) (by kernel_rfl) (by kernel_rfl) (fun _ _ _ h => h) (Or.inl ⟨by kernel_rfl, ?_⟩) (by assumption) ?_
              rotate_left
              · (intro w hSw; (try dsimp only at hSw); go_simp; first | done | with_reducible rfl)
              (try simp only [Act.put, List.setIfInBounds_toArray, List.set_cons_zero, List.set_cons_succ, List.getElem_toArray, List.getElem_cons_zero, List.getElem_cons_succ])
              refine wpAnyH_take (i := 9) (v := ?_) rfl (by kernel_rfl) (by kernel_rfl) (by kernel_rfl) (fun _ _ _ h => h) (Or.inl ⟨by kernel_rfl, ?_⟩) (by assumption) ?_
              rotate_left
              · (intro w hSw; (try dsimp only at hSw); go_simp; first | done | with_reducible rfl)
              (try simp only [Act.put, List.setIfInBounds_toArray, List.set_cons_zero, List.set_cons_succ, List.getElem_toArray, List.getElem_cons_zero, List.getElem_cons_succ])
              refine wpAnyH_take (i := 10) (v := ?_) rfl (by kernel_rfl) (by kernel_rfl) (by kernel_rfl) (fun _ _ _ h => h) (Or.inl ⟨by kernel_rfl, ?_⟩) (by assumption) ?_
              rotate_left
              · (intro w hSw; (try dsimp only at hSw); go_simp; first | done | with_reducible rfl)
              (try simp only [Act.put, List.setIfInBounds_toArray, List.set_cons_zero, List.set_cons_succ, List.getElem_toArray, List.getElem_cons_zero, List.getElem_cons_succ])
              refine wpAnyH_take (i := 12) (v := ?_) rfl (by kernel_rfl) (by kernel_rfl) (by kernel_rfl) (fun _ _ _ h => h) (Or.inl ⟨by kernel_rfl, ?_⟩) (by assumption) ?_
              rotate_left
              · (intro w hSw; (try dsimp only at hSw); go_simp; first | done | with_reducible rfl)
              (try simp only [Act.put, List.setIfInBounds_toArray, List.set_cons_zero, List.set_cons_succ, List.getElem_toArray, List.getElem_cons_zero, List.getElem_cons_succ])
              refine wpAnyH_take (i := 13) (v := ?_) rfl (by kernel_rfl) (by kernel_rfl) (by kernel_rfl) (fun _ _ _ h => h) (Or.inl ⟨by kernel_rfl, ?_⟩) (by assumption) ?_
              rotate_left
              · (intro w hSw; (try dsimp only at hSw); go_simp; first | done | with_reducible rfl)
              (try simp only [Act.put, List.setIfInBounds_toArray, List.set_cons_zero, List.set_cons_succ, List.getElem_toArray, List.getElem_cons_zero, List.getElem_cons_succ])
              refine wpAnyH_take (i := 14) (v := ?_) rfl (by kernel_rfl) (by kernel_rfl) (by kernel_rfl) (fun _ _ _ h => h) (Or.inl ⟨by kernel_rfl, ?_⟩) (by assumption) ?_
              rotate_left
              · (intro w hSw; (try dsimp only at hSw); go_simp; first | done | with_reducible rfl)
              (try simp only [Act.put, List.setIfInBounds_toArray, List.set_cons_zero, List.set_cons_succ, List.getElem_toArray, List.getElem_cons_zero, List.getElem_cons_succ])
              refine wpAnyH_take (i := 15) (v := ?_) rfl (by kernel_rfl) (by kernel_rfl) (by kernel_rfl) (fun _ _ _ h => h) (Or.inl ⟨by kernel_rfl, ?_⟩) (by assumption) ?_
              rotate_left
              · (intro w hSw; (try dsimp only at hSw); go_simp; first | done | with_reducible rfl)
              (try simp only [Act.put, List.setIfInBounds_toArray, List.set_cons_zero, List.set_cons_succ, List.getElem_toArray, List.getElem_cons_zero, List.getElem_cons_succ])
              refine wpAnyH_ready (rs := [11]) (by kernel_rfl) (by simp) ?_
              refine AllReadyH.cons rfl (fun KK hKK => ?_) AllReadyH.nil
              go_simp
              refine (slot_any w1.heap.size tg g n K q _ (HT0.out.below_ (Below.refl _ _).drew).s).mono ?_
              rintro e w' ⟨rfl, rfl⟩
              go_wp2_with fail
              refine hKK.out _ _ ?_ (fun hHeld => ?_)
              · (exact ⟨HR0.out.cell (i := 1) rfl, HT0.out.d.slot⟩)
              clear hKK KK
              (try simp only [Act.put, List.setIfInBounds_toArray, List.set_cons_zero, List.set_cons_succ, List.getElem_toArray, List.getElem_cons_zero, List.getElem_cons_succ])
              refine wpAnyH_take (i := 16) (v := ?_) rfl (by kernel_rfl) (by kernel_rfl) (by kernel_rfl) (fun _ _ _ h => h) (Or.inl ⟨by kernel_rfl, ?_⟩) (by assumption) ?_
              rotate_left
              · (intro w hSw; (try dsimp only at hSw); go_simp; first | done | with_reducible rfl)
              (try simp only [Act.put, List.setIfInBounds_toArray, List.set_cons_zero, List.set_cons_succ, List.getElem_toArray, List.getElem_cons_zero, List.getElem_cons_succ])
              refine wpAnyH_take (i := 17) (v := ?_) rfl (by kernel_rfl) (by kernel_rfl) (by kernel_rfl) (fun _ _ _ h => h) (Or.inl ⟨by kernel_rfl, ?_⟩) (by assumption) ?_
              rotate_left
              · (intro w hSw; (try dsimp only at hSw); go_simp; first | done | with_reducible rfl)
              (try simp only [Act.put, List.setIfInBounds_toArray, List.set_cons_zero, List.set_cons_succ, List.getElem_toArray, List.getElem_cons_zero, List.getElem_cons_succ])
              refine wpAnyH_done (by kernel_rfl) ?_ _
              go_wp2_with fail
              go_roundw
              case rel => exact ⟨k + 1, K, L, tg, dom, q, by omega, by omega, by omega, by omega, by go_num, (HT0.out.below_ (Below.refl _ _).drew), (show w1.heap.size ≤ W.heap.size from by rw [HZS.out]; omega), HB0.out.drew⟩
              case measure => simp [intOf] <;> omega
      · have hexit : ¬ k < len1 ∨ (k < len1 ∧ k = 200) := by omega
        have x2 := HT.out.d.slot
        rcases hexit with hx | ⟨hx, hx200⟩
        all_goals
          go_wp2_with fail
          refine wp_region_held_drew (S := fun w' => w'.cell? ⟨h, 2, none⟩ = some (.int .i64 (K : Int))) (by kernel_rfl) (x2) (fun hHeld => ?_)
          refine wpAnyH_take (i := 0) (v := ?_) rfl (by kernel_rfl) (by kernel_rfl) (by kernel_rfl) (fun _ _ _ h => h) (Or.inl ⟨by kernel_rfl, ?_⟩) (by assumption) ?_
          rotate_left
          · (intro w hSw; (try dsimp only at hSw); go_simp; first | done | with_reducible rfl)
          (try simp only [Act.put, List.setIfInBounds_toArray, List.set_cons_zero, List.set_cons_succ, List.getElem_toArray, List.getElem_cons_zero, List.getElem_cons_succ])
          refine wpAnyH_take (i := 2) (v := ?_) rfl (by kernel_rfl) (by kernel_rfl) (by kernel_rfl) (fun _ _ _ h => h) (Or.inl ⟨by kernel_rfl, ?_⟩) (by assumption) ?_
          rotate_left
          · (intro w hSw; (try dsimp only at hSw); go_simp; first | done | with_reducible rfl)
          (try simp only [Act.put, List.setIfInBounds_toArray, List.set_cons_zero, List.set_cons_succ, List.getElem_toArray, List.getElem_cons_zero, List.getElem_cons_succ])
          refine wpAnyH_take (i := 3) (v := ?_) rfl (by kernel_rfl) (by kernel_rfl) (by kernel_rfl) (fun _ _ _ h => h) (Or.inl ⟨by kernel_rfl, ?_⟩) (by assumption) ?_
          rotate_left
          · (intro w hSw; (try dsimp only at hSw); go_simp; first | done | with_reducible rfl)
          (try simp only [Act.put, List.setIfInBounds_toArray, List.set_cons_zero, List.set_cons_succ, List.getElem_toArray, List.getElem_cons_zero, List.getElem_cons_succ])
          refine wpAnyH_take (i := 4) (v := ?_) rfl (by kernel_rfl) (by kernel_rfl) (by kernel_rfl) (fun _ _ _ h => h) (Or.inl ⟨by kernel_rfl, ?_⟩) (by assumption) ?_
          rotate_left
          · (intro w hSw; (try dsimp only at hSw); go_simp; first | done | with_reducible rfl)
          (try simp only [Act.put, List.setIfInBounds_toArray, List.set_cons_zero, List.set_cons_succ, List.getElem_toArray, List.getElem_cons_zero, List.getElem_cons_succ])
          refine wpAnyH_take (i := 5) (v := ?_) rfl (by kernel_rfl) (by kernel_rfl) (by kernel_rfl) (fun _ _ _ h => h) (Or.inl ⟨by kernel_rfl, ?_⟩) (by assumption) ?_
          rotate_left
          · (intro w hSw; (try dsimp only at hSw); go_simp; first | done | with_reducible rfl)
          (try simp only [Act.put, List.setIfInBounds_toArray, List.set_cons_zero, List.set_cons_succ, List.getElem_toArray, List.getElem_cons_zero, List.getElem_cons_succ])
          refine wpAnyH_ready (rs := [1]) (by kernel_rfl) (by simp) ?_
          refine AllReadyH.cons rfl (fun KK hKK => ?_) AllReadyH.nil
          go_simp
          refine (slot_any w1.heap.size tg g n K q _ (HT.out.below_ (Below.refl _ _).drew).s).mono ?_
          rintro e w' ⟨rfl, rfl⟩
          go_wp2_with fail
          refine hKK.out _ _ ?_ (fun hHeld => ?_)
          · (exact x2)
          clear hKK KK
          (try simp only [Act.put, List.setIfInBounds_toArray, List.set_cons_zero, List.set_cons_succ, List.getElem_toArray, List.getElem_cons_zero, List.getElem_cons_succ])
          refine wpAnyH_take (i := 6) (v := ?_) rfl (by kernel_rfl) (by kernel_rfl) (by kernel_rfl) (fun _ _ _ h => h) (Or.inl ⟨by kernel_rfl, ?_⟩) (by assumption) ?_
          rotate_left
          · (intro w hSw; (try dsimp only at hSw); go_simp; first | done | with_reducible rfl)
          (try simp only [Act.put, List.setIfInBounds_toArray, List.set_cons_zero, List.set_cons_succ, List.getElem_toArray, List.getElem_cons_zero, List.getElem_cons_succ])
          refine wpAnyH_take (i := 7) (v := ?_) rfl (by kernel_rfl) (by kernel_rfl) (by kernel_rfl) (fun _ _ _ h => h) (Or.inl ⟨by kernel_rfl, ?_⟩) (by assumption) ?_
          rotate_left
          · (intro w hSw; (try dsimp only at hSw); go_simp; first | done | with_reducible rfl)
          (try simp only [Act.put, List.setIfInBounds_toArray, List.set_cons_zero, List.set_cons_succ, List.getElem_toArray, List.getElem_cons_zero, List.getElem_cons_succ])
          refine wpAnyH_done (by kernel_rfl) ?_ _
          go_wp2_with fail
          go_ret
          exact ⟨rfl, HBR.out.drew⟩
  · have hn' : a0 < 1 ∨ 64 < a0 := by omega
    go_enter Try.func5, Try.ntmps5
    go_wp2_with fail
    refine (small_any _).mono ?_
    rintro e w1 ⟨rfl, hb1⟩
    go_wp2_with fail
    refine (new_no a0 hn' _).mono ?_
    rintro e w2 ⟨rfl, rfl⟩
    go_wp2_with fail
    refine (dnew_no a0 hn' _).mono ?_
    rintro e w2 ⟨rfl, rfl⟩
    go_wp2_with fail
    go_ret
    exact ⟨rfl, hb1⟩

set_option maxRecDepth 100000 in
theorem lifted (os : Os) (started : os.Started) (H : Type) (enc : TypeId × Value → H) :
    ReturnsInHanded {} Try.checked os 5 .any (Rows.slotsPlaysSpec.pre6 enc Try.prog Try.f5 Rows.slotsPlaysRow.domain false) (Rows.slotsPlaysSpec.post enc Try.prog Try.f5 false true false false) := by
  refine returnsInHanded_of_change_sized (C := Try.checked) own started (by kernel_rfl) Try.func5
    (ChangeSpec.witness6 (enc := enc) (C := Try.checked) false ⟨#[], #[.int .i64 0, .slice none 0 0], []⟩ 8 (by kernel_rfl) (by kernel_rfl) (by kernel_rfl) (by kernel_rfl)) ?_
  intro W base args ds gs before hval0 hW hcnd hsz0 _
  have hval : ∀ (j : Nat) t v, Try.f5.params[j]? = some t → args[j]? = some v → Value.okWide Try.prog W .any base t v := hval0
  have hsz : (DataW.weightsEach Try.prog (Try.f5.params.toList ++ Rows.slotsPlaysSpec.plain.varTypes Try.prog) (ds ++ gs)).all (· ≤ reachBytes) = true := hsz0
  clear hsz0
  have hW' := hW
  obtain ⟨p, q, hA0, hV, rfl, hfz, hnd⟩ := hW
  have hA : DataW.TrodAll enc Try.prog W 0 (fun _ => true) true Try.f5.params.toList args.toList ds p := hA0
  rw [Try.params5] at hA hval hsz
  obtain ⟨v0, vs0, d0, ds0, p0, q0, hargs, rfl, rfl, h0, r0⟩ := trodAll_cons hA
  obtain ⟨v1, vs1, d1, ds1, p1, q1, rfl, rfl, rfl, h1, r1⟩ := trodAll_cons r0
  obtain ⟨rfl, rfl, rfl⟩ := trodAll_nil r1
  obtain rfl : args = #[v0, v1] := by cases args; simp_all
  obtain ⟨rfl, rfl⟩ := trodVars_none hV
  obtain ⟨a1, len1, cap1, rfl⟩ := okWide_slice Try.underlying35 (hval 1 35 v1 rfl rfl)
  have k1 := h1
  have lt1 : ∀ x ∈ p1, x.block < W.heap.size := by obtain ⟨m, hm⟩ := k1; exact DataW.trod_lt m _ _ _ hm
  obtain ⟨as1, w1⟩ := open_acts2 Try.underlying35 Try.underlying40 (by kernel_rfl) (by kernel_rfl) rfl rfl rfl Try.underlying28 Try.underlying5 Try.underlying3 (by kernel_rfl) (by kernel_rfl) h1 hsz (j := 1) rfl rfl
  clear hsz
  obtain ⟨a0, rfl, rfl, rfl, w0⟩ := open_int Try.underlying3 (hval 0 3 v0 rfl rfl) h0
  clear hA0 hval0
  simp only [List.append_nil] at hW'
  refine (walk a0 a1 len1 cap1 as1 W w0 w1).mono fun e W' ⟨he, bel⟩ => ?_
  subst he
  exact ⟨_, rfl, _, _, _, [], _, [], hW', trodAll_mk1 (shut_bool Try.underlying4 _), (trodAll_cons_mk (shut_int Try.underlying3 w0) (trodAll_cons_mk (Below.trod laidOut (by kernel_rfl) (of_decide_eq_true (by kernel_rfl)) k1 bel lt1) trodAll_mk0)), rfl, bel.frame _, fun h => by cases h⟩

theorem over : Rows.slotsPlaysRow.holds Try.pinned (OpenSpec.ofChange Rows.slotsPlaysSpec) :=
  OpenClaim.holds_of_wide 5 Try.f5 rfl rfl rfl rfl rfl rfl rfl ⟨rfl, rfl, rfl, rfl, rfl⟩ rfl rfl rfl rfl rfl (by kernel_rfl) Try.func5 (by kernel_rfl)
    (of_decide_eq_true (by kernel_rfl)) (by unfold Func.isWrapper; first | (rw [if_pos (by decide +kernel)]; kernel_rfl) | (rw [if_neg (by decide +kernel)]; exact ⟨rfl, rfl⟩))
    (fun os started H enc _ => lifted os started H enc)

theorem proved : Rows.SlotsPlaysSaid := over
end Go.Proofs.Ytjlmgniachdfgaa.slotsPlays
