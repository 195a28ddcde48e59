/- The law 'SlotsApart' answers true for every input, and its arguments read afterwards as before; no condition. The frame follows the kit's skeleton; the walk is ours. -/
import Derived.Test.YtjlmgniachdfgaaRows
import Derived.Test.YtjlmgniachdfgaaArgs
import Derived.Test.YtjlmgniachdfgaaArgA
import Derived.Test.YtjlmgniachdfgaaSlTwo
import Derived.Deep.RegionHeld
import Derived.Deep.DrawnRows
import Derived.WalkKit
import Derived.ProofKit
import Derived.OpenShut
import Derived.ShutString
import Derived.ChangeOld
import Derived.Below
import Derived.SizedLaws
namespace Go.Proofs.Ytjlmgniachdfgaa.slotsApart
open Go.ChangeShapes Go.WideShapes Go.ChangeAt Go.RowKit
set_option linter.unusedVariables false

theorem own : ownKnob Try.prog.godebug = none := by kernel_rfl
theorem laidOut : laidOutB Try.prog = true := by kernel_rfl

open Slots
set_option linter.unusedSimpArgs false

set_option maxRecDepth 100000 in
set_option maxHeartbeats 8000000 in
theorem walk (a0 : Int) (a1 : Int) (a2 : Option Addr) (len2 cap2 : Nat) (as2 : List ActP) (a3 : Option Addr) (len3 cap3 : Nat) (as3 : List ActP) (w : World) (w0 : (Lit.int .i64 a0).wf = true) (w1 : (Lit.int .i64 a1).wf = true) (w2 : ArgA w a2 len2 cap2 as2) (w3 : ArgA w a3 len3 cap3 as3) :
    Calls Try.prog 6 #[.int .i64 a0, .int .i64 a1, .slice a2 len2 cap2, .slice a3 len3 cap3] w fun e w' => e = .returned (.bool true) ∧ Below w.heap.size w w' := by
  obtain ⟨hb00, hb01⟩ := bounds_i64 w0
  obtain ⟨hb10, hb11⟩ := bounds_i64 w1
  obtain ⟨hl2, hf2, hm2, hr2, hok2⟩ := w2
  obtain ⟨hl3, hf3, hm3, hr3, hok3⟩ := w3
  clear w0 w1
  by_cases hn : 1 ≤ a0 ∧ a0 ≤ 64
  · as_aux_lemma =>
      obtain ⟨hn1, hn64⟩ := hn
      obtain ⟨n, rfl⟩ := Int.eq_ofNat_of_zero_le (show 0 ≤ a0 by omega)
      have n1 : 1 ≤ n := by omega
      have n64 : n ≤ 64 := by omega
      have HL := Lib.hid hl2
      have HR := Lib.hid hr2
      have HOK := Lib.hid hok2
      have HL3 := Lib.hid hl3
      have HRR3 := Lib.hid hr3
      have HOK3 := Lib.hid hok3
      clear hl2 hr2 hok2 hl3 hr3 hok3
      go_enter Try.func6, Try.ntmps6
      go_wp2_with fail
      refine (small_any _).mono ?_
      rintro e w1 ⟨rfl, hb1⟩
      have hz1 := hb1.size
      go_wp2_with fail
      refine (new_yes n n1 n64 _).mono ?_
      rintro e w2 ⟨g, tag2, rfl, h2, hb2⟩
      have hbw2 := hb1.trans (hb2.mono hz1)
      have hz12 := hb2.size
      have H2 := Lib.hid h2
      have HB2 := Lib.hid hbw2
      clear h2 hb2 hbw2
      go_wp2_with fail
      refine (new_yes n n1 n64 _).mono ?_
      rintro e w3 ⟨h, tag3, rfl, h3, hb3⟩
      have hbw3 := HB2.out.trans (hb3.mono (Nat.le_trans hz1 hz12))
      have hz13 := Nat.le_trans hz12 hb3.size
      have hT3 := Two.new H2.out hb3 h3 hz12
      have HT := Lib.hid hT3
      have HB3 := Lib.hid hbw3
      clear h3 hb3 hbw3 hT3 H2 HB2
      go_wp2_with fail
      go_loopw [14] (fun i wr => ∃ (k K : Nat) (tg th : Tags) (q p : Qs), k ≤ len2 ∧ k ≤ 150 ∧ K ≤ k ∧ i = .int .i64 k ∧ Two wr w1.heap.size tg th g h n K K q p ∧ q a1.toNat = p a1.toNat ∧ w1.heap.size ≤ wr.heap.size ∧ Below w.heap.size w wr) (fun i _ => len2 - (intOf i).toNat)
      case atStart => exact ⟨0, 0, tag2, tag3, _, _, by omega, by omega, by omega, rfl, HT.out, rfl, hz13, HB3.out⟩
      case round =>
        obtain ⟨k, K, tg, th, q, p, hk, hk150, hKk, rfl, hT, hqp, hzr, hbr⟩ := hrel
        clear HT HB3
        have HT := Lib.hid hT
        have HBR := Lib.hid hbr
        have HQP := Lib.hid hqp
        clear hT hbr hqp
        by_cases hgo : k < len2 ∧ k < 150
        · as_aux_lemma =>
            obtain ⟨hlt, hlt150⟩ := hgo
            obtain ⟨ad, hA, hSb, hc⟩ := HR.out (by rw [HL.out]; omega)
            subst hA
            have hkl : k < as2.length := by rw [HL.out]; exact hlt
            obtain ⟨x0, x1, x2⟩ := hc k hkl
            have hpk := HOK.out as2[k] (List.getElem_mem hkl)
            generalize as2[k] = ap at *
            obtain ⟨pd, pn, pA, pm, pc, pl⟩ := ap
            obtain ⟨p1, p2, p3, p4, p5, p6, p7, p8⟩ := hpk
            simp only at p1 p2 p3 p4 p5 p6 p7 p8 x0 x1 x2
            have y0 := (HBR.out.cell (p := ad.add (k * 3)) (by rw [add_block]; exact hSb)).trans x0
            have y1 := (HBR.out.cell (p := ad.add (k * 3 + 1)) (by rw [add_block]; exact hSb)).trans x1
            have y2 := (HBR.out.cell (p := ad.add (k * 3 + 2)) (by rw [add_block]; exact hSb)).trans x2
            rw [add_plus _ _ _ (by omega)] at y1 y2
            have HP5 := Lib.hid p5
            have HP8 := Lib.hid p8
            have hT0 : Two (wr.alloc (.cells #[.int .i64 pd, .int .i64 pn, .slice pA pm pc] 40)) w1.heap.size tg th g h n K K q p := HT.out.below_ ((Below.refl _ _).alloc (Nat.le_refl _) _)
            have hb0 : Below w.heap.size w (wr.alloc (.cells #[.int .i64 pd, .int .i64 pn, .slice pA pm pc] 40)) := HBR.out.alloc HBR.out.size _
            have hr0 : RowV (wr.alloc (.cells #[.int .i64 pd, .int .i64 pn, .slice pA pm pc] 40)) 40 wr.heap.size [.int .i64 pd, .int .i64 pn, .slice pA pm pc] := heap_alloc_new wr _
            have hq0 := HT.out.free (o := (.cells #[.int .i64 pd, .int .i64 pn, .slice pA pm pc] 40))
            have HT0 := Lib.hid hT0
            have HB0 := Lib.hid hb0
            have HR0 := Lib.hid hr0
            have HQ0 := Lib.hid hq0
            have hzs : (wr.alloc (.cells #[.int .i64 pd, .int .i64 pn, .slice pA pm pc] 40)).heap.size = wr.heap.size + 1 := by simp
            have HZS := Lib.hid hzs
            clear p5 p8 x0 x1 x2 hc hT0 hb0 hr0 hq0 hzs
            by_cases hd1 : pd = 1
            · as_aux_lemma =>
                subst hd1
                clear HP5 HP8
                have HQT := Lib.hid (show ((turnOf n K : Nat) : Int) = a1 → q (turnOf n K) = p (turnOf n K) from fun e => by
                  have := HQP.out
                  rw [← e, Int.toNat_natCast] at this; exact this)
                have HQN := Lib.hid (next_eq (n := n) (K := K) HQP.out)
                have hTk := turnOf_ok (K := K) n1
                go_wp2_with fail
                refine (next_any w1.heap.size tg g n K q _ n1 n64 (by omega) HT0.out.s).mono ?_
                generalize nextQ n K q = q3 at *
                rintro e w4 ⟨A4, m4, c4, tg3, l4, hm4, hl4e, rfl, hv4, ht4, h4, hl4, hz4, hF4⟩
                have hT4 := HT0.out.left h4 hF4 (fun k hk => .inl (hl4 k hk))
                have hb4 := HB0.out.trans (HT0.out.s.rest hF4 hz1 (by rw [HZS.out]; omega))
                have hdis := fun b e => ((HT0.out.dis b (ht4 b e).1))
                have HM4 := Lib.hid hm4
                have HL4E := Lib.hid hl4e
                clear hm4 hl4e
                have HT4 := Lib.hid hT4
                have HB4 := Lib.hid hb4
                have HV4 := Lib.hid hv4
                have HD4 := Lib.hid hdis
                rw [HZS.out] at hz4
                clear hv4 ht4 h4 hl4 hF4 hT4 hb4 hdis
                go_wp2_with fail
                refine (next_any w1.heap.size th h n K p _ n1 n64 (by omega) HT4.out.t).mono ?_
                generalize nextQ n K p = p3 at *
                rintro e w5 ⟨A5, m5, c5, th3, l5, hm5, hl5e, rfl, hv5, ht5, h5, hl5, hz5, hF5⟩
                have hT5 := HT4.out.right h5 hF5 (fun k hk => .inl (hl5 k hk))
                have hb5 := HB4.out.trans (HT4.out.t.rest hF5 hz1 (by omega))
                have hv4 := own_keep HV4.out (fun b e => hF5.block b ⟨(HV4.out.lt b e).2, HD4.out b e⟩)
                have HM5 := Lib.hid hm5
                have HL5E := Lib.hid hl5e
                clear hm5 hl5e
                have HT5 := Lib.hid hT5
                have HB5 := Lib.hid hb5
                have HV5 := Lib.hid hv5
                have HV4' := Lib.hid hv4
                clear hv5 ht5 h5 hl5 hF5 hT5 hb5 hv4 HV4
                by_cases hτ : ((turnOf n K : Nat) : Int) = a1
                · as_aux_lemma =>
                    have hqe := HQT.out hτ
                    have hll : l4 = l5 := by rw [HL4E.out, HL5E.out, hqe]
                    subst hll
                    rw [hqe]
                    have hs4 : (convert 28 9 (.slice A4 m4 c4)).run Try.prog w5 = .ok (.string (str l4)) w5 := by
                      obtain ⟨A, c, e, hr, _⟩ := HV4'.out.form
                      injection e with e1 e2 e3
                      subst e1 e3
                      rw [HM4.out]; exact hr.str Go.Proofs.Ytjlmgniachdfgaa.u8 9 Try.underlying9 c4
                    have hs5 : (convert 28 9 (.slice A5 m5 c5)).run Try.prog w5 = .ok (.string (str l4)) w5 := by
                      obtain ⟨A, c, e, hr, _⟩ := HV5.out.form
                      injection e with e1 e2 e3
                      subst e1 e3
                      rw [HM5.out]; exact hr.str Go.Proofs.Ytjlmgniachdfgaa.u8 9 Try.underlying9 c5
                    clear HM4 HM5 HL4E HL5E
                    generalize p (turnOf n K) = L at *
                    generalize turnOf n K = τ at *
                    clear HV4' HV5 HD4 hqe HQT
                    generalize str l4 = sl at *
                    generalize (!L.isEmpty) = bl at *
                    go_wp2_with fail
                    go_roundw
                    case rel => exact ⟨k + 1, K + 1, tg3, th3, q3, p3, by omega, by omega, by omega, by go_num, HT5.out, HQN.out, by omega, HB5.out⟩
                    case measure => simp [intOf] <;> omega
                · clear HV4' HV5 HD4 HQT HM4 HM5 HL4E HL5E
                  generalize (!(q (turnOf n K)).isEmpty) = bl at *
                  generalize (!(p (turnOf n K)).isEmpty) = bm at *
                  generalize turnOf n K = τ at *
                  go_wp2_with fail
                  go_roundw
                  case rel => exact ⟨k + 1, K + 1, tg3, th3, q3, p3, by omega, by omega, by omega, by go_num, HT5.out, HQN.out, by omega, HB5.out⟩
                  case measure => simp [intOf] <;> omega
            · as_aux_lemma =>
                by_cases hpa : pn = a1
                · as_aux_lemma =>
                    subst hpa
                    by_cases hd0 : pd = 0
                    · as_aux_lemma =>
                        subst hd0
                        obtain ⟨hpe1, hpe2⟩ := put_eq (n := n) (l := pl) HQP.out
                        have HE := Lib.hid hpe1
                        have HQN := Lib.hid hpe2
                        clear hpe1 hpe2
                        go_wp2_with fail
                        refine wp_region_held_drew (S := fun w' => w'.cell? ⟨wr.heap.size, 0, none⟩ = some (.int .i64 0) ∧ w'.cell? ⟨wr.heap.size, 1, none⟩ = some (.int .i64 pn) ∧ w'.cell? ⟨wr.heap.size, 2, none⟩ = some (.slice pA pm pc)) (by kernel_rfl) (⟨HR0.out.cell (i := 0) rfl, HR0.out.cell (i := 1) rfl, HR0.out.cell (i := 2) rfl⟩) (fun hHeld => ?_)
                        refine wpAnyH_take (i := 0) (v := ?_) rfl (by kernel_rfl) (by kernel_rfl) (by kernel_rfl) (fun _ _ _ h => h) (Or.inl ⟨by kernel_rfl, ?_⟩) (by assumption) ?_
                        rotate_left
                        · (intro w hSw; (try dsimp only at hSw); go_simp; first | done | with_reducible rfl)
                        (try simp only [Act.put, List.setIfInBounds_toArray, List.set_cons_zero, List.set_cons_succ, List.getElem_toArray, List.getElem_cons_zero, List.getElem_cons_succ])
                        refine wpAnyH_take (i := 1) (v := ?_) rfl (by kernel_rfl) (by kernel_rfl) (by kernel_rfl) (fun _ _ _ h => h) (Or.inl ⟨by kernel_rfl, ?_⟩) (by assumption) ?_
                        rotate_left
                        · (intro w hSw; (try dsimp only at hSw); go_simp; first | done | with_reducible rfl)
                        (try simp only [Act.put, List.setIfInBounds_toArray, List.set_cons_zero, List.set_cons_succ, List.getElem_toArray, List.getElem_cons_zero, List.getElem_cons_succ])
                        refine wpAnyH_take (i := 2) (v := ?_) rfl (by kernel_rfl) (by kernel_rfl) (by kernel_rfl) (fun _ _ _ h => h) (Or.inl ⟨by kernel_rfl, ?_⟩) (by assumption) ?_
                        rotate_left
                        · (intro w hSw; (try dsimp only at hSw); go_simp; first | done | with_reducible rfl)
                        (try simp only [Act.put, List.setIfInBounds_toArray, List.set_cons_zero, List.set_cons_succ, List.getElem_toArray, List.getElem_cons_zero, List.getElem_cons_succ])
                        refine wpAnyH_take (i := 3) (v := ?_) rfl (by kernel_rfl) (by kernel_rfl) (by kernel_rfl) (fun _ _ _ h => h) (Or.inl ⟨by kernel_rfl, ?_⟩) (by assumption) ?_
                        rotate_left
                        · (intro w hSw; (try dsimp only at hSw); go_simp; first | done | with_reducible rfl)
                        (try simp only [Act.put, List.setIfInBounds_toArray, List.set_cons_zero, List.set_cons_succ, List.getElem_toArray, List.getElem_cons_zero, List.getElem_cons_succ])
                        refine wpAnyH_take (i := 4) (v := ?_) rfl (by kernel_rfl) (by kernel_rfl) (by kernel_rfl) (fun _ _ _ h => h) (Or.inl ⟨by kernel_rfl, ?_⟩) (by assumption) ?_
                        rotate_left
                        · (intro w hSw; (try dsimp only at hSw); go_simp; first | done | with_reducible rfl)
                        (try simp only [Act.put, List.setIfInBounds_toArray, List.set_cons_zero, List.set_cons_succ, List.getElem_toArray, List.getElem_cons_zero, List.getElem_cons_succ])
                        refine wpAnyH_take (i := 5) (v := ?_) rfl (by kernel_rfl) (by kernel_rfl) (by kernel_rfl) (fun _ _ _ h => h) (Or.inl ⟨by kernel_rfl, ?_⟩) (by assumption) ?_
                        rotate_left
                        · (intro w hSw; (try dsimp only at hSw); go_simp; first | done | with_reducible rfl)
                        (try simp only [Act.put, List.setIfInBounds_toArray, List.set_cons_zero, List.set_cons_succ, List.getElem_toArray, List.getElem_cons_zero, List.getElem_cons_succ])
                        refine wpAnyH_take (i := 6) (v := ?_) rfl (by kernel_rfl) (by kernel_rfl) (by kernel_rfl) (fun _ _ _ h => h) (Or.inl ⟨by kernel_rfl, ?_⟩) (by assumption) ?_
                        rotate_left
                        · (intro w hSw; (try dsimp only at hSw); go_simp; first | done | with_reducible rfl)
                        (try simp only [Act.put, List.setIfInBounds_toArray, List.set_cons_zero, List.set_cons_succ, List.getElem_toArray, List.getElem_cons_zero, List.getElem_cons_succ])
                        refine wpAnyH_take (i := 7) (v := ?_) rfl (by kernel_rfl) (by kernel_rfl) (by kernel_rfl) (fun _ _ _ h => h) (Or.inl ⟨by kernel_rfl, ?_⟩) (by assumption) ?_
                        rotate_left
                        · (intro w hSw; (try dsimp only at hSw); go_simp; first | done | with_reducible rfl)
                        (try simp only [Act.put, List.setIfInBounds_toArray, List.set_cons_zero, List.set_cons_succ, List.getElem_toArray, List.getElem_cons_zero, List.getElem_cons_succ])
                        refine wpAnyH_take (i := 8) (v := ?_) rfl (by kernel_rfl) (by kernel_rfl) (by kernel_rfl) (fun _ _ _ h => h) (Or.inl ⟨by kernel_rfl, ?_⟩) (by assumption) ?_
                        rotate_left
                        · (intro w hSw; (try dsimp only at hSw); go_simp; first | done | with_reducible rfl)
                        (try simp only [Act.put, List.setIfInBounds_toArray, List.set_cons_zero, List.set_cons_succ, List.getElem_toArray, List.getElem_cons_zero, List.getElem_cons_succ])
                        refine wpAnyH_take (i := 10) (v := ?_) rfl (by kernel_rfl) (by kernel_rfl) (by kernel_rfl) (fun _ _ _ h => h) (Or.inl ⟨by kernel_rfl, ?_⟩) (by assumption) ?_
                        rotate_left
                        · (intro w hSw; (try dsimp only at hSw); go_simp; first | done | with_reducible rfl)
                        (try simp only [Act.put, List.setIfInBounds_toArray, List.set_cons_zero, List.set_cons_succ, List.getElem_toArray, List.getElem_cons_zero, List.getElem_cons_succ])
                        refine wpAnyH_take (i := 11) (v := ?_) rfl (by kernel_rfl) (by kernel_rfl) (by kernel_rfl) (fun _ _ _ h => h) (Or.inl ⟨by kernel_rfl, ?_⟩) (by assumption) ?_
                        rotate_left
                        · (intro w hSw; (try dsimp only at hSw); go_simp; first | done | with_reducible rfl)
                        (try simp only [Act.put, List.setIfInBounds_toArray, List.set_cons_zero, List.set_cons_succ, List.getElem_toArray, List.getElem_cons_zero, List.getElem_cons_succ])
                        refine wpAnyH_take (i := 12) (v := ?_) rfl (by kernel_rfl) (by kernel_rfl) (by kernel_rfl) (fun _ _ _ h => h) (Or.inl ⟨by kernel_rfl, ?_⟩) (by assumption) ?_
                        rotate_left
                        · (intro w hSw; (try dsimp only at hSw); go_simp; first | done | with_reducible rfl)
                        (try simp only [Act.put, List.setIfInBounds_toArray, List.set_cons_zero, List.set_cons_succ, List.getElem_toArray, List.getElem_cons_zero, List.getElem_cons_succ])
                        refine wpAnyH_take (i := 13) (v := ?_) rfl (by kernel_rfl) (by kernel_rfl) (by kernel_rfl) (fun _ _ _ h => h) (Or.inl ⟨by kernel_rfl, ?_⟩) (by assumption) ?_
                        rotate_left
                        · (intro w hSw; (try dsimp only at hSw); go_simp; first | done | with_reducible rfl)
                        (try simp only [Act.put, List.setIfInBounds_toArray, List.set_cons_zero, List.set_cons_succ, List.getElem_toArray, List.getElem_cons_zero, List.getElem_cons_succ])
                        refine wpAnyH_take (i := 14) (v := ?_) rfl (by kernel_rfl) (by kernel_rfl) (by kernel_rfl) (fun _ _ _ h => h) (Or.inl ⟨by kernel_rfl, ?_⟩) (by assumption) ?_
                        rotate_left
                        · (intro w hSw; (try dsimp only at hSw); go_simp; first | done | with_reducible rfl)
                        (try simp only [Act.put, List.setIfInBounds_toArray, List.set_cons_zero, List.set_cons_succ, List.getElem_toArray, List.getElem_cons_zero, List.getElem_cons_succ])
                        refine wpAnyH_ready (rs := [9]) (by kernel_rfl) (by simp) ?_
                        refine AllReadyH.cons rfl (fun KK hKK => ?_) AllReadyH.nil
                        go_simp
                        refine (put_any w1.heap.size tg g n K q pn pA pm pc pl ((wr.alloc (.cells #[.int .i64 0, .int .i64 pn, .slice pA pm pc] 40)).drew) w.heap.size HB0.out.size n64 (HT0.out.s.below_ (Below.refl _ _).drew) (show w1.heap.size ≤ (wr.alloc (.cells #[.int .i64 0, .int .i64 pn, .slice pA pm pc] 40)).heap.size from by rw [HZS.out]; omega) HP5.out (HP8.out.below (HB0.out.trans (Below.refl _ _).drew))).mono ?_
                        rw [HE.out]
                        generalize putQ n q pn pl = q3 at *
                        generalize hE2 : putE n p pn pl = E at *
                        have HE2 := Lib.hid hE2
                        clear hE2
                        rintro e w4 ⟨tg3, rfl, h4, hF4, ht4⟩
                        have hF4' : Frame (Slots.Rest (wr.alloc (.cells #[.int .i64 0, .int .i64 pn, .slice pA pm pc] 40)) tg) (wr.alloc (.cells #[.int .i64 0, .int .i64 pn, .slice pA pm pc] 40)) w4 := undrew hF4
                        have hT4 := HT0.out.left h4 hF4' ht4
                        have hb4 := HB0.out.trans (HT0.out.s.rest hF4' hz1 (by rw [HZS.out]; omega))
                        have hz4 := hF4'.size
                        rw [HZS.out] at hz4
                        have hR4 := HR0.out.keep (hF4'.block _ HQ0.out.1)
                        have HT4 := Lib.hid hT4
                        have HB4 := Lib.hid hb4
                        have HR4 := Lib.hid hR4
                        clear h4 hF4 hF4' ht4 hT4 hb4 hR4
                        go_wp2_with fail
                        refine hKK.out _ _ ?_ (fun hHeld => ?_)
                        · (exact ⟨HR4.out.cell (i := 0) rfl, HR4.out.cell (i := 1) rfl, HR4.out.cell (i := 2) rfl⟩)
                        clear hKK KK
                        (try simp only [Act.put, List.setIfInBounds_toArray, List.set_cons_zero, List.set_cons_succ, List.getElem_toArray, List.getElem_cons_zero, List.getElem_cons_succ])
                        refine wpAnyH_ready (rs := [15]) (by kernel_rfl) (by simp) ?_
                        refine AllReadyH.cons rfl (fun KK hKK => ?_) AllReadyH.nil
                        go_simp
                        refine (put_any w1.heap.size th h n K p pn pA pm pc pl _ w.heap.size HB4.out.size n64 HT4.out.t (by omega) HP5.out (HP8.out.below HB4.out)).mono ?_
                        rw [HE2.out]
                        generalize putQ n p pn pl = p3 at *
                        rintro e w5 ⟨th3, rfl, h5, hF5, ht5⟩
                        have hT5 := HT4.out.right h5 hF5 ht5
                        have hb5 := HB4.out.trans (HT4.out.t.rest hF5 hz1 (by omega))
                        have hz5 := hF5.size
                        have hR5 := HR4.out.keep (hF5.block _ ⟨by omega, HQ0.out.2.2⟩)
                        have HT5 := Lib.hid hT5
                        have HB5 := Lib.hid hb5
                        have HR5 := Lib.hid hR5
                        clear h5 hF5 hT5 hb5 hR5
                        clear ht5
                        go_wp2_with fail
                        refine hKK.out _ _ ?_ (fun hHeld => ?_)
                        · (exact ⟨HR5.out.cell (i := 0) rfl, HR5.out.cell (i := 1) rfl, HR5.out.cell (i := 2) rfl⟩)
                        clear hKK KK
                        (try simp only [Act.put, List.setIfInBounds_toArray, List.set_cons_zero, List.set_cons_succ, List.getElem_toArray, List.getElem_cons_zero, List.getElem_cons_succ])
                        refine wpAnyH_take (i := 16) (v := ?_) rfl (by kernel_rfl) (by kernel_rfl) (by kernel_rfl) (fun _ _ _ h => h) (Or.inl ⟨by kernel_rfl, ?_⟩) (by assumption) ?_
                        rotate_left
                        · (intro w hSw; (try dsimp only at hSw); go_simp; first | done | with_reducible rfl)
                        (try simp only [Act.put, List.setIfInBounds_toArray, List.set_cons_zero, List.set_cons_succ, List.getElem_toArray, List.getElem_cons_zero, List.getElem_cons_succ])
                        refine wpAnyH_take (i := 17) (v := ?_) rfl (by kernel_rfl) (by kernel_rfl) (by kernel_rfl) (fun _ _ _ h => h) (Or.inl ⟨by kernel_rfl, ?_⟩) (by assumption) ?_
                        rotate_left
                        · (intro w hSw; (try dsimp only at hSw); go_simp; first | done | with_reducible rfl)
                        (try simp only [Act.put, List.setIfInBounds_toArray, List.set_cons_zero, List.set_cons_succ, List.getElem_toArray, List.getElem_cons_zero, List.getElem_cons_succ])
                        refine wpAnyH_take (i := 18) (v := ?_) rfl (by kernel_rfl) (by kernel_rfl) (by kernel_rfl) (fun _ _ _ h => h) (Or.inl ⟨by kernel_rfl, ?_⟩) (by assumption) ?_
                        rotate_left
                        · (intro w hSw; (try dsimp only at hSw); go_simp; first | done | with_reducible rfl)
                        (try simp only [Act.put, List.setIfInBounds_toArray, List.set_cons_zero, List.set_cons_succ, List.getElem_toArray, List.getElem_cons_zero, List.getElem_cons_succ])
                        refine wpAnyH_take (i := 19) (v := ?_) rfl (by kernel_rfl) (by kernel_rfl) (by kernel_rfl) (fun _ _ _ h => h) (Or.inl ⟨by kernel_rfl, ?_⟩) (by assumption) ?_
                        rotate_left
                        · (intro w hSw; (try dsimp only at hSw); go_simp; first | done | with_reducible rfl)
                        (try simp only [Act.put, List.setIfInBounds_toArray, List.set_cons_zero, List.set_cons_succ, List.getElem_toArray, List.getElem_cons_zero, List.getElem_cons_succ])
                        refine wpAnyH_take (i := 20) (v := ?_) rfl (by kernel_rfl) (by kernel_rfl) (by kernel_rfl) (fun _ _ _ h => h) (Or.inl ⟨by kernel_rfl, ?_⟩) (by assumption) ?_
                        rotate_left
                        · (intro w hSw; (try dsimp only at hSw); go_simp; first | done | with_reducible rfl)
                        (try simp only [Act.put, List.setIfInBounds_toArray, List.set_cons_zero, List.set_cons_succ, List.getElem_toArray, List.getElem_cons_zero, List.getElem_cons_succ])
                        refine wpAnyH_take (i := 21) (v := ?_) rfl (by kernel_rfl) (by kernel_rfl) (by kernel_rfl) (fun _ _ _ h => h) (Or.inl ⟨by kernel_rfl, ?_⟩) (by assumption) ?_
                        rotate_left
                        · (intro w hSw; (try dsimp only at hSw); go_simp; first | done | with_reducible rfl)
                        (try simp only [Act.put, List.setIfInBounds_toArray, List.set_cons_zero, List.set_cons_succ, List.getElem_toArray, List.getElem_cons_zero, List.getElem_cons_succ])
                        refine wpAnyH_take (i := 22) (v := ?_) rfl (by kernel_rfl) (by kernel_rfl) (by kernel_rfl) (fun _ _ _ h => h) (Or.inl ⟨by kernel_rfl, ?_⟩) (by assumption) ?_
                        rotate_left
                        · (intro w hSw; (try dsimp only at hSw); go_simp; first | done | with_reducible rfl)
                        (try simp only [Act.put, List.setIfInBounds_toArray, List.set_cons_zero, List.set_cons_succ, List.getElem_toArray, List.getElem_cons_zero, List.getElem_cons_succ])
                        refine wpAnyH_take (i := 23) (v := undef) rfl (by kernel_rfl) (by kernel_rfl) (by kernel_rfl) (fun _ _ _ h => h) (Or.inr ⟨by kernel_rfl, rfl⟩) (by assumption) ?_
                        (try simp only [Act.put, List.setIfInBounds_toArray, List.set_cons_zero, List.set_cons_succ, List.getElem_toArray, List.getElem_cons_zero, List.getElem_cons_succ])
                        refine wpAnyH_take (i := 24) (v := undef) rfl (by kernel_rfl) (by kernel_rfl) (by kernel_rfl) (fun _ _ _ h => h) (Or.inr ⟨by kernel_rfl, rfl⟩) (by assumption) ?_
                        (try simp only [Act.put, List.setIfInBounds_toArray, List.set_cons_zero, List.set_cons_succ, List.getElem_toArray, List.getElem_cons_zero, List.getElem_cons_succ])
                        refine wpAnyH_take (i := 25) (v := undef) rfl (by kernel_rfl) (by kernel_rfl) (by kernel_rfl) (fun _ _ _ h => h) (Or.inr ⟨by kernel_rfl, rfl⟩) (by assumption) ?_
                        (try simp only [Act.put, List.setIfInBounds_toArray, List.set_cons_zero, List.set_cons_succ, List.getElem_toArray, List.getElem_cons_zero, List.getElem_cons_succ])
                        refine wpAnyH_take (i := 26) (v := undef) rfl (by kernel_rfl) (by kernel_rfl) (by kernel_rfl) (fun _ _ _ h => h) (Or.inr ⟨by kernel_rfl, rfl⟩) (by assumption) ?_
                        (try simp only [Act.put, List.setIfInBounds_toArray, List.set_cons_zero, List.set_cons_succ, List.getElem_toArray, List.getElem_cons_zero, List.getElem_cons_succ])
                        refine wpAnyH_take (i := 27) (v := undef) rfl (by kernel_rfl) (by kernel_rfl) (by kernel_rfl) (fun _ _ _ h => h) (Or.inr ⟨by kernel_rfl, rfl⟩) (by assumption) ?_
                        (try simp only [Act.put, List.setIfInBounds_toArray, List.set_cons_zero, List.set_cons_succ, List.getElem_toArray, List.getElem_cons_zero, List.getElem_cons_succ])
                        refine wpAnyH_take (i := 28) (v := undef) rfl (by kernel_rfl) (by kernel_rfl) (by kernel_rfl) (fun _ _ _ h => h) (Or.inr ⟨by kernel_rfl, rfl⟩) (by assumption) ?_
                        (try simp only [Act.put, List.setIfInBounds_toArray, List.set_cons_zero, List.set_cons_succ, List.getElem_toArray, List.getElem_cons_zero, List.getElem_cons_succ])
                        refine wpAnyH_take (i := 29) (v := undef) rfl (by kernel_rfl) (by kernel_rfl) (by kernel_rfl) (fun _ _ _ h => h) (Or.inr ⟨by kernel_rfl, rfl⟩) (by assumption) ?_
                        (try simp only [Act.put, List.setIfInBounds_toArray, List.set_cons_zero, List.set_cons_succ, List.getElem_toArray, List.getElem_cons_zero, List.getElem_cons_succ])
                        refine wpAnyH_take (i := 30) (v := undef) rfl (by kernel_rfl) (by kernel_rfl) (by kernel_rfl) (fun _ _ _ h => h) (Or.inr ⟨by kernel_rfl, rfl⟩) (by assumption) ?_
                        (try simp only [Act.put, List.setIfInBounds_toArray, List.set_cons_zero, List.set_cons_succ, List.getElem_toArray, List.getElem_cons_zero, List.getElem_cons_succ])
                        refine wpAnyH_take (i := 31) (v := undef) rfl (by kernel_rfl) (by kernel_rfl) (by kernel_rfl) (fun _ _ _ h => h) (Or.inr ⟨by kernel_rfl, rfl⟩) (by assumption) ?_
                        (try simp only [Act.put, List.setIfInBounds_toArray, List.set_cons_zero, List.set_cons_succ, List.getElem_toArray, List.getElem_cons_zero, List.getElem_cons_succ])
                        refine wpAnyH_take (i := 32) (v := ?_) rfl (by kernel_rfl) (by kernel_rfl) (by kernel_rfl) (fun _ _ _ h => h) (Or.inl ⟨by kernel_rfl, ?_⟩) (by assumption) ?_
                        rotate_left
                        · (intro w hSw; (try dsimp only at hSw); go_simp; first | done | with_reducible rfl)
                        (try simp only [Act.put, List.setIfInBounds_toArray, List.set_cons_zero, List.set_cons_succ, List.getElem_toArray, List.getElem_cons_zero, List.getElem_cons_succ])
                        refine wpAnyH_take (i := 33) (v := ?_) rfl (by kernel_rfl) (by kernel_rfl) (by kernel_rfl) (fun _ _ _ h => h) (Or.inl ⟨by kernel_rfl, ?_⟩) (by assumption) ?_
                        rotate_left
                        · (intro w hSw; (try dsimp only at hSw); go_simp; first | done | with_reducible rfl)
                        (try simp only [Act.put, List.setIfInBounds_toArray, List.set_cons_zero, List.set_cons_succ, List.getElem_toArray, List.getElem_cons_zero, List.getElem_cons_succ])
                        refine wpAnyH_done (by kernel_rfl) ?_ _
                        go_wp2_with fail
                        go_roundw
                        case rel => exact ⟨k + 1, K, tg3, th3, q3, p3, by omega, by omega, by omega, by go_num, HT5.out, HQN.out, by omega, HB5.out⟩
                        case measure => simp [intOf] <;> omega
                    · as_aux_lemma =>
                        by_cases hd2 : pd = 2
                        · as_aux_lemma =>
                            subst hd2
                            obtain ⟨hpe1, hpe2⟩ := drop_eq (n := n) HQP.out
                            have HE := Lib.hid hpe1
                            have HQN := Lib.hid hpe2
                            clear hpe1 hpe2
                            go_wp2_with fail
                            refine wp_region_held_drew (S := fun w' => w'.cell? ⟨wr.heap.size, 0, none⟩ = some (.int .i64 2) ∧ w'.cell? ⟨wr.heap.size, 1, none⟩ = some (.int .i64 pn) ∧ w'.cell? ⟨wr.heap.size, 2, none⟩ = some (.slice pA pm pc)) (by kernel_rfl) (⟨HR0.out.cell (i := 0) rfl, HR0.out.cell (i := 1) rfl, HR0.out.cell (i := 2) rfl⟩) (fun hHeld => ?_)
                            refine wpAnyH_take (i := 0) (v := ?_) rfl (by kernel_rfl) (by kernel_rfl) (by kernel_rfl) (fun _ _ _ h => h) (Or.inl ⟨by kernel_rfl, ?_⟩) (by assumption) ?_
                            rotate_left
                            · (intro w hSw; (try dsimp only at hSw); go_simp; first | done | with_reducible rfl)
                            (try simp only [Act.put, List.setIfInBounds_toArray, List.set_cons_zero, List.set_cons_succ, List.getElem_toArray, List.getElem_cons_zero, List.getElem_cons_succ])
                            refine wpAnyH_take (i := 1) (v := ?_) rfl (by kernel_rfl) (by kernel_rfl) (by kernel_rfl) (fun _ _ _ h => h) (Or.inl ⟨by kernel_rfl, ?_⟩) (by assumption) ?_
                            rotate_left
                            · (intro w hSw; (try dsimp only at hSw); go_simp; first | done | with_reducible rfl)
                            (try simp only [Act.put, List.setIfInBounds_toArray, List.set_cons_zero, List.set_cons_succ, List.getElem_toArray, List.getElem_cons_zero, List.getElem_cons_succ])
                            refine wpAnyH_take (i := 2) (v := ?_) rfl (by kernel_rfl) (by kernel_rfl) (by kernel_rfl) (fun _ _ _ h => h) (Or.inl ⟨by kernel_rfl, ?_⟩) (by assumption) ?_
                            rotate_left
                            · (intro w hSw; (try dsimp only at hSw); go_simp; first | done | with_reducible rfl)
                            (try simp only [Act.put, List.setIfInBounds_toArray, List.set_cons_zero, List.set_cons_succ, List.getElem_toArray, List.getElem_cons_zero, List.getElem_cons_succ])
                            refine wpAnyH_take (i := 3) (v := ?_) rfl (by kernel_rfl) (by kernel_rfl) (by kernel_rfl) (fun _ _ _ h => h) (Or.inl ⟨by kernel_rfl, ?_⟩) (by assumption) ?_
                            rotate_left
                            · (intro w hSw; (try dsimp only at hSw); go_simp; first | done | with_reducible rfl)
                            (try simp only [Act.put, List.setIfInBounds_toArray, List.set_cons_zero, List.set_cons_succ, List.getElem_toArray, List.getElem_cons_zero, List.getElem_cons_succ])
                            refine wpAnyH_take (i := 4) (v := undef) rfl (by kernel_rfl) (by kernel_rfl) (by kernel_rfl) (fun _ _ _ h => h) (Or.inr ⟨by kernel_rfl, rfl⟩) (by assumption) ?_
                            (try simp only [Act.put, List.setIfInBounds_toArray, List.set_cons_zero, List.set_cons_succ, List.getElem_toArray, List.getElem_cons_zero, List.getElem_cons_succ])
                            refine wpAnyH_take (i := 5) (v := undef) rfl (by kernel_rfl) (by kernel_rfl) (by kernel_rfl) (fun _ _ _ h => h) (Or.inr ⟨by kernel_rfl, rfl⟩) (by assumption) ?_
                            (try simp only [Act.put, List.setIfInBounds_toArray, List.set_cons_zero, List.set_cons_succ, List.getElem_toArray, List.getElem_cons_zero, List.getElem_cons_succ])
                            refine wpAnyH_take (i := 6) (v := undef) rfl (by kernel_rfl) (by kernel_rfl) (by kernel_rfl) (fun _ _ _ h => h) (Or.inr ⟨by kernel_rfl, rfl⟩) (by assumption) ?_
                            (try simp only [Act.put, List.setIfInBounds_toArray, List.set_cons_zero, List.set_cons_succ, List.getElem_toArray, List.getElem_cons_zero, List.getElem_cons_succ])
                            refine wpAnyH_take (i := 7) (v := undef) rfl (by kernel_rfl) (by kernel_rfl) (by kernel_rfl) (fun _ _ _ h => h) (Or.inr ⟨by kernel_rfl, rfl⟩) (by assumption) ?_
                            (try simp only [Act.put, List.setIfInBounds_toArray, List.set_cons_zero, List.set_cons_succ, List.getElem_toArray, List.getElem_cons_zero, List.getElem_cons_succ])
                            refine wpAnyH_take (i := 8) (v := undef) rfl (by kernel_rfl) (by kernel_rfl) (by kernel_rfl) (fun _ _ _ h => h) (Or.inr ⟨by kernel_rfl, rfl⟩) (by assumption) ?_
                            (try simp only [Act.put, List.setIfInBounds_toArray, List.set_cons_zero, List.set_cons_succ, List.getElem_toArray, List.getElem_cons_zero, List.getElem_cons_succ])
                            refine wpAnyH_take (i := 9) (v := undef) rfl (by kernel_rfl) (by kernel_rfl) (by kernel_rfl) (fun _ _ _ h => h) (Or.inr ⟨by kernel_rfl, rfl⟩) (by assumption) ?_
                            (try simp only [Act.put, List.setIfInBounds_toArray, List.set_cons_zero, List.set_cons_succ, List.getElem_toArray, List.getElem_cons_zero, List.getElem_cons_succ])
                            refine wpAnyH_take (i := 10) (v := undef) rfl (by kernel_rfl) (by kernel_rfl) (by kernel_rfl) (fun _ _ _ h => h) (Or.inr ⟨by kernel_rfl, rfl⟩) (by assumption) ?_
                            (try simp only [Act.put, List.setIfInBounds_toArray, List.set_cons_zero, List.set_cons_succ, List.getElem_toArray, List.getElem_cons_zero, List.getElem_cons_succ])
                            refine wpAnyH_take (i := 11) (v := undef) rfl (by kernel_rfl) (by kernel_rfl) (by kernel_rfl) (fun _ _ _ h => h) (Or.inr ⟨by kernel_rfl, rfl⟩) (by assumption) ?_
                            (try simp only [Act.put, List.setIfInBounds_toArray, List.set_cons_zero, List.set_cons_succ, List.getElem_toArray, List.getElem_cons_zero, List.getElem_cons_succ])
                            refine wpAnyH_take (i := 12) (v := undef) rfl (by kernel_rfl) (by kernel_rfl) (by kernel_rfl) (fun _ _ _ h => h) (Or.inr ⟨by kernel_rfl, rfl⟩) (by assumption) ?_
                            (try simp only [Act.put, List.setIfInBounds_toArray, List.set_cons_zero, List.set_cons_succ, List.getElem_toArray, List.getElem_cons_zero, List.getElem_cons_succ])
                            refine wpAnyH_take (i := 13) (v := undef) rfl (by kernel_rfl) (by kernel_rfl) (by kernel_rfl) (fun _ _ _ h => h) (Or.inr ⟨by kernel_rfl, rfl⟩) (by assumption) ?_
                            (try simp only [Act.put, List.setIfInBounds_toArray, List.set_cons_zero, List.set_cons_succ, List.getElem_toArray, List.getElem_cons_zero, List.getElem_cons_succ])
                            refine wpAnyH_take (i := 14) (v := undef) rfl (by kernel_rfl) (by kernel_rfl) (by kernel_rfl) (fun _ _ _ h => h) (Or.inr ⟨by kernel_rfl, rfl⟩) (by assumption) ?_
                            (try simp only [Act.put, List.setIfInBounds_toArray, List.set_cons_zero, List.set_cons_succ, List.getElem_toArray, List.getElem_cons_zero, List.getElem_cons_succ])
                            refine wpAnyH_take (i := 15) (v := undef) rfl (by kernel_rfl) (by kernel_rfl) (by kernel_rfl) (fun _ _ _ h => h) (Or.inr ⟨by kernel_rfl, rfl⟩) (by assumption) ?_
                            (try simp only [Act.put, List.setIfInBounds_toArray, List.set_cons_zero, List.set_cons_succ, List.getElem_toArray, List.getElem_cons_zero, List.getElem_cons_succ])
                            refine wpAnyH_take (i := 16) (v := undef) rfl (by kernel_rfl) (by kernel_rfl) (by kernel_rfl) (fun _ _ _ h => h) (Or.inr ⟨by kernel_rfl, rfl⟩) (by assumption) ?_
                            (try simp only [Act.put, List.setIfInBounds_toArray, List.set_cons_zero, List.set_cons_succ, List.getElem_toArray, List.getElem_cons_zero, List.getElem_cons_succ])
                            refine wpAnyH_take (i := 17) (v := ?_) rfl (by kernel_rfl) (by kernel_rfl) (by kernel_rfl) (fun _ _ _ h => h) (Or.inl ⟨by kernel_rfl, ?_⟩) (by assumption) ?_
                            rotate_left
                            · (intro w hSw; (try dsimp only at hSw); go_simp; first | done | with_reducible rfl)
                            (try simp only [Act.put, List.setIfInBounds_toArray, List.set_cons_zero, List.set_cons_succ, List.getElem_toArray, List.getElem_cons_zero, List.getElem_cons_succ])
                            refine wpAnyH_take (i := 18) (v := ?_) rfl (by kernel_rfl) (by kernel_rfl) (by kernel_rfl) (fun _ _ _ h => h) (Or.inl ⟨by kernel_rfl, ?_⟩) (by assumption) ?_
                            rotate_left
                            · (intro w hSw; (try dsimp only at hSw); go_simp; first | done | with_reducible rfl)
                            (try simp only [Act.put, List.setIfInBounds_toArray, List.set_cons_zero, List.set_cons_succ, List.getElem_toArray, List.getElem_cons_zero, List.getElem_cons_succ])
                            refine wpAnyH_take (i := 19) (v := ?_) rfl (by kernel_rfl) (by kernel_rfl) (by kernel_rfl) (fun _ _ _ h => h) (Or.inl ⟨by kernel_rfl, ?_⟩) (by assumption) ?_
                            rotate_left
                            · (intro w hSw; (try dsimp only at hSw); go_simp; first | done | with_reducible rfl)
                            (try simp only [Act.put, List.setIfInBounds_toArray, List.set_cons_zero, List.set_cons_succ, List.getElem_toArray, List.getElem_cons_zero, List.getElem_cons_succ])
                            refine wpAnyH_take (i := 20) (v := ?_) rfl (by kernel_rfl) (by kernel_rfl) (by kernel_rfl) (fun _ _ _ h => h) (Or.inl ⟨by kernel_rfl, ?_⟩) (by assumption) ?_
                            rotate_left
                            · (intro w hSw; (try dsimp only at hSw); go_simp; first | done | with_reducible rfl)
                            (try simp only [Act.put, List.setIfInBounds_toArray, List.set_cons_zero, List.set_cons_succ, List.getElem_toArray, List.getElem_cons_zero, List.getElem_cons_succ])
                            refine wpAnyH_take (i := 21) (v := ?_) rfl (by kernel_rfl) (by kernel_rfl) (by kernel_rfl) (fun _ _ _ h => h) (Or.inl ⟨by kernel_rfl, ?_⟩) (by assumption) ?_
                            rotate_left
                            · (intro w hSw; (try dsimp only at hSw); go_simp; first | done | with_reducible rfl)
                            (try simp only [Act.put, List.setIfInBounds_toArray, List.set_cons_zero, List.set_cons_succ, List.getElem_toArray, List.getElem_cons_zero, List.getElem_cons_succ])
                            refine wpAnyH_take (i := 22) (v := ?_) rfl (by kernel_rfl) (by kernel_rfl) (by kernel_rfl) (fun _ _ _ h => h) (Or.inl ⟨by kernel_rfl, ?_⟩) (by assumption) ?_
                            rotate_left
                            · (intro w hSw; (try dsimp only at hSw); go_simp; first | done | with_reducible rfl)
                            (try simp only [Act.put, List.setIfInBounds_toArray, List.set_cons_zero, List.set_cons_succ, List.getElem_toArray, List.getElem_cons_zero, List.getElem_cons_succ])
                            refine wpAnyH_take (i := 23) (v := ?_) rfl (by kernel_rfl) (by kernel_rfl) (by kernel_rfl) (fun _ _ _ h => h) (Or.inl ⟨by kernel_rfl, ?_⟩) (by assumption) ?_
                            rotate_left
                            · (intro w hSw; (try dsimp only at hSw); go_simp; first | done | with_reducible rfl)
                            (try simp only [Act.put, List.setIfInBounds_toArray, List.set_cons_zero, List.set_cons_succ, List.getElem_toArray, List.getElem_cons_zero, List.getElem_cons_succ])
                            refine wpAnyH_take (i := 24) (v := ?_) rfl (by kernel_rfl) (by kernel_rfl) (by kernel_rfl) (fun _ _ _ h => h) (Or.inl ⟨by kernel_rfl, ?_⟩) (by assumption) ?_
                            rotate_left
                            · (intro w hSw; (try dsimp only at hSw); go_simp; first | done | with_reducible rfl)
                            (try simp only [Act.put, List.setIfInBounds_toArray, List.set_cons_zero, List.set_cons_succ, List.getElem_toArray, List.getElem_cons_zero, List.getElem_cons_succ])
                            refine wpAnyH_take (i := 25) (v := ?_) rfl (by kernel_rfl) (by kernel_rfl) (by kernel_rfl) (fun _ _ _ h => h) (Or.inl ⟨by kernel_rfl, ?_⟩) (by assumption) ?_
                            rotate_left
                            · (intro w hSw; (try dsimp only at hSw); go_simp; first | done | with_reducible rfl)
                            (try simp only [Act.put, List.setIfInBounds_toArray, List.set_cons_zero, List.set_cons_succ, List.getElem_toArray, List.getElem_cons_zero, List.getElem_cons_succ])
                            refine wpAnyH_take (i := 27) (v := ?_) rfl (by kernel_rfl) (by kernel_rfl) (by kernel_rfl) (fun _ _ _ h => h) (Or.inl ⟨by kernel_rfl, ?_⟩) (by assumption) ?_
                            rotate_left
                            · (intro w hSw; (try dsimp only at hSw); go_simp; first | done | with_reducible rfl)
                            (try simp only [Act.put, List.setIfInBounds_toArray, List.set_cons_zero, List.set_cons_succ, List.getElem_toArray, List.getElem_cons_zero, List.getElem_cons_succ])
                            refine wpAnyH_take (i := 28) (v := ?_) rfl (by kernel_rfl) (by kernel_rfl) (by kernel_rfl) (fun _ _ _ h => h) (Or.inl ⟨by kernel_rfl, ?_⟩) (by assumption) ?_
                            rotate_left
                            · (intro w hSw; (try dsimp only at hSw); go_simp; first | done | with_reducible rfl)
                            (try simp only [Act.put, List.setIfInBounds_toArray, List.set_cons_zero, List.set_cons_succ, List.getElem_toArray, List.getElem_cons_zero, List.getElem_cons_succ])
                            refine wpAnyH_take (i := 29) (v := ?_) rfl (by kernel_rfl) (by kernel_rfl) (by kernel_rfl) (fun _ _ _ h => h) (Or.inl ⟨by kernel_rfl, ?_⟩) (by assumption) ?_
                            rotate_left
                            · (intro w hSw; (try dsimp only at hSw); go_simp; first | done | with_reducible rfl)
                            (try simp only [Act.put, List.setIfInBounds_toArray, List.set_cons_zero, List.set_cons_succ, List.getElem_toArray, List.getElem_cons_zero, List.getElem_cons_succ])
                            refine wpAnyH_ready (rs := [26]) (by kernel_rfl) (by simp) ?_
                            refine AllReadyH.cons rfl (fun KK hKK => ?_) AllReadyH.nil
                            go_simp
                            refine (drop_any w1.heap.size tg g n K q pn _ n64 (HT0.out.s.below_ (Below.refl _ _).drew)).mono ?_
                            rw [HE.out]
                            change ∀ (e : Ending) (w4 : World), e = .returned (.int .i64 (cnt n p pn : Int)) ∧ Sl w4 w1.heap.size tg g n K (dropQ n q pn) ∧ _ → _
                            generalize dropQ n q pn = q3 at *
                            rintro e w4 ⟨rfl, h4, hz4, hF4⟩
                            have hF4' : Frame (Slots.Rest (wr.alloc (.cells #[.int .i64 2, .int .i64 pn, .slice pA pm pc] 40)) tg) (wr.alloc (.cells #[.int .i64 2, .int .i64 pn, .slice pA pm pc] 40)) w4 := undrew hF4
                            have hT4 := HT0.out.left h4 hF4' (fun k hk => .inl hk)
                            have hb4 := HB0.out.trans (HT0.out.s.rest hF4' hz1 (by rw [HZS.out]; omega))
                            have hz4 := hF4'.size
                            rw [HZS.out] at hz4
                            have hR4 := HR0.out.keep (hF4'.block _ HQ0.out.1)
                            have HT4 := Lib.hid hT4
                            have HB4 := Lib.hid hb4
                            have HR4 := Lib.hid hR4
                            clear h4 hF4 hF4' hT4 hb4 hR4
                            go_wp2_with fail
                            refine hKK.out _ _ ?_ (fun hHeld => ?_)
                            · (exact ⟨HR4.out.cell (i := 0) rfl, HR4.out.cell (i := 1) rfl, HR4.out.cell (i := 2) rfl⟩)
                            clear hKK KK
                            (try simp only [Act.put, List.setIfInBounds_toArray, List.set_cons_zero, List.set_cons_succ, List.getElem_toArray, List.getElem_cons_zero, List.getElem_cons_succ])
                            refine wpAnyH_ready (rs := [30]) (by kernel_rfl) (by simp) ?_
                            refine AllReadyH.cons rfl (fun KK hKK => ?_) AllReadyH.nil
                            go_simp
                            refine (drop_any w1.heap.size th h n K p pn _ n64 HT4.out.t).mono ?_
                            change ∀ (e : Ending) (w4 : World), e = .returned (.int .i64 (cnt n p pn : Int)) ∧ Sl w4 w1.heap.size th h n K (dropQ n p pn) ∧ _ → _
                            generalize dropQ n p pn = p3 at *
                            generalize cnt n p pn = cq at *
                            rintro e w5 ⟨rfl, h5, hz5, hF5⟩
                            have hT5 := HT4.out.right h5 hF5 (fun k hk => .inl hk)
                            have hb5 := HB4.out.trans (HT4.out.t.rest hF5 hz1 (by omega))
                            have hz5 := hF5.size
                            have hR5 := HR4.out.keep (hF5.block _ ⟨by omega, HQ0.out.2.2⟩)
                            have HT5 := Lib.hid hT5
                            have HB5 := Lib.hid hb5
                            have HR5 := Lib.hid hR5
                            clear h5 hF5 hT5 hb5 hR5
                            go_wp2_with fail
                            refine hKK.out _ _ ?_ (fun hHeld => ?_)
                            · (exact ⟨HR5.out.cell (i := 0) rfl, HR5.out.cell (i := 1) rfl, HR5.out.cell (i := 2) rfl⟩)
                            clear hKK KK
                            (try simp only [Act.put, List.setIfInBounds_toArray, List.set_cons_zero, List.set_cons_succ, List.getElem_toArray, List.getElem_cons_zero, List.getElem_cons_succ])
                            refine wpAnyH_take (i := 31) (v := ?_) rfl (by kernel_rfl) (by kernel_rfl) (by kernel_rfl) (fun _ _ _ h => h) (Or.inl ⟨by kernel_rfl, ?_⟩) (by assumption) ?_
                            rotate_left
                            · (intro w hSw; (try dsimp only at hSw); go_simp; first | done | with_reducible rfl)
                            (try simp only [Act.put, List.setIfInBounds_toArray, List.set_cons_zero, List.set_cons_succ, List.getElem_toArray, List.getElem_cons_zero, List.getElem_cons_succ])
                            refine wpAnyH_take (i := 32) (v := ?_) rfl (by kernel_rfl) (by kernel_rfl) (by kernel_rfl) (fun _ _ _ h => h) (Or.inl ⟨by kernel_rfl, ?_⟩) (by assumption) ?_
                            rotate_left
                            · (intro w hSw; (try dsimp only at hSw); go_simp; first | done | with_reducible rfl)
                            (try simp only [Act.put, List.setIfInBounds_toArray, List.set_cons_zero, List.set_cons_succ, List.getElem_toArray, List.getElem_cons_zero, List.getElem_cons_succ])
                            refine wpAnyH_take (i := 33) (v := ?_) rfl (by kernel_rfl) (by kernel_rfl) (by kernel_rfl) (fun _ _ _ h => h) (Or.inl ⟨by kernel_rfl, ?_⟩) (by assumption) ?_
                            rotate_left
                            · (intro w hSw; (try dsimp only at hSw); go_simp; first | done | with_reducible rfl)
                            (try simp only [Act.put, List.setIfInBounds_toArray, List.set_cons_zero, List.set_cons_succ, List.getElem_toArray, List.getElem_cons_zero, List.getElem_cons_succ])
                            refine wpAnyH_done (by kernel_rfl) ?_ _
                            go_wp2_with fail
                            go_roundw
                            case rel => exact ⟨k + 1, K, tg, th, q3, p3, by omega, by omega, by omega, by go_num, HT5.out, HQN.out, by omega, HB5.out⟩
                            case measure => simp [intOf] <;> omega
                        · as_aux_lemma =>
                            have hb0 : (pd == 0) = false := by simpa using hd0
                            have hb2 : (pd == 2) = false := by simpa using hd2
                            go_wp2_with fail
                            refine wp_region_held_drew (S := fun w' => w'.cell? ⟨wr.heap.size, 0, none⟩ = some (.int .i64 pd) ∧ w'.cell? ⟨wr.heap.size, 1, none⟩ = some (.int .i64 pn) ∧ w'.cell? ⟨wr.heap.size, 2, none⟩ = some (.slice pA pm pc)) (by kernel_rfl) (⟨HR0.out.cell (i := 0) rfl, HR0.out.cell (i := 1) rfl, HR0.out.cell (i := 2) rfl⟩) (fun hHeld => ?_)
                            refine wpAnyH_take (i := 0) (v := ?_) rfl (by kernel_rfl) (by kernel_rfl) (by kernel_rfl) (fun _ _ _ h => h) (Or.inl ⟨by kernel_rfl, ?_⟩) (by assumption) ?_
                            rotate_left
                            · (intro w hSw; (try dsimp only at hSw); go_simp; first | done | with_reducible rfl)
                            (try simp only [Act.put, List.setIfInBounds_toArray, List.set_cons_zero, List.set_cons_succ, List.getElem_toArray, List.getElem_cons_zero, List.getElem_cons_succ])
                            refine wpAnyH_take (i := 1) (v := ?_) rfl (by kernel_rfl) (by kernel_rfl) (by kernel_rfl) (fun _ _ _ h => h) (Or.inl ⟨by kernel_rfl, ?_⟩) (by assumption) ?_
                            rotate_left
                            · (intro w hSw; (try dsimp only at hSw); go_simp; first | done | with_reducible rfl)
                            (try simp only [Act.put, List.setIfInBounds_toArray, List.set_cons_zero, List.set_cons_succ, List.getElem_toArray, List.getElem_cons_zero, List.getElem_cons_succ])
                            refine wpAnyH_take (i := 2) (v := ?_) rfl (by kernel_rfl) (by kernel_rfl) (by kernel_rfl) (fun _ _ _ h => h) (Or.inl ⟨by kernel_rfl, ?_⟩) (by assumption) ?_
                            rotate_left
                            · (intro w hSw; (try dsimp only at hSw); go_simp; first | done | with_reducible rfl)
                            (try simp only [Act.put, List.setIfInBounds_toArray, List.set_cons_zero, List.set_cons_succ, List.getElem_toArray, List.getElem_cons_zero, List.getElem_cons_succ])
                            refine wpAnyH_take (i := 3) (v := ?_) rfl (by kernel_rfl) (by kernel_rfl) (by kernel_rfl) (fun _ _ _ h => h) (Or.inl ⟨by kernel_rfl, ?_⟩) (by assumption) ?_
                            rotate_left
                            · (intro w hSw; (try dsimp only at hSw); go_simp; first | done | with_reducible rfl)
                            (try simp only [Act.put, List.setIfInBounds_toArray, List.set_cons_zero, List.set_cons_succ, List.getElem_toArray, List.getElem_cons_zero, List.getElem_cons_succ])
                            refine wpAnyH_take (i := 4) (v := undef) rfl (by kernel_rfl) (by kernel_rfl) (by kernel_rfl) (fun _ _ _ h => h) (Or.inr ⟨by kernel_rfl, rfl⟩) (by assumption) ?_
                            (try simp only [Act.put, List.setIfInBounds_toArray, List.set_cons_zero, List.set_cons_succ, List.getElem_toArray, List.getElem_cons_zero, List.getElem_cons_succ])
                            refine wpAnyH_take (i := 5) (v := undef) rfl (by kernel_rfl) (by kernel_rfl) (by kernel_rfl) (fun _ _ _ h => h) (Or.inr ⟨by kernel_rfl, rfl⟩) (by assumption) ?_
                            (try simp only [Act.put, List.setIfInBounds_toArray, List.set_cons_zero, List.set_cons_succ, List.getElem_toArray, List.getElem_cons_zero, List.getElem_cons_succ])
                            refine wpAnyH_take (i := 6) (v := undef) rfl (by kernel_rfl) (by kernel_rfl) (by kernel_rfl) (fun _ _ _ h => h) (Or.inr ⟨by kernel_rfl, rfl⟩) (by assumption) ?_
                            (try simp only [Act.put, List.setIfInBounds_toArray, List.set_cons_zero, List.set_cons_succ, List.getElem_toArray, List.getElem_cons_zero, List.getElem_cons_succ])
                            refine wpAnyH_take (i := 7) (v := undef) rfl (by kernel_rfl) (by kernel_rfl) (by kernel_rfl) (fun _ _ _ h => h) (Or.inr ⟨by kernel_rfl, rfl⟩) (by assumption) ?_
                            (try simp only [Act.put, List.setIfInBounds_toArray, List.set_cons_zero, List.set_cons_succ, List.getElem_toArray, List.getElem_cons_zero, List.getElem_cons_succ])
                            refine wpAnyH_take (i := 8) (v := undef) rfl (by kernel_rfl) (by kernel_rfl) (by kernel_rfl) (fun _ _ _ h => h) (Or.inr ⟨by kernel_rfl, rfl⟩) (by assumption) ?_
                            (try simp only [Act.put, List.setIfInBounds_toArray, List.set_cons_zero, List.set_cons_succ, List.getElem_toArray, List.getElem_cons_zero, List.getElem_cons_succ])
                            refine wpAnyH_take (i := 9) (v := undef) rfl (by kernel_rfl) (by kernel_rfl) (by kernel_rfl) (fun _ _ _ h => h) (Or.inr ⟨by kernel_rfl, rfl⟩) (by assumption) ?_
                            (try simp only [Act.put, List.setIfInBounds_toArray, List.set_cons_zero, List.set_cons_succ, List.getElem_toArray, List.getElem_cons_zero, List.getElem_cons_succ])
                            refine wpAnyH_take (i := 10) (v := undef) rfl (by kernel_rfl) (by kernel_rfl) (by kernel_rfl) (fun _ _ _ h => h) (Or.inr ⟨by kernel_rfl, rfl⟩) (by assumption) ?_
                            (try simp only [Act.put, List.setIfInBounds_toArray, List.set_cons_zero, List.set_cons_succ, List.getElem_toArray, List.getElem_cons_zero, List.getElem_cons_succ])
                            refine wpAnyH_take (i := 11) (v := undef) rfl (by kernel_rfl) (by kernel_rfl) (by kernel_rfl) (fun _ _ _ h => h) (Or.inr ⟨by kernel_rfl, rfl⟩) (by assumption) ?_
                            (try simp only [Act.put, List.setIfInBounds_toArray, List.set_cons_zero, List.set_cons_succ, List.getElem_toArray, List.getElem_cons_zero, List.getElem_cons_succ])
                            refine wpAnyH_take (i := 12) (v := undef) rfl (by kernel_rfl) (by kernel_rfl) (by kernel_rfl) (fun _ _ _ h => h) (Or.inr ⟨by kernel_rfl, rfl⟩) (by assumption) ?_
                            (try simp only [Act.put, List.setIfInBounds_toArray, List.set_cons_zero, List.set_cons_succ, List.getElem_toArray, List.getElem_cons_zero, List.getElem_cons_succ])
                            refine wpAnyH_take (i := 13) (v := undef) rfl (by kernel_rfl) (by kernel_rfl) (by kernel_rfl) (fun _ _ _ h => h) (Or.inr ⟨by kernel_rfl, rfl⟩) (by assumption) ?_
                            (try simp only [Act.put, List.setIfInBounds_toArray, List.set_cons_zero, List.set_cons_succ, List.getElem_toArray, List.getElem_cons_zero, List.getElem_cons_succ])
                            refine wpAnyH_take (i := 14) (v := undef) rfl (by kernel_rfl) (by kernel_rfl) (by kernel_rfl) (fun _ _ _ h => h) (Or.inr ⟨by kernel_rfl, rfl⟩) (by assumption) ?_
                            (try simp only [Act.put, List.setIfInBounds_toArray, List.set_cons_zero, List.set_cons_succ, List.getElem_toArray, List.getElem_cons_zero, List.getElem_cons_succ])
                            refine wpAnyH_take (i := 15) (v := undef) rfl (by kernel_rfl) (by kernel_rfl) (by kernel_rfl) (fun _ _ _ h => h) (Or.inr ⟨by kernel_rfl, rfl⟩) (by assumption) ?_
                            (try simp only [Act.put, List.setIfInBounds_toArray, List.set_cons_zero, List.set_cons_succ, List.getElem_toArray, List.getElem_cons_zero, List.getElem_cons_succ])
                            refine wpAnyH_take (i := 16) (v := undef) rfl (by kernel_rfl) (by kernel_rfl) (by kernel_rfl) (fun _ _ _ h => h) (Or.inr ⟨by kernel_rfl, rfl⟩) (by assumption) ?_
                            (try simp only [Act.put, List.setIfInBounds_toArray, List.set_cons_zero, List.set_cons_succ, List.getElem_toArray, List.getElem_cons_zero, List.getElem_cons_succ])
                            refine wpAnyH_take (i := 17) (v := ?_) rfl (by kernel_rfl) (by kernel_rfl) (by kernel_rfl) (fun _ _ _ h => h) (Or.inl ⟨by kernel_rfl, ?_⟩) (by assumption) ?_
                            rotate_left
                            · (intro w hSw; (try dsimp only at hSw); go_simp; first | done | with_reducible rfl)
                            (try simp only [Act.put, List.setIfInBounds_toArray, List.set_cons_zero, List.set_cons_succ, List.getElem_toArray, List.getElem_cons_zero, List.getElem_cons_succ])
                            refine wpAnyH_take (i := 18) (v := ?_) rfl (by kernel_rfl) (by kernel_rfl) (by kernel_rfl) (fun _ _ _ h => h) (Or.inl ⟨by kernel_rfl, ?_⟩) (by assumption) ?_
                            rotate_left
                            · (intro w hSw; (try dsimp only at hSw); go_simp; first | done | with_reducible rfl)
                            (try simp only [Act.put, List.setIfInBounds_toArray, List.set_cons_zero, List.set_cons_succ, List.getElem_toArray, List.getElem_cons_zero, List.getElem_cons_succ])
                            refine wpAnyH_take (i := 19) (v := ?_) rfl (by kernel_rfl) (by kernel_rfl) (by kernel_rfl) (fun _ _ _ h => h) (Or.inl ⟨by kernel_rfl, ?_⟩) (by assumption) ?_
                            rotate_left
                            · (intro w hSw; (try dsimp only at hSw); go_simp; first | done | with_reducible rfl)
                            (try simp only [Act.put, List.setIfInBounds_toArray, List.set_cons_zero, List.set_cons_succ, List.getElem_toArray, List.getElem_cons_zero, List.getElem_cons_succ])
                            refine wpAnyH_take (i := 20) (v := ?_) rfl (by kernel_rfl) (by kernel_rfl) (by kernel_rfl) (fun _ _ _ h => h) (Or.inl ⟨by kernel_rfl, ?_⟩) (by assumption) ?_
                            rotate_left
                            · (intro w hSw; (try dsimp only at hSw); go_simp; first | done | with_reducible rfl)
                            (try simp only [Act.put, List.setIfInBounds_toArray, List.set_cons_zero, List.set_cons_succ, List.getElem_toArray, List.getElem_cons_zero, List.getElem_cons_succ])
                            refine wpAnyH_take (i := 21) (v := ?_) rfl (by kernel_rfl) (by kernel_rfl) (by kernel_rfl) (fun _ _ _ h => h) (Or.inl ⟨by kernel_rfl, ?_⟩) (by assumption) ?_
                            rotate_left
                            · (intro w hSw; (try dsimp only at hSw); go_simp; first | done | with_reducible rfl)
                            (try simp only [Act.put, List.setIfInBounds_toArray, List.set_cons_zero, List.set_cons_succ, List.getElem_toArray, List.getElem_cons_zero, List.getElem_cons_succ])
                            refine wpAnyH_take (i := 22) (v := ?_) rfl (by kernel_rfl) (by kernel_rfl) (by kernel_rfl) (fun _ _ _ h => h) (Or.inl ⟨by kernel_rfl, ?_⟩) (by assumption) ?_
                            rotate_left
                            · (intro w hSw; (try dsimp only at hSw); go_simp; first | done | with_reducible rfl)
                            (try simp only [Act.put, List.setIfInBounds_toArray, List.set_cons_zero, List.set_cons_succ, List.getElem_toArray, List.getElem_cons_zero, List.getElem_cons_succ])
                            refine wpAnyH_take (i := 23) (v := undef) rfl (by kernel_rfl) (by kernel_rfl) (by kernel_rfl) (fun _ _ _ h => h) (Or.inr ⟨by kernel_rfl, rfl⟩) (by assumption) ?_
                            (try simp only [Act.put, List.setIfInBounds_toArray, List.set_cons_zero, List.set_cons_succ, List.getElem_toArray, List.getElem_cons_zero, List.getElem_cons_succ])
                            refine wpAnyH_take (i := 24) (v := undef) rfl (by kernel_rfl) (by kernel_rfl) (by kernel_rfl) (fun _ _ _ h => h) (Or.inr ⟨by kernel_rfl, rfl⟩) (by assumption) ?_
                            (try simp only [Act.put, List.setIfInBounds_toArray, List.set_cons_zero, List.set_cons_succ, List.getElem_toArray, List.getElem_cons_zero, List.getElem_cons_succ])
                            refine wpAnyH_take (i := 25) (v := undef) rfl (by kernel_rfl) (by kernel_rfl) (by kernel_rfl) (fun _ _ _ h => h) (Or.inr ⟨by kernel_rfl, rfl⟩) (by assumption) ?_
                            (try simp only [Act.put, List.setIfInBounds_toArray, List.set_cons_zero, List.set_cons_succ, List.getElem_toArray, List.getElem_cons_zero, List.getElem_cons_succ])
                            refine wpAnyH_take (i := 26) (v := undef) rfl (by kernel_rfl) (by kernel_rfl) (by kernel_rfl) (fun _ _ _ h => h) (Or.inr ⟨by kernel_rfl, rfl⟩) (by assumption) ?_
                            (try simp only [Act.put, List.setIfInBounds_toArray, List.set_cons_zero, List.set_cons_succ, List.getElem_toArray, List.getElem_cons_zero, List.getElem_cons_succ])
                            refine wpAnyH_take (i := 27) (v := undef) rfl (by kernel_rfl) (by kernel_rfl) (by kernel_rfl) (fun _ _ _ h => h) (Or.inr ⟨by kernel_rfl, rfl⟩) (by assumption) ?_
                            (try simp only [Act.put, List.setIfInBounds_toArray, List.set_cons_zero, List.set_cons_succ, List.getElem_toArray, List.getElem_cons_zero, List.getElem_cons_succ])
                            refine wpAnyH_take (i := 28) (v := undef) rfl (by kernel_rfl) (by kernel_rfl) (by kernel_rfl) (fun _ _ _ h => h) (Or.inr ⟨by kernel_rfl, rfl⟩) (by assumption) ?_
                            (try simp only [Act.put, List.setIfInBounds_toArray, List.set_cons_zero, List.set_cons_succ, List.getElem_toArray, List.getElem_cons_zero, List.getElem_cons_succ])
                            refine wpAnyH_take (i := 29) (v := undef) rfl (by kernel_rfl) (by kernel_rfl) (by kernel_rfl) (fun _ _ _ h => h) (Or.inr ⟨by kernel_rfl, rfl⟩) (by assumption) ?_
                            (try simp only [Act.put, List.setIfInBounds_toArray, List.set_cons_zero, List.set_cons_succ, List.getElem_toArray, List.getElem_cons_zero, List.getElem_cons_succ])
                            refine wpAnyH_take (i := 30) (v := undef) rfl (by kernel_rfl) (by kernel_rfl) (by kernel_rfl) (fun _ _ _ h => h) (Or.inr ⟨by kernel_rfl, rfl⟩) (by assumption) ?_
                            (try simp only [Act.put, List.setIfInBounds_toArray, List.set_cons_zero, List.set_cons_succ, List.getElem_toArray, List.getElem_cons_zero, List.getElem_cons_succ])
                            refine wpAnyH_take (i := 31) (v := undef) rfl (by kernel_rfl) (by kernel_rfl) (by kernel_rfl) (fun _ _ _ h => h) (Or.inr ⟨by kernel_rfl, rfl⟩) (by assumption) ?_
                            (try simp only [Act.put, List.setIfInBounds_toArray, List.set_cons_zero, List.set_cons_succ, List.getElem_toArray, List.getElem_cons_zero, List.getElem_cons_succ])
                            refine wpAnyH_take (i := 32) (v := ?_) rfl (by kernel_rfl) (by kernel_rfl) (by kernel_rfl) (fun _ _ _ h => h) (Or.inl ⟨by kernel_rfl, ?_⟩) (by assumption) ?_
                            rotate_left
                            · (intro w hSw; (try dsimp only at hSw); go_simp; first | done | with_reducible rfl)
                            (try simp only [Act.put, List.setIfInBounds_toArray, List.set_cons_zero, List.set_cons_succ, List.getElem_toArray, List.getElem_cons_zero, List.getElem_cons_succ])
                            refine wpAnyH_take (i := 33) (v := ?_) rfl (by kernel_rfl) (by kernel_rfl) (by kernel_rfl) (fun _ _ _ h => h) (Or.inl ⟨by kernel_rfl, ?_⟩) (by assumption) ?_
                            rotate_left
                            · (intro w hSw; (try dsimp only at hSw); go_simp; first | done | with_reducible rfl)
                            (try simp only [Act.put, List.setIfInBounds_toArray, List.set_cons_zero, List.set_cons_succ, List.getElem_toArray, List.getElem_cons_zero, List.getElem_cons_succ])
                            refine wpAnyH_done (by kernel_rfl) ?_ _
                            go_wp2_with fail
                            go_roundw
                            case rel => exact ⟨k + 1, K, tg, th, q, p, by omega, by omega, by omega, by go_num, HT0.out.below_ (Below.refl _ _).drew, HQP.out, (show w1.heap.size ≤ (wr.alloc (.cells #[.int .i64 pd, .int .i64 pn, .slice pA pm pc] 40)).heap.size from by rw [HZS.out]; omega), HB0.out.trans (Below.refl _ _).drew⟩
                            case measure => simp [intOf] <;> omega
                · as_aux_lemma =>
                    by_cases hd0 : pd = 0
                    · as_aux_lemma =>
                        subst hd0
                        have hqo := put_other (n := n) (q := q) (l := pl) hpa
                        go_wp2_with fail
                        refine (put_any w1.heap.size tg g n K q pn pA pm pc pl _ w.heap.size HB0.out.size n64 HT0.out.s (by rw [HZS.out]; omega) HP5.out (HP8.out.below HB0.out)).mono ?_
                        generalize putE n q pn pl = E at *
                        generalize putQ n q pn pl = q3 at *
                        rintro e w4 ⟨tg3, rfl, h4, hF4, ht4⟩
                        have hT4 := HT0.out.left h4 hF4 ht4
                        have hb4 := HB0.out.trans (HT0.out.s.rest hF4 hz1 (by rw [HZS.out]; omega))
                        have hz4 := hF4.size
                        rw [HZS.out] at hz4
                        have c40 := (HR0.out.keep (hF4.block _ HQ0.out.1)).cell (i := 0) rfl
                        have HT4 := Lib.hid hT4
                        have HB4 := Lib.hid hb4
                        have HQ4 := Lib.hid (hqo.trans HQP.out)
                        clear h4 hF4 ht4 hT4 hb4 hqo
                        by_cases ho : k < len3
                        · as_aux_lemma =>
                            obtain ⟨ad3, hA3, hSb3, hc3⟩ := HRR3.out (by rw [HL3.out]; omega)
                            subst hA3
                            have hkl3 : k < as3.length := by rw [HL3.out]; exact ho
                            obtain ⟨x0, x1, x2⟩ := hc3 k hkl3
                            have hpk := HOK3.out as3[k] (List.getElem_mem hkl3)
                            generalize as3[k] = bp at *
                            obtain ⟨jd, jn, jA, jm, jc, jl⟩ := bp
                            obtain ⟨o1, o2, o3, o4, o5, o6, o7, o8⟩ := hpk
                            simp only at o1 o2 o3 o4 o5 o6 o7 o8 x0 x1 x2
                            have z0 := (HB4.out.cell (p := ad3.add (k * 3)) (by rw [add_block]; exact hSb3)).trans x0
                            have z1 := (HB4.out.cell (p := ad3.add (k * 3 + 1)) (by rw [add_block]; exact hSb3)).trans x1
                            have z2 := (HB4.out.cell (p := ad3.add (k * 3 + 2)) (by rw [add_block]; exact hSb3)).trans x2
                            rw [add_plus _ _ _ (by omega)] at z1 z2
                            have HO5 := Lib.hid o5
                            have HO8 := Lib.hid o8
                            have X1 := Lib.hid x1
                            have X2 := Lib.hid x2
                            clear o5 o8 x0 x1 x2 hc3
                            by_cases hon : jn = a1
                            · go_wp2_with fail
                              go_roundw
                              case rel => exact ⟨k + 1, K, tg3, th, q3, p, by omega, by omega, by omega, by go_num, HT4.out, HQ4.out, by omega, HB4.out⟩
                              case measure => simp [intOf] <;> omega
                            · as_aux_lemma =>
                                have honb : (jn == a1) = false := by simpa using hon
                                by_cases hod : jd = 0
                                · as_aux_lemma =>
                                    subst hod
                                    go_wp2_with fail
                                    refine wp_region_held_drew (S := fun w' => w'.cell? { block := (ad3.add (k * 3)).block, off := (ad3.add (k * 3)).off + 1 } = some (.int .i64 jn) ∧ w'.cell? { block := (ad3.add (k * 3)).block, off := (ad3.add (k * 3)).off + 2 } = some (.slice jA jm jc)) (by kernel_rfl) (⟨z1, z2⟩) (fun hHeld => ?_)
                                    refine wpAnyH_take (i := 0) (v := ?_) rfl (by kernel_rfl) (by kernel_rfl) (by kernel_rfl) (fun _ _ _ h => h) (Or.inl ⟨by kernel_rfl, ?_⟩) (by assumption) ?_
                                    rotate_left
                                    · (intro w hSw; (try dsimp only at hSw); go_simp; first | done | with_reducible rfl)
                                    (try simp only [Act.put, List.setIfInBounds_toArray, List.set_cons_zero, List.set_cons_succ, List.getElem_toArray, List.getElem_cons_zero, List.getElem_cons_succ])
                                    refine wpAnyH_take (i := 1) (v := ?_) rfl (by kernel_rfl) (by kernel_rfl) (by kernel_rfl) (fun _ _ _ h => h) (Or.inl ⟨by kernel_rfl, ?_⟩) (by assumption) ?_
                                    rotate_left
                                    · (intro w hSw; (try dsimp only at hSw); go_simp; first | done | with_reducible rfl)
                                    (try simp only [Act.put, List.setIfInBounds_toArray, List.set_cons_zero, List.set_cons_succ, List.getElem_toArray, List.getElem_cons_zero, List.getElem_cons_succ])
                                    refine wpAnyH_take (i := 2) (v := ?_) rfl (by kernel_rfl) (by kernel_rfl) (by kernel_rfl) (fun _ _ _ h => h) (Or.inl ⟨by kernel_rfl, ?_⟩) (by assumption) ?_
                                    rotate_left
                                    · (intro w hSw; (try dsimp only at hSw); go_simp; first | done | with_reducible rfl)
                                    (try simp only [Act.put, List.setIfInBounds_toArray, List.set_cons_zero, List.set_cons_succ, List.getElem_toArray, List.getElem_cons_zero, List.getElem_cons_succ])
                                    refine wpAnyH_take (i := 3) (v := ?_) rfl (by kernel_rfl) (by kernel_rfl) (by kernel_rfl) (fun _ _ _ h => h) (Or.inl ⟨by kernel_rfl, ?_⟩) (by assumption) ?_
                                    rotate_left
                                    · (intro w hSw; (try dsimp only at hSw); go_simp; first | done | with_reducible rfl)
                                    (try simp only [Act.put, List.setIfInBounds_toArray, List.set_cons_zero, List.set_cons_succ, List.getElem_toArray, List.getElem_cons_zero, List.getElem_cons_succ])
                                    refine wpAnyH_take (i := 4) (v := ?_) rfl (by kernel_rfl) (by kernel_rfl) (by kernel_rfl) (fun _ _ _ h => h) (Or.inl ⟨by kernel_rfl, ?_⟩) (by assumption) ?_
                                    rotate_left
                                    · (intro w hSw; (try dsimp only at hSw); go_simp; first | done | with_reducible rfl)
                                    (try simp only [Act.put, List.setIfInBounds_toArray, List.set_cons_zero, List.set_cons_succ, List.getElem_toArray, List.getElem_cons_zero, List.getElem_cons_succ])
                                    refine wpAnyH_take (i := 5) (v := ?_) rfl (by kernel_rfl) (by kernel_rfl) (by kernel_rfl) (fun _ _ _ h => h) (Or.inl ⟨by kernel_rfl, ?_⟩) (by assumption) ?_
                                    rotate_left
                                    · (intro w hSw; (try dsimp only at hSw); go_simp; first | done | with_reducible rfl)
                                    (try simp only [Act.put, List.setIfInBounds_toArray, List.set_cons_zero, List.set_cons_succ, List.getElem_toArray, List.getElem_cons_zero, List.getElem_cons_succ])
                                    refine wpAnyH_take (i := 6) (v := ?_) rfl (by kernel_rfl) (by kernel_rfl) (by kernel_rfl) (fun _ _ _ h => h) (Or.inl ⟨by kernel_rfl, ?_⟩) (by assumption) ?_
                                    rotate_left
                                    · (intro w hSw; (try dsimp only at hSw); go_simp; first | done | with_reducible rfl)
                                    (try simp only [Act.put, List.setIfInBounds_toArray, List.set_cons_zero, List.set_cons_succ, List.getElem_toArray, List.getElem_cons_zero, List.getElem_cons_succ])
                                    refine wpAnyH_take (i := 7) (v := ?_) rfl (by kernel_rfl) (by kernel_rfl) (by kernel_rfl) (fun _ _ _ h => h) (Or.inl ⟨by kernel_rfl, ?_⟩) (by assumption) ?_
                                    rotate_left
                                    · (intro w hSw; (try dsimp only at hSw); go_simp; first | done | with_reducible rfl)
                                    (try simp only [Act.put, List.setIfInBounds_toArray, List.set_cons_zero, List.set_cons_succ, List.getElem_toArray, List.getElem_cons_zero, List.getElem_cons_succ])
                                    refine wpAnyH_take (i := 8) (v := ?_) rfl (by kernel_rfl) (by kernel_rfl) (by kernel_rfl) (fun _ _ _ h => h) (Or.inl ⟨by kernel_rfl, ?_⟩) (by assumption) ?_
                                    rotate_left
                                    · (intro w hSw; (try dsimp only at hSw); go_simp; first | done | with_reducible rfl)
                                    (try simp only [Act.put, List.setIfInBounds_toArray, List.set_cons_zero, List.set_cons_succ, List.getElem_toArray, List.getElem_cons_zero, List.getElem_cons_succ])
                                    refine wpAnyH_take (i := 9) (v := ?_) rfl (by kernel_rfl) (by kernel_rfl) (by kernel_rfl) (fun _ _ _ h => h) (Or.inl ⟨by kernel_rfl, ?_⟩) (by assumption) ?_
                                    rotate_left
                                    · (intro w hSw; (try dsimp only at hSw); go_simp; first | done | with_reducible rfl)
                                    (try simp only [Act.put, List.setIfInBounds_toArray, List.set_cons_zero, List.set_cons_succ, List.getElem_toArray, List.getElem_cons_zero, List.getElem_cons_succ])
                                    refine wpAnyH_take (i := 10) (v := ?_) rfl (by kernel_rfl) (by kernel_rfl) (by kernel_rfl) (fun _ _ _ h => h) (Or.inl ⟨by kernel_rfl, ?_⟩) (by assumption) ?_
                                    rotate_left
                                    · (intro w hSw; (try dsimp only at hSw); go_simp; first | done | with_reducible rfl)
                                    (try simp only [Act.put, List.setIfInBounds_toArray, List.set_cons_zero, List.set_cons_succ, List.getElem_toArray, List.getElem_cons_zero, List.getElem_cons_succ])
                                    refine wpAnyH_ready (rs := [11]) (by kernel_rfl) (by simp) ?_
                                    refine AllReadyH.cons rfl (fun KK hKK => ?_) AllReadyH.nil
                                    go_simp
                                    refine (put_any w1.heap.size th h n K p jn jA jm jc jl (w4).drew w.heap.size HB4.out.size n64 (HT4.out.t.below_ (Below.refl _ _).drew) (show w1.heap.size ≤ w4.heap.size from by omega) HO5.out (HO8.out.below (HB4.out.trans (Below.refl _ _).drew))).mono ?_
                                    have hqo5 := put_other (n := n) (q := p) (l := jl) hon
                                    generalize putE n p jn jl = E5 at *
                                    generalize putQ n p jn jl = p3 at *
                                    rintro e w5 ⟨th3, rfl, h5, hF5, ht5⟩
                                    have hF5' : Frame (Slots.Rest w4 th) w4 w5 := undrew hF5
                                    have hT5 := HT4.out.right h5 hF5' ht5
                                    have hb5 := HB4.out.trans (HT4.out.t.rest hF5' hz1 (by omega))
                                    have hz5 := hF5'.size
                                    have HT5 := Lib.hid hT5
                                    have HB5 := Lib.hid hb5
                                    have HQ5 := Lib.hid (HQ4.out.trans hqo5.symm)
                                    have v1 := (hb5.cell (p := ad3.add (k * 3 + 1)) (by rw [add_block]; exact hSb3)).trans X1.out
                                    have v2 := (hb5.cell (p := ad3.add (k * 3 + 2)) (by rw [add_block]; exact hSb3)).trans X2.out
                                    rw [add_plus _ _ _ (by omega)] at v1 v2
                                    clear h5 hF5 hF5' ht5 hT5 hb5 hqo5
                                    go_wp2_with fail
                                    refine hKK.out _ _ ?_ (fun hHeld => ?_)
                                    · (exact ⟨v1, v2⟩)
                                    clear hKK KK
                                    (try simp only [Act.put, List.setIfInBounds_toArray, List.set_cons_zero, List.set_cons_succ, List.getElem_toArray, List.getElem_cons_zero, List.getElem_cons_succ])
                                    refine wpAnyH_done (by kernel_rfl) ?_ _
                                    go_wp2_with fail
                                    go_roundw
                                    case rel => exact ⟨k + 1, K, tg3, th3, q3, p3, by omega, by omega, by omega, by go_num, HT5.out, HQ5.out, by omega, HB5.out⟩
                                    case measure => simp [intOf] <;> omega
                                · have hodb : (jd == 0) = false := by simpa using hod
                                  go_wp2_with fail
                                  go_roundw
                                  case rel => exact ⟨k + 1, K, tg3, th, q3, p, by omega, by omega, by omega, by go_num, HT4.out, HQ4.out, by omega, HB4.out⟩
                                  case measure => simp [intOf] <;> omega
                        · go_wp2_with fail
                          go_roundw
                          case rel => exact ⟨k + 1, K, tg3, th, q3, p, by omega, by omega, by omega, by go_num, HT4.out, HQ4.out, by omega, HB4.out⟩
                          case measure => simp [intOf] <;> omega
                    · as_aux_lemma =>
                        by_cases hd2 : pd = 2
                        · as_aux_lemma =>
                            subst hd2
                            have hqo := drop_other (n := n) (q := q) hpa
                            go_wp2_with fail
                            refine (drop_any w1.heap.size tg g n K q pn _ n64 HT0.out.s).mono ?_
                            change ∀ (e : Ending) (w4 : World), e = .returned (.int .i64 (cnt n q pn : Int)) ∧ Sl w4 w1.heap.size tg g n K (dropQ n q pn) ∧ _ → _
                            generalize dropQ n q pn = q3 at *
                            rintro e w4 ⟨rfl, h4, hz4, hF4⟩
                            have hT4 := HT0.out.left h4 hF4 (fun k hk => .inl hk)
                            have hb4 := HB0.out.trans (HT0.out.s.rest hF4 hz1 (by rw [HZS.out]; omega))
                            rw [HZS.out] at hz4
                            have HT4 := Lib.hid hT4
                            have HB4 := Lib.hid hb4
                            have HQ4 := Lib.hid (hqo.trans HQP.out)
                            clear h4 hF4 hT4 hb4 hqo
                            by_cases ho : k < len3
                            · as_aux_lemma =>
                                obtain ⟨ad3, hA3, hSb3, hc3⟩ := HRR3.out (by rw [HL3.out]; omega)
                                subst hA3
                                have hkl3 : k < as3.length := by rw [HL3.out]; exact ho
                                obtain ⟨x0, x1, x2⟩ := hc3 k hkl3
                                have hpk := HOK3.out as3[k] (List.getElem_mem hkl3)
                                generalize as3[k] = bp at *
                                obtain ⟨jd, jn, jA, jm, jc, jl⟩ := bp
                                obtain ⟨o1, o2, o3, o4, o5, o6, o7, o8⟩ := hpk
                                simp only at o1 o2 o3 o4 o5 o6 o7 o8 x0 x1 x2
                                have z0 := (HB4.out.cell (p := ad3.add (k * 3)) (by rw [add_block]; exact hSb3)).trans x0
                                have z1 := (HB4.out.cell (p := ad3.add (k * 3 + 1)) (by rw [add_block]; exact hSb3)).trans x1
                                have z2 := (HB4.out.cell (p := ad3.add (k * 3 + 2)) (by rw [add_block]; exact hSb3)).trans x2
                                rw [add_plus _ _ _ (by omega)] at z1 z2
                                have HO5 := Lib.hid o5
                                have HO8 := Lib.hid o8
                                have X1 := Lib.hid x1
                                have X2 := Lib.hid x2
                                clear o5 o8 x0 x1 x2 hc3
                                by_cases hon : jn = a1
                                · go_wp2_with fail
                                  go_roundw
                                  case rel => exact ⟨k + 1, K, tg, th, q3, p, by omega, by omega, by omega, by go_num, HT4.out, HQ4.out, by omega, HB4.out⟩
                                  case measure => simp [intOf] <;> omega
                                · as_aux_lemma =>
                                    have honb : (jn == a1) = false := by simpa using hon
                                    by_cases hod : jd = 0
                                    · as_aux_lemma =>
                                        subst hod
                                        go_wp2_with fail
                                        refine wp_region_held_drew (S := fun w' => w'.cell? { block := (ad3.add (k * 3)).block, off := (ad3.add (k * 3)).off + 1 } = some (.int .i64 jn) ∧ w'.cell? { block := (ad3.add (k * 3)).block, off := (ad3.add (k * 3)).off + 2 } = some (.slice jA jm jc)) (by kernel_rfl) (⟨z1, z2⟩) (fun hHeld => ?_)
                                        refine wpAnyH_take (i := 0) (v := ?_) rfl (by kernel_rfl) (by kernel_rfl) (by kernel_rfl) (fun _ _ _ h => h) (Or.inl ⟨by kernel_rfl, ?_⟩) (by assumption) ?_
                                        rotate_left
                                        · (intro w hSw; (try dsimp only at hSw); go_simp; first | done | with_reducible rfl)
                                        (try simp only [Act.put, List.setIfInBounds_toArray, List.set_cons_zero, List.set_cons_succ, List.getElem_toArray, List.getElem_cons_zero, List.getElem_cons_succ])
                                        refine wpAnyH_take (i := 1) (v := ?_) rfl (by kernel_rfl) (by kernel_rfl) (by kernel_rfl) (fun _ _ _ h => h) (Or.inl ⟨by kernel_rfl, ?_⟩) (by assumption) ?_
                                        rotate_left
                                        · (intro w hSw; (try dsimp only at hSw); go_simp; first | done | with_reducible rfl)
                                        (try simp only [Act.put, List.setIfInBounds_toArray, List.set_cons_zero, List.set_cons_succ, List.getElem_toArray, List.getElem_cons_zero, List.getElem_cons_succ])
                                        refine wpAnyH_take (i := 2) (v := ?_) rfl (by kernel_rfl) (by kernel_rfl) (by kernel_rfl) (fun _ _ _ h => h) (Or.inl ⟨by kernel_rfl, ?_⟩) (by assumption) ?_
                                        rotate_left
                                        · (intro w hSw; (try dsimp only at hSw); go_simp; first | done | with_reducible rfl)
                                        (try simp only [Act.put, List.setIfInBounds_toArray, List.set_cons_zero, List.set_cons_succ, List.getElem_toArray, List.getElem_cons_zero, List.getElem_cons_succ])
                                        refine wpAnyH_take (i := 3) (v := ?_) rfl (by kernel_rfl) (by kernel_rfl) (by kernel_rfl) (fun _ _ _ h => h) (Or.inl ⟨by kernel_rfl, ?_⟩) (by assumption) ?_
                                        rotate_left
                                        · (intro w hSw; (try dsimp only at hSw); go_simp; first | done | with_reducible rfl)
                                        (try simp only [Act.put, List.setIfInBounds_toArray, List.set_cons_zero, List.set_cons_succ, List.getElem_toArray, List.getElem_cons_zero, List.getElem_cons_succ])
                                        refine wpAnyH_take (i := 4) (v := ?_) rfl (by kernel_rfl) (by kernel_rfl) (by kernel_rfl) (fun _ _ _ h => h) (Or.inl ⟨by kernel_rfl, ?_⟩) (by assumption) ?_
                                        rotate_left
                                        · (intro w hSw; (try dsimp only at hSw); go_simp; first | done | with_reducible rfl)
                                        (try simp only [Act.put, List.setIfInBounds_toArray, List.set_cons_zero, List.set_cons_succ, List.getElem_toArray, List.getElem_cons_zero, List.getElem_cons_succ])
                                        refine wpAnyH_take (i := 5) (v := ?_) rfl (by kernel_rfl) (by kernel_rfl) (by kernel_rfl) (fun _ _ _ h => h) (Or.inl ⟨by kernel_rfl, ?_⟩) (by assumption) ?_
                                        rotate_left
                                        · (intro w hSw; (try dsimp only at hSw); go_simp; first | done | with_reducible rfl)
                                        (try simp only [Act.put, List.setIfInBounds_toArray, List.set_cons_zero, List.set_cons_succ, List.getElem_toArray, List.getElem_cons_zero, List.getElem_cons_succ])
                                        refine wpAnyH_take (i := 6) (v := ?_) rfl (by kernel_rfl) (by kernel_rfl) (by kernel_rfl) (fun _ _ _ h => h) (Or.inl ⟨by kernel_rfl, ?_⟩) (by assumption) ?_
                                        rotate_left
                                        · (intro w hSw; (try dsimp only at hSw); go_simp; first | done | with_reducible rfl)
                                        (try simp only [Act.put, List.setIfInBounds_toArray, List.set_cons_zero, List.set_cons_succ, List.getElem_toArray, List.getElem_cons_zero, List.getElem_cons_succ])
                                        refine wpAnyH_take (i := 7) (v := ?_) rfl (by kernel_rfl) (by kernel_rfl) (by kernel_rfl) (fun _ _ _ h => h) (Or.inl ⟨by kernel_rfl, ?_⟩) (by assumption) ?_
                                        rotate_left
                                        · (intro w hSw; (try dsimp only at hSw); go_simp; first | done | with_reducible rfl)
                                        (try simp only [Act.put, List.setIfInBounds_toArray, List.set_cons_zero, List.set_cons_succ, List.getElem_toArray, List.getElem_cons_zero, List.getElem_cons_succ])
                                        refine wpAnyH_take (i := 8) (v := ?_) rfl (by kernel_rfl) (by kernel_rfl) (by kernel_rfl) (fun _ _ _ h => h) (Or.inl ⟨by kernel_rfl, ?_⟩) (by assumption) ?_
                                        rotate_left
                                        · (intro w hSw; (try dsimp only at hSw); go_simp; first | done | with_reducible rfl)
                                        (try simp only [Act.put, List.setIfInBounds_toArray, List.set_cons_zero, List.set_cons_succ, List.getElem_toArray, List.getElem_cons_zero, List.getElem_cons_succ])
                                        refine wpAnyH_take (i := 9) (v := ?_) rfl (by kernel_rfl) (by kernel_rfl) (by kernel_rfl) (fun _ _ _ h => h) (Or.inl ⟨by kernel_rfl, ?_⟩) (by assumption) ?_
                                        rotate_left
                                        · (intro w hSw; (try dsimp only at hSw); go_simp; first | done | with_reducible rfl)
                                        (try simp only [Act.put, List.setIfInBounds_toArray, List.set_cons_zero, List.set_cons_succ, List.getElem_toArray, List.getElem_cons_zero, List.getElem_cons_succ])
                                        refine wpAnyH_take (i := 10) (v := ?_) rfl (by kernel_rfl) (by kernel_rfl) (by kernel_rfl) (fun _ _ _ h => h) (Or.inl ⟨by kernel_rfl, ?_⟩) (by assumption) ?_
                                        rotate_left
                                        · (intro w hSw; (try dsimp only at hSw); go_simp; first | done | with_reducible rfl)
                                        (try simp only [Act.put, List.setIfInBounds_toArray, List.set_cons_zero, List.set_cons_succ, List.getElem_toArray, List.getElem_cons_zero, List.getElem_cons_succ])
                                        refine wpAnyH_ready (rs := [11]) (by kernel_rfl) (by simp) ?_
                                        refine AllReadyH.cons rfl (fun KK hKK => ?_) AllReadyH.nil
                                        go_simp
                                        refine (put_any w1.heap.size th h n K p jn jA jm jc jl (w4).drew w.heap.size HB4.out.size n64 (HT4.out.t.below_ (Below.refl _ _).drew) (show w1.heap.size ≤ w4.heap.size from by omega) HO5.out (HO8.out.below (HB4.out.trans (Below.refl _ _).drew))).mono ?_
                                        have hqo5 := put_other (n := n) (q := p) (l := jl) hon
                                        generalize putE n p jn jl = E5 at *
                                        generalize putQ n p jn jl = p3 at *
                                        rintro e w5 ⟨th3, rfl, h5, hF5, ht5⟩
                                        have hF5' : Frame (Slots.Rest w4 th) w4 w5 := undrew hF5
                                        have hT5 := HT4.out.right h5 hF5' ht5
                                        have hb5 := HB4.out.trans (HT4.out.t.rest hF5' hz1 (by omega))
                                        have hz5 := hF5'.size
                                        have HT5 := Lib.hid hT5
                                        have HB5 := Lib.hid hb5
                                        have HQ5 := Lib.hid (HQ4.out.trans hqo5.symm)
                                        have v1 := (hb5.cell (p := ad3.add (k * 3 + 1)) (by rw [add_block]; exact hSb3)).trans X1.out
                                        have v2 := (hb5.cell (p := ad3.add (k * 3 + 2)) (by rw [add_block]; exact hSb3)).trans X2.out
                                        rw [add_plus _ _ _ (by omega)] at v1 v2
                                        clear h5 hF5 hF5' ht5 hT5 hb5 hqo5
                                        go_wp2_with fail
                                        refine hKK.out _ _ ?_ (fun hHeld => ?_)
                                        · (exact ⟨v1, v2⟩)
                                        clear hKK KK
                                        (try simp only [Act.put, List.setIfInBounds_toArray, List.set_cons_zero, List.set_cons_succ, List.getElem_toArray, List.getElem_cons_zero, List.getElem_cons_succ])
                                        refine wpAnyH_done (by kernel_rfl) ?_ _
                                        go_wp2_with fail
                                        go_roundw
                                        case rel => exact ⟨k + 1, K, tg, th3, q3, p3, by omega, by omega, by omega, by go_num, HT5.out, HQ5.out, by omega, HB5.out⟩
                                        case measure => simp [intOf] <;> omega
                                    · have hodb : (jd == 0) = false := by simpa using hod
                                      go_wp2_with fail
                                      go_roundw
                                      case rel => exact ⟨k + 1, K, tg, th, q3, p, by omega, by omega, by omega, by go_num, HT4.out, HQ4.out, by omega, HB4.out⟩
                                      case measure => simp [intOf] <;> omega
                            · go_wp2_with fail
                              go_roundw
                              case rel => exact ⟨k + 1, K, tg, th, q3, p, by omega, by omega, by omega, by go_num, HT4.out, HQ4.out, by omega, HB4.out⟩
                              case measure => simp [intOf] <;> omega
                        · as_aux_lemma =>
                            have HT4 := HT0
                            have HB4 := HB0
                            have HQ4 := HQP
                            have hz4 := HZS.out
                            by_cases ho : k < len3
                            · as_aux_lemma =>
                                obtain ⟨ad3, hA3, hSb3, hc3⟩ := HRR3.out (by rw [HL3.out]; omega)
                                subst hA3
                                have hkl3 : k < as3.length := by rw [HL3.out]; exact ho
                                obtain ⟨x0, x1, x2⟩ := hc3 k hkl3
                                have hpk := HOK3.out as3[k] (List.getElem_mem hkl3)
                                generalize as3[k] = bp at *
                                obtain ⟨jd, jn, jA, jm, jc, jl⟩ := bp
                                obtain ⟨o1, o2, o3, o4, o5, o6, o7, o8⟩ := hpk
                                simp only at o1 o2 o3 o4 o5 o6 o7 o8 x0 x1 x2
                                have z0 := (HB4.out.cell (p := ad3.add (k * 3)) (by rw [add_block]; exact hSb3)).trans x0
                                have z1 := (HB4.out.cell (p := ad3.add (k * 3 + 1)) (by rw [add_block]; exact hSb3)).trans x1
                                have z2 := (HB4.out.cell (p := ad3.add (k * 3 + 2)) (by rw [add_block]; exact hSb3)).trans x2
                                rw [add_plus _ _ _ (by omega)] at z1 z2
                                have HO5 := Lib.hid o5
                                have HO8 := Lib.hid o8
                                have X1 := Lib.hid x1
                                have X2 := Lib.hid x2
                                clear o5 o8 x0 x1 x2 hc3
                                by_cases hon : jn = a1
                                · go_wp2_with fail
                                  go_roundw
                                  case rel => exact ⟨k + 1, K, tg, th, q, p, by omega, by omega, by omega, by go_num, HT4.out, HQ4.out, by omega, HB4.out⟩
                                  case measure => simp [intOf] <;> omega
                                · as_aux_lemma =>
                                    have honb : (jn == a1) = false := by simpa using hon
                                    by_cases hod : jd = 0
                                    · as_aux_lemma =>
                                        subst hod
                                        go_wp2_with fail
                                        refine wp_region_held_drew (S := fun w' => w'.cell? { block := (ad3.add (k * 3)).block, off := (ad3.add (k * 3)).off + 1 } = some (.int .i64 jn) ∧ w'.cell? { block := (ad3.add (k * 3)).block, off := (ad3.add (k * 3)).off + 2 } = some (.slice jA jm jc)) (by kernel_rfl) (⟨z1, z2⟩) (fun hHeld => ?_)
                                        refine wpAnyH_take (i := 0) (v := ?_) rfl (by kernel_rfl) (by kernel_rfl) (by kernel_rfl) (fun _ _ _ h => h) (Or.inl ⟨by kernel_rfl, ?_⟩) (by assumption) ?_
                                        rotate_left
                                        · (intro w hSw; (try dsimp only at hSw); go_simp; first | done | with_reducible rfl)
                                        (try simp only [Act.put, List.setIfInBounds_toArray, List.set_cons_zero, List.set_cons_succ, List.getElem_toArray, List.getElem_cons_zero, List.getElem_cons_succ])
                                        refine wpAnyH_take (i := 1) (v := ?_) rfl (by kernel_rfl) (by kernel_rfl) (by kernel_rfl) (fun _ _ _ h => h) (Or.inl ⟨by kernel_rfl, ?_⟩) (by assumption) ?_
                                        rotate_left
                                        · (intro w hSw; (try dsimp only at hSw); go_simp; first | done | with_reducible rfl)
                                        (try simp only [Act.put, List.setIfInBounds_toArray, List.set_cons_zero, List.set_cons_succ, List.getElem_toArray, List.getElem_cons_zero, List.getElem_cons_succ])
                                        refine wpAnyH_take (i := 2) (v := ?_) rfl (by kernel_rfl) (by kernel_rfl) (by kernel_rfl) (fun _ _ _ h => h) (Or.inl ⟨by kernel_rfl, ?_⟩) (by assumption) ?_
                                        rotate_left
                                        · (intro w hSw; (try dsimp only at hSw); go_simp; first | done | with_reducible rfl)
                                        (try simp only [Act.put, List.setIfInBounds_toArray, List.set_cons_zero, List.set_cons_succ, List.getElem_toArray, List.getElem_cons_zero, List.getElem_cons_succ])
                                        refine wpAnyH_take (i := 3) (v := ?_) rfl (by kernel_rfl) (by kernel_rfl) (by kernel_rfl) (fun _ _ _ h => h) (Or.inl ⟨by kernel_rfl, ?_⟩) (by assumption) ?_
                                        rotate_left
                                        · (intro w hSw; (try dsimp only at hSw); go_simp; first | done | with_reducible rfl)
                                        (try simp only [Act.put, List.setIfInBounds_toArray, List.set_cons_zero, List.set_cons_succ, List.getElem_toArray, List.getElem_cons_zero, List.getElem_cons_succ])
                                        refine wpAnyH_take (i := 4) (v := ?_) rfl (by kernel_rfl) (by kernel_rfl) (by kernel_rfl) (fun _ _ _ h => h) (Or.inl ⟨by kernel_rfl, ?_⟩) (by assumption) ?_
                                        rotate_left
                                        · (intro w hSw; (try dsimp only at hSw); go_simp; first | done | with_reducible rfl)
                                        (try simp only [Act.put, List.setIfInBounds_toArray, List.set_cons_zero, List.set_cons_succ, List.getElem_toArray, List.getElem_cons_zero, List.getElem_cons_succ])
                                        refine wpAnyH_take (i := 5) (v := ?_) rfl (by kernel_rfl) (by kernel_rfl) (by kernel_rfl) (fun _ _ _ h => h) (Or.inl ⟨by kernel_rfl, ?_⟩) (by assumption) ?_
                                        rotate_left
                                        · (intro w hSw; (try dsimp only at hSw); go_simp; first | done | with_reducible rfl)
                                        (try simp only [Act.put, List.setIfInBounds_toArray, List.set_cons_zero, List.set_cons_succ, List.getElem_toArray, List.getElem_cons_zero, List.getElem_cons_succ])
                                        refine wpAnyH_take (i := 6) (v := ?_) rfl (by kernel_rfl) (by kernel_rfl) (by kernel_rfl) (fun _ _ _ h => h) (Or.inl ⟨by kernel_rfl, ?_⟩) (by assumption) ?_
                                        rotate_left
                                        · (intro w hSw; (try dsimp only at hSw); go_simp; first | done | with_reducible rfl)
                                        (try simp only [Act.put, List.setIfInBounds_toArray, List.set_cons_zero, List.set_cons_succ, List.getElem_toArray, List.getElem_cons_zero, List.getElem_cons_succ])
                                        refine wpAnyH_take (i := 7) (v := ?_) rfl (by kernel_rfl) (by kernel_rfl) (by kernel_rfl) (fun _ _ _ h => h) (Or.inl ⟨by kernel_rfl, ?_⟩) (by assumption) ?_
                                        rotate_left
                                        · (intro w hSw; (try dsimp only at hSw); go_simp; first | done | with_reducible rfl)
                                        (try simp only [Act.put, List.setIfInBounds_toArray, List.set_cons_zero, List.set_cons_succ, List.getElem_toArray, List.getElem_cons_zero, List.getElem_cons_succ])
                                        refine wpAnyH_take (i := 8) (v := ?_) rfl (by kernel_rfl) (by kernel_rfl) (by kernel_rfl) (fun _ _ _ h => h) (Or.inl ⟨by kernel_rfl, ?_⟩) (by assumption) ?_
                                        rotate_left
                                        · (intro w hSw; (try dsimp only at hSw); go_simp; first | done | with_reducible rfl)
                                        (try simp only [Act.put, List.setIfInBounds_toArray, List.set_cons_zero, List.set_cons_succ, List.getElem_toArray, List.getElem_cons_zero, List.getElem_cons_succ])
                                        refine wpAnyH_take (i := 9) (v := ?_) rfl (by kernel_rfl) (by kernel_rfl) (by kernel_rfl) (fun _ _ _ h => h) (Or.inl ⟨by kernel_rfl, ?_⟩) (by assumption) ?_
                                        rotate_left
                                        · (intro w hSw; (try dsimp only at hSw); go_simp; first | done | with_reducible rfl)
                                        (try simp only [Act.put, List.setIfInBounds_toArray, List.set_cons_zero, List.set_cons_succ, List.getElem_toArray, List.getElem_cons_zero, List.getElem_cons_succ])
                                        refine wpAnyH_take (i := 10) (v := ?_) rfl (by kernel_rfl) (by kernel_rfl) (by kernel_rfl) (fun _ _ _ h => h) (Or.inl ⟨by kernel_rfl, ?_⟩) (by assumption) ?_
                                        rotate_left
                                        · (intro w hSw; (try dsimp only at hSw); go_simp; first | done | with_reducible rfl)
                                        (try simp only [Act.put, List.setIfInBounds_toArray, List.set_cons_zero, List.set_cons_succ, List.getElem_toArray, List.getElem_cons_zero, List.getElem_cons_succ])
                                        refine wpAnyH_ready (rs := [11]) (by kernel_rfl) (by simp) ?_
                                        refine AllReadyH.cons rfl (fun KK hKK => ?_) AllReadyH.nil
                                        go_simp
                                        refine (put_any w1.heap.size th h n K p jn jA jm jc jl ((wr.alloc (.cells #[.int .i64 pd, .int .i64 pn, .slice pA pm pc] 40))).drew w.heap.size HB4.out.size n64 (HT4.out.t.below_ (Below.refl _ _).drew) (show w1.heap.size ≤ (wr.alloc (.cells #[.int .i64 pd, .int .i64 pn, .slice pA pm pc] 40)).heap.size from by omega) HO5.out (HO8.out.below (HB4.out.trans (Below.refl _ _).drew))).mono ?_
                                        have hqo5 := put_other (n := n) (q := p) (l := jl) hon
                                        generalize putE n p jn jl = E5 at *
                                        generalize putQ n p jn jl = p3 at *
                                        rintro e w5 ⟨th3, rfl, h5, hF5, ht5⟩
                                        have hF5' : Frame (Slots.Rest (wr.alloc (.cells #[.int .i64 pd, .int .i64 pn, .slice pA pm pc] 40)) th) (wr.alloc (.cells #[.int .i64 pd, .int .i64 pn, .slice pA pm pc] 40)) w5 := undrew hF5
                                        have hT5 := HT4.out.right h5 hF5' ht5
                                        have hb5 := HB4.out.trans (HT4.out.t.rest hF5' hz1 (by omega))
                                        have hz5 := hF5'.size
                                        have HT5 := Lib.hid hT5
                                        have HB5 := Lib.hid hb5
                                        have HQ5 := Lib.hid (HQ4.out.trans hqo5.symm)
                                        have v1 := (hb5.cell (p := ad3.add (k * 3 + 1)) (by rw [add_block]; exact hSb3)).trans X1.out
                                        have v2 := (hb5.cell (p := ad3.add (k * 3 + 2)) (by rw [add_block]; exact hSb3)).trans X2.out
                                        rw [add_plus _ _ _ (by omega)] at v1 v2
                                        clear h5 hF5 hF5' ht5 hT5 hb5 hqo5
                                        go_wp2_with fail
                                        refine hKK.out _ _ ?_ (fun hHeld => ?_)
                                        · (exact ⟨v1, v2⟩)
                                        clear hKK KK
                                        (try simp only [Act.put, List.setIfInBounds_toArray, List.set_cons_zero, List.set_cons_succ, List.getElem_toArray, List.getElem_cons_zero, List.getElem_cons_succ])
                                        refine wpAnyH_done (by kernel_rfl) ?_ _
                                        go_wp2_with fail
                                        go_roundw
                                        case rel => exact ⟨k + 1, K, tg, th3, q, p3, by omega, by omega, by omega, by go_num, HT5.out, HQ5.out, by omega, HB5.out⟩
                                        case measure => simp [intOf] <;> omega
                                    · have hodb : (jd == 0) = false := by simpa using hod
                                      go_wp2_with fail
                                      go_roundw
                                      case rel => exact ⟨k + 1, K, tg, th, q, p, by omega, by omega, by omega, by go_num, HT4.out, HQ4.out, by omega, HB4.out⟩
                                      case measure => simp [intOf] <;> omega
                            · go_wp2_with fail
                              go_roundw
                              case rel => exact ⟨k + 1, K, tg, th, q, p, by omega, by omega, by omega, by go_num, HT4.out, HQ4.out, by omega, HB4.out⟩
                              case measure => simp [intOf] <;> omega
        · as_aux_lemma =>
            have hexit : ¬ k < len2 ∨ (k < len2 ∧ k = 150) := by omega
            have hce : cnt n q a1 = cnt n p a1 := by unfold cnt; rw [HQP.out]
            have HCE := Lib.hid hce
            clear hce
            rcases hexit with hx | ⟨hx, hx150⟩
            all_goals
              go_wp2_with fail
              refine (count_any w1.heap.size tg g n K q a1 _ n64 HT.out.s).mono ?_
              rintro e w4 ⟨rfl, rfl⟩
              go_wp2_with fail
              refine (count_any w1.heap.size th h n K p a1 _ n64 HT.out.t).mono ?_
              rintro e w4 ⟨rfl, rfl⟩
              rw [HCE.out]
              go_wp2_with fail
              refine (slot_any w1.heap.size tg g n K q _ HT.out.s).mono ?_
              rintro e w4 ⟨rfl, rfl⟩
              go_wp2_with fail
              refine (slot_any w1.heap.size th h n K p _ HT.out.t).mono ?_
              rintro e w4 ⟨rfl, rfl⟩
              go_wp2_with fail
              go_ret
              exact ⟨rfl, HBR.out⟩
  · as_aux_lemma =>
      have hn' : a0 < 1 ∨ 64 < a0 := by omega
      go_enter Try.func6, Try.ntmps6
      go_wp2_with fail
      refine (small_any _).mono ?_
      rintro e w1 ⟨rfl, hb1⟩
      go_wp2_with fail
      refine (new_no a0 hn' _).mono ?_
      rintro e w2 ⟨rfl, rfl⟩
      go_wp2_with fail
      refine (new_no a0 hn' _).mono ?_
      rintro e w2 ⟨rfl, rfl⟩
      go_wp2_with fail
      go_ret
      exact ⟨rfl, hb1⟩

set_option maxRecDepth 100000 in
theorem lifted (os : Os) (started : os.Started) (H : Type) (enc : TypeId × Value → H) :
    ReturnsInHanded {} Try.checked os 6 .any (Rows.slotsApartSpec.pre6 enc Try.prog Try.f6 Rows.slotsApartRow.domain false) (Rows.slotsApartSpec.post enc Try.prog Try.f6 false true false false) := by
  refine returnsInHanded_of_change_sized (C := Try.checked) own started (by kernel_rfl) Try.func6
    (ChangeSpec.witness6 (enc := enc) (C := Try.checked) false ⟨#[], #[.int .i64 0, .int .i64 0, .slice none 0 0, .slice none 0 0], []⟩ 8 (by kernel_rfl) (by kernel_rfl) (by kernel_rfl) (by kernel_rfl)) ?_
  intro W base args ds gs before hval0 hW hcnd hsz0 _
  have hval : ∀ (j : Nat) t v, Try.f6.params[j]? = some t → args[j]? = some v → Value.okWide Try.prog W .any base t v := hval0
  have hsz : (DataW.weightsEach Try.prog (Try.f6.params.toList ++ Rows.slotsApartSpec.plain.varTypes Try.prog) (ds ++ gs)).all (· ≤ reachBytes) = true := hsz0
  clear hsz0
  have hW' := hW
  obtain ⟨p, q, hA0, hV, rfl, hfz, hnd⟩ := hW
  have hA : DataW.TrodAll enc Try.prog W 0 (fun _ => true) true Try.f6.params.toList args.toList ds p := hA0
  rw [Try.params6] at hA hval hsz
  obtain ⟨v0, vs0, d0, ds0, p0, q0, hargs, rfl, rfl, h0, r0⟩ := trodAll_cons hA
  obtain ⟨v1, vs1, d1, ds1, p1, q1, rfl, rfl, rfl, h1, r1⟩ := trodAll_cons r0
  obtain ⟨v2, vs2, d2, ds2, p2, q2, rfl, rfl, rfl, h2, r2⟩ := trodAll_cons r1
  obtain ⟨v3, vs3, d3, ds3, p3, q3, rfl, rfl, rfl, h3, r3⟩ := trodAll_cons r2
  obtain ⟨rfl, rfl, rfl⟩ := trodAll_nil r3
  obtain rfl : args = #[v0, v1, v2, v3] := by cases args; simp_all
  obtain ⟨rfl, rfl⟩ := trodVars_none hV
  obtain ⟨a2, len2, cap2, rfl⟩ := okWide_slice Try.underlying35 (hval 2 35 v2 rfl rfl)
  have k2 := h2
  have lt2 : ∀ x ∈ p2, x.block < W.heap.size := by obtain ⟨m, hm⟩ := k2; exact DataW.trod_lt m _ _ _ hm
  obtain ⟨as2, w2⟩ := open_acts Try.underlying35 Try.underlying40 (by kernel_rfl) (by kernel_rfl) rfl rfl rfl Try.underlying28 Try.underlying5 Try.underlying3 (by kernel_rfl) h2
  obtain ⟨a3, len3, cap3, rfl⟩ := okWide_slice Try.underlying35 (hval 3 35 v3 rfl rfl)
  have k3 := h3
  have lt3 : ∀ x ∈ p3, x.block < W.heap.size := by obtain ⟨m, hm⟩ := k3; exact DataW.trod_lt m _ _ _ hm
  obtain ⟨as3, w3⟩ := open_acts Try.underlying35 Try.underlying40 (by kernel_rfl) (by kernel_rfl) rfl rfl rfl Try.underlying28 Try.underlying5 Try.underlying3 (by kernel_rfl) h3
  clear hsz
  obtain ⟨a0, rfl, rfl, rfl, w0⟩ := open_int Try.underlying3 (hval 0 3 v0 rfl rfl) h0
  obtain ⟨a1, rfl, rfl, rfl, w1⟩ := open_int Try.underlying3 (hval 1 3 v1 rfl rfl) h1
  clear hA0 hval0
  simp only [List.append_nil] at hW'
  refine (walk a0 a1 a2 len2 cap2 as2 a3 len3 cap3 as3 W w0 w1 w2 w3).mono fun e W' ⟨he, bel⟩ => ?_
  subst he
  exact ⟨_, rfl, _, _, _, [], _, [], hW', trodAll_mk1 (shut_bool Try.underlying4 _), (trodAll_cons_mk (shut_int Try.underlying3 w0) (trodAll_cons_mk (shut_int Try.underlying3 w1) (trodAll_cons_mk (Below.trod laidOut (by kernel_rfl) (of_decide_eq_true (by kernel_rfl)) k2 bel lt2) (trodAll_cons_mk (Below.trod laidOut (by kernel_rfl) (of_decide_eq_true (by kernel_rfl)) k3 bel lt3) trodAll_mk0)))), rfl, bel.frame _, fun h => by cases h⟩

theorem over : Rows.slotsApartRow.holds Try.pinned (OpenSpec.ofChange Rows.slotsApartSpec) :=
  OpenClaim.holds_of_wide 6 Try.f6 rfl rfl rfl rfl rfl rfl rfl ⟨rfl, rfl, rfl, rfl, rfl⟩ rfl rfl rfl rfl rfl (by kernel_rfl) Try.func6 (by kernel_rfl)
    (of_decide_eq_true (by kernel_rfl)) (by unfold Func.isWrapper; first | (rw [if_pos (by decide +kernel)]; kernel_rfl) | (rw [if_neg (by decide +kernel)]; exact ⟨rfl, rfl⟩))
    (fun os started H enc _ => lifted os started H enc)

theorem proved : Rows.SlotsApartSaid := over
end Go.Proofs.Ytjlmgniachdfgaa.slotsApart
