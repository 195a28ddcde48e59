/- The document's Rounds: contract. -/
import Derived.Test.YtcbihjcnnfohmaaGreatRefOne
import Derived.Test.YtcbihjcnnfohmaaGreatMemAll
namespace Go.Proofs.YtcbihjcnnfohmaaGreat.Aes
open Go Go.ChangeShapes Go.WideShapes Go.ChangeAt Go.RowKit Go.Proofs.YtcbihjcnnfohmaaGreat.Fld
set_option linter.unusedVariables false
set_option linter.unusedSimpArgs false
set_option maxRecDepth 100000 in
set_option maxHeartbeats 4000000 in
theorem refrounds_any (A1 A2 : Option Addr) (c1 c2 n L : Nat) (key : Blk) (hn : n = 4 ∨ n = 8) (hL : L = 4 * n) (hkl : key.length = L) (hc1 : L ≤ c1) (w : World) (hr1 : Rd w w.heap.size A1 key) (hr2 : Rd w w.heap.size A2 sbs) :
    Calls Tryz.prog 43 #[.slice A1 L c1, .slice A2 256 c2] w fun e w' => ∃ v vs, e = .returned v ∧ Rws w' 22 5 w.heap.size v vs (rounds n key) ∧ Below w.heap.size w w' := by
  have n8 : n ≤ 8 := by omega
  have n4 : 4 ≤ n := by omega
  have hdiv : (L : Int) / 4 = (n : Int) := by omega
  obtain ⟨ad2, hA2, hs2, hx2⟩ := rd_some hr2 (by rw [sbs_length]; omega)
  subst hA2
  have HX2 := Lib.hid (show ∀ x : UInt8, w.cell? (ad2.add x.toNat) = some (bv (sb x)) from fun x => by
    rw [hx2 x.toNat (by rw [sbs_length]; exact x.toNat_lt), List.getD_eq_getElem?_getD, sbs_at]; rfl)
  obtain ⟨W, hW⟩ : ∃ W, allW n key = W := ⟨_, rfl⟩
  have HWE := Lib.hid hW
  have hWl : W.length = 4 * (n + 7) := by rw [← hW]; exact allW_length hn key
  have hW4 : Four W := by rw [← hW]; exact allW_four hn (by omega)
  have HWL := Lib.hid hWl
  have HW4 := Lib.hid hW4
  have HN := Lib.hid hn
  have HL := Lib.hid hL
  have HK := Lib.hid hkl
  have HC := Lib.hid hc1
  have HR1 := Lib.hid hr1
  clear hn hL hkl hc1 hr1 hr2 hx2 hW hWl hW4
  obtain ⟨M, hM⟩ : ∃ M, 4 * (n + 7) = M := ⟨_, rfl⟩
  have HM := Lib.hid hM
  have m60 : M ≤ 60 := by omega
  have hMi : 4 * ((n : Int) + 7) = (M : Int) := by omega
  clear hM
  go_enter Tryz.func43, Tryz.ntmps43
  go_wp2_with fail
  go_loopw [6, 7] (fun wv iv wr => ∃ i : Nat, i ≤ M ∧ iv = .int .i64 (i : Int) ∧ (∃ vs, Rws wr 22 5 w.heap.size wv vs (W.take i)) ∧ Below w.heap.size w wr) (fun _ iv _ => 60 - (intOf iv).toNat)
  case atStart => exact ⟨0, by omega, rfl, ⟨[], Rws.nil _ _ _ _⟩, Below.refl _ _⟩
  case round =>
    obtain ⟨i, hi, rfl, ⟨vs, hrw⟩, hb⟩ := hrel
    have hzr := hb.size
    have hvl : vs.length = i := by rw [hrw.len, List.length_take, HWL.out]; have := HM.out; omega
    obtain ⟨Ao, co, rfl, hco, _, _⟩ := hrw.own.len
    rw [hvl] at hrw ⊢
    have HRW := Lib.hid hrw
    have HB := Lib.hid hb
    have HVL := Lib.hid hvl
    clear hrw hb hvl
    obtain ⟨wq, rfl⟩ : ∃ wq : World, wq = wr := ⟨_, rfl⟩
    by_cases hlt : i < M
    · have hlti : (i : Int) < (M : Int) := by omega
      have hi60 : i < 60 := by omega
      by_cases hfst : i < n
      · have hfi : (i : Int) < (n : Int) := by omega
        have hst := allW_first HN.out key hfst
        rw [HWE.out] at hst
        have hT4 : ((key.drop (4 * i)).take 4).length = 4 := by rw [List.length_take, List.length_drop, HK.out, HL.out]; omega
        obtain ⟨lo, hlo⟩ : ∃ lo, 4 * i = lo := ⟨_, rfl⟩
        have hloi : 4 * (i : Int) = (lo : Int) := by omega
        rw [hlo] at hst hT4
        have l32 : lo ≤ 28 := by omega
        obtain ⟨A', hA', hR'⟩ := rd_slice (c := c1) (lo := lo) (m := 4) HR1.out HK.out (by have := HL.out; omega) (by omega) HC.out ((lo : Int) + 4) (lo : Int) (by omega) rfl
        generalize (key.drop lo).take 4 = Ti at *
        have HST := Lib.hid hst
        have HT4 := Lib.hid hT4
        have HR' := Lib.hid (rd_now_ hR' HB.out)
        have HE := Lib.hid (own_empty (w := wq) 5 (base := wq.heap.size) (Nat.le_refl _))
        have HEB := Lib.hid (show Below wq.heap.size wq (wq.alloc (.cells #[] 5)) from (Below.refl _ _).alloc (Nat.le_refl _) _)
        clear hst hT4 hR' hlo
        go_wp2_with (first
                     | (with_reducible refine at_slot 36 ?_
                        refine wpList_append_u8 Go.Proofs.YtcbihjcnnfohmaaGreat.u8 rfl (.tmp 28) (.tmp 35) rfl wq.heap.size _ [] _ 4 _ Ti _ rfl rfl HE.out ((HR'.out.below HEB.out).more HEB.out.size) HT4.out (by simp) (by simp) ?_
                        intro v2 w2 hO2 hg2 hat2
                        rw [List.nil_append] at hO2
                        have hb2 : Below wq.heap.size wq w2 := HEB.out.grown hg2 (by simp) (fun x hx => (HE.out.lt x hx).1)
                        obtain ⟨Ax, cx, hvx, _, _⟩ := hO2.form
                        rw [HT4.out] at hvx
                        subst hvx
                        have HO2 := Lib.hid hO2
                        have HB2 := Lib.hid hb2
                        have HOA := Lib.hid (rws_own HRW.out hb2 (.cells #[.slice Ax 4 cx] 22))
                        have hz2 : w.heap.size ≤ (w2.alloc (.cells #[.slice Ax 4 cx] 22)).heap.size := by have := hb2.size; simp; omega
                        clear hO2 hg2 hat2 hb2)
                     | (with_reducible refine at_slot 38 ?_
                        refine wpList_append_v eqv rfl (.tmp 27) (.tmp 37) rfl w.heap.size _ vs _ 1 1 [.slice Ax 4 cx] rfl rfl HOA.out rfl (src_row w2 _ _) (by intro u hu; simp only [List.mem_singleton] at hu; subst hu; exact slice_one _ _ _) (by rw [HVL.out]; omega) (by rw [HVL.out]; omega) hz2 ?_
                        intro v4 w4 hO4 hg4 hat4
                        obtain ⟨hp4, hF4⟩ := rws_app HRW.out hzr HB2.out HO2.out (Nat.le_refl _) _ hO4 hg4 hat4
                        rw [← HST.out] at hp4
                        have hb4 := HB.out.trans (rws_below HRW.out hzr hF4)
                        have HP4 := Lib.hid hp4
                        have HB4 := Lib.hid hb4
                        clear hO4 hg4 hat4 hp4 hF4 hb4))
        go_roundw
        case rel => exact ⟨i + 1, by omega, by go_num, ⟨_, HP4.out⟩, HB4.out⟩
        case measure => simp [intOf]; omega
      · have hni : ¬ (i : Int) < (n : Int) := by omega
        have hni' : n ≤ i := by omega
        have hst := allW_next HN.out key (i := i) hni' (by have := HM.out; omega)
        rw [HWE.out] at hst
        obtain ⟨p1, hp1⟩ : ∃ p, i - 1 = p := ⟨_, rfl⟩
        obtain ⟨p2, hp2⟩ : ∃ p, i - n = p := ⟨_, rfl⟩
        rw [hp1, hp2] at hst
        have hTl : (rkey W p1).length = 4 := HW4.out.at_ (by have := HWL.out; have := HM.out; omega)
        have hKl : (rkey W p2).length = 4 := HW4.out.at_ (by have := HWL.out; have := HM.out; omega)
        obtain ⟨ad, hAo, hadl, _, hrows⟩ := rws_ptr HRW.out (by rw [HVL.out]; omega)
        subst hAo
        obtain ⟨AT, cT, cell1, hRT, hcT⟩ := hrows p1 _ (take_at_rk (R := W) (by omega) (by have := HWL.out; have := HM.out; omega))
        obtain ⟨AK, cK, cell2, hRK, hcK⟩ := hrows p2 _ (take_at_rk (R := W) (by omega) (by have := HWL.out; have := HM.out; omega))
        rw [hTl] at cell1 hcT
        rw [hKl] at cell2 hcK
        obtain ⟨T0, hT0⟩ : ∃ T, rkey W p1 = T := ⟨_, rfl⟩
        obtain ⟨Kn, hKn⟩ : ∃ K, rkey W p2 = K := ⟨_, rfl⟩
        rw [hT0] at hst hTl hRT
        rw [hKn] at hst hKl hRK
        have hwi1 : (i : Int) - 1 = (p1 : Int) := by omega
        have hp1i : (p1 : Int) < (i : Int) := by omega
        have hp2i : (p2 : Int) < (i : Int) := by omega
        have HW2 := Lib.hid (show IntKind.i64.wrap ((i : Int) - (n : Int)) = (p2 : Int) by rw [show (i : Int) - (n : Int) = (p2 : Int) by omega]; exact IntWalk.i64_in _ (by omega))
        have hTn : (turnW n i T0).length = 4 := turnW_length hTl
        obtain ⟨Tn, hTE⟩ : ∃ T, turnW n i T0 = T := ⟨_, rfl⟩
        rw [hTE] at hst hTn
        have hLL : (lay Tn Kn).length = 4 := lay4_length hTn hKl
        obtain ⟨adK, hAK, hsK, hcKc⟩ := rd_some hRK (by omega)
        subst hAK
        have HKC := Lib.hid (show ∀ j, j < 4 → wq.cell? (adK.add j) = some (bv (at_ Kn j)) from fun j hj => hcKc j (by omega))
        have HSK := Lib.hid hsK
        have HST := Lib.hid hst
        have HTL := Lib.hid hTl
        have HKL := Lib.hid hKl
        have HTE := Lib.hid hTE
        have HTN := Lib.hid hTn
        have HLL := Lib.hid hLL
        have HRT := Lib.hid hRT
        have HC2 := Lib.hid cell2
        have HADL := Lib.hid hadl
        have HE := Lib.hid (own_empty (w := wq) 5 (base := wq.heap.size) (Nat.le_refl _))
        have HEB := Lib.hid (show Below wq.heap.size wq (wq.alloc (.cells #[] 5)) from (Below.refl _ _).alloc (Nat.le_refl _) _)
        have cell1e : (wq.alloc (.cells #[] 5)).cell? (ad.add p1) = some (.slice AT 4 cT) := (HEB.out.cell (p := ad.add p1) (by rw [add_block]; exact HADL.out)).trans cell1
        clear hst hTl hKl hrows hRT hRK hT0 hKn hTn hTE hLL hcKc hsK cell1 cell2 hcT hcK hp1 hp2 hadl
        by_cases hA : i % n = 0
        · skip
          have hm : (i : Int) % (n : Int) = 0 := by
            have : ((i % n : Nat) : Int) = 0 := by rw [hA]; rfl
            simpa using this
          have hte := HTE.out
          unfold turnW at hte
          rw [if_pos hA] at hte
          have HTT := Lib.hid hte
          obtain ⟨q, hq⟩ : ∃ q, i / n = q := ⟨_, rfl⟩
          have hq1 : 1 ≤ q := by rw [← hq]; exact (Nat.one_le_div_iff (by omega)).2 hni'
          have hq60 : q ≤ 60 := by rw [← hq]; exact Nat.le_trans (Nat.div_le_self _ _) (by omega)
          obtain ⟨q1, hq1e⟩ : ∃ q1, q - 1 = q1 := ⟨_, rfl⟩
          rw [hq, hq1e] at hte
          have hqi : (i : Int) / (n : Int) = (q : Int) := by rw [← hq]; push_cast; rfl
          have hn0 : ¬ n = 0 := by omega
          have HQ1 := Lib.hid (show IntKind.i64.wrap ((i : Int) / (n : Int)) = (q : Int) by rw [hqi]; exact IntWalk.i64_in _ (by omega))
          have HQ2 := Lib.hid (show IntKind.i64.wrap ((q : Int) - 1) = (q1 : Int) by rw [show (q : Int) - 1 = (q1 : Int) by omega]; exact IntWalk.i64_in _ (by omega))
          have HTT := Lib.hid hte
          have hG : (rc q1).toNat = gpow 2 q1 := nat8 (gpow_lt 2 (by omega) _)
          have HGE := Lib.hid hG
          have hxr := u8x (sb (at_ T0 1)) (rc q1)
          rw [hG] at hxr
          have HXR := Lib.hid hxr
          have hn1 : 1 ≤ (n : Int) := by omega
          have hq1n : q1 ≤ 60 := by omega
          clear hte hA hq hq1e hqi hG hxr
          go_wp2_with (with_reducible refine at_slot 45 ?_
                       refine wpList_append_u8 Go.Proofs.YtcbihjcnnfohmaaGreat.u8 rfl (.tmp 39) (.tmp 44) rfl wq.heap.size _ [] _ 4 _ T0 _ rfl rfl HE.out ((HRT.out.below HEB.out).more HEB.out.size) HTL.out (by simp) (by simp) ?_
                       intro v2 w2 hO2 hg2 hat2
                       rw [List.nil_append] at hO2
                       have hb2 : Below wq.heap.size wq w2 := HEB.out.grown hg2 (by simp) (fun x hx => (HE.out.lt x hx).1)
                       obtain ⟨gt, ct, hvx, hgtb, hgtl, _⟩ := hO2.at_ (i := 0) (by rw [HTL.out]; omega)
                       rw [HTL.out] at hvx
                       subst hvx
                       have HOT := Lib.hid hO2
                       have HBT := Lib.hid hb2
                       clear hO2 hg2 hat2 hb2)
          have hbw := HB.out.trans (HBT.out.mono hzr)
          have x0 := own_at4 HOT.out (i := 0) (by rw [HTL.out]; omega)
          have x1 := own_at4 HOT.out (i := 1) (by rw [HTL.out]; omega)
          have x2 := own_at4 HOT.out (i := 2) (by rw [HTL.out]; omega)
          have x3 := own_at4 HOT.out (i := 3) (by rw [HTL.out]; omega)
          have z0 := (hbw.cell (p := ad2.add (at_ T0 0).toNat) (by rw [add_block]; exact hs2)).trans (HX2.out (at_ T0 0))
          have z1 := (hbw.cell (p := ad2.add (at_ T0 1).toNat) (by rw [add_block]; exact hs2)).trans (HX2.out (at_ T0 1))
          have z2 := (hbw.cell (p := ad2.add (at_ T0 2).toNat) (by rw [add_block]; exact hs2)).trans (HX2.out (at_ T0 2))
          have z3 := (hbw.cell (p := ad2.add (at_ T0 3).toNat) (by rw [add_block]; exact hs2)).trans (HX2.out (at_ T0 3))
          have u0 : ((at_ T0 0).toNat : Int) < 256 := by have := (at_ T0 0).toNat_lt; omega
          have u1 : ((at_ T0 1).toNat : Int) < 256 := by have := (at_ T0 1).toNat_lt; omega
          have u2 : ((at_ T0 2).toNat : Int) < 256 := by have := (at_ T0 2).toNat_lt; omega
          have u3 : ((at_ T0 3).toNat : Int) < 256 := by have := (at_ T0 3).toNat_lt; omega
          have hoN := own_four (w := w2.drew) (base := wq.heap.size) HBT.out.size (sb (at_ T0 1) ^^^ rc q1) (sb (at_ T0 2)) (sb (at_ T0 3)) (sb (at_ T0 0))
          have hxr := HXR.out
          rw [HTT.out] at hoN
          rw [bv_int] at x0 x1 x2 x3 z0 z1 z2 z3
          generalize (sb (at_ T0 1) ^^^ rc q1).toNat = sx at *
          obtain ⟨G, hG⟩ : ∃ G, gpow 2 q1 = G := ⟨_, rfl⟩
          rw [hG] at hxr
          have HG := Lib.hid hG
          generalize (sb (at_ T0 0)).toNat = s0 at *
          generalize (sb (at_ T0 1)).toNat = s1 at *
          generalize (sb (at_ T0 2)).toNat = s2 at *
          generalize (sb (at_ T0 3)).toNat = s3 at *
          generalize (at_ T0 0).toNat = y0 at *
          generalize (at_ T0 1).toNat = y1 at *
          generalize (at_ T0 2).toNat = y2 at *
          generalize (at_ T0 3).toNat = y3 at *
          have hbN := HBT.out.drew.alloc HBT.out.size (.cells #[.int .u8 (sx : Int), .int .u8 (s2 : Int), .int .u8 (s3 : Int), .int .u8 (s0 : Int)] 5)
          have HON := Lib.hid hoN
          have HBN := Lib.hid hbN
          have hq1w := HQ1.out
          have hq2w := HQ2.out
          clear hoN hbN hbw hG HXR
          refine wp_region_held_drew (S := fun w' => w'.cell? ⟨gt, 0, none⟩ = some (.int .u8 (y0 : Int)) ∧ w'.cell? ⟨gt, 1, none⟩ = some (.int .u8 (y1 : Int)) ∧ w'.cell? ⟨gt, 2, none⟩ = some (.int .u8 (y2 : Int)) ∧ w'.cell? ⟨gt, 3, none⟩ = some (.int .u8 (y3 : Int)) ∧ w'.cell? (ad2.add y0) = some (.int .u8 (s0 : Int)) ∧ w'.cell? (ad2.add y1) = some (.int .u8 (s1 : Int)) ∧ w'.cell? (ad2.add y2) = some (.int .u8 (s2 : Int)) ∧ w'.cell? (ad2.add y3) = some (.int .u8 (s3 : Int))) (by kernel_rfl) (⟨x0, x1, x2, x3, z0, z1, z2, z3⟩) (fun hHeld => ?_)
          refine wpAnyH_take (i := 0) (v := ?_) rfl (by kernel_rfl) (by kernel_rfl) (by kernel_rfl) (fun _ _ _ h => h) (Or.inl ⟨by kernel_rfl, ?_⟩) (by assumption) ?_
          rotate_left
          · (intro w hSw; (try dsimp only at hSw); go_simp; first | done | with_reducible rfl)
          (try simp only [Act.put, List.setIfInBounds_toArray, List.set_cons_zero, List.set_cons_succ, List.getElem_toArray, List.getElem_cons_zero, List.getElem_cons_succ])
          refine wpAnyH_take (i := 1) (v := ?_) rfl (by kernel_rfl) (by kernel_rfl) (by kernel_rfl) (fun _ _ _ h => h) (Or.inl ⟨by kernel_rfl, ?_⟩) (by assumption) ?_
          rotate_left
          · (intro w hSw; (try dsimp only at hSw); go_simp; first | done | with_reducible rfl)
          (try simp only [Act.put, List.setIfInBounds_toArray, List.set_cons_zero, List.set_cons_succ, List.getElem_toArray, List.getElem_cons_zero, List.getElem_cons_succ])
          refine wpAnyH_take (i := 2) (v := ?_) rfl (by kernel_rfl) (by kernel_rfl) (by kernel_rfl) (fun _ _ _ h => h) (Or.inl ⟨by kernel_rfl, ?_⟩) (by assumption) ?_
          rotate_left
          · (intro w hSw; (try dsimp only at hSw); go_simp; first | done | with_reducible rfl)
          (try simp only [Act.put, List.setIfInBounds_toArray, List.set_cons_zero, List.set_cons_succ, List.getElem_toArray, List.getElem_cons_zero, List.getElem_cons_succ])
          refine wpAnyH_take (i := 3) (v := ?_) rfl (by kernel_rfl) (by kernel_rfl) (by kernel_rfl) (fun _ _ _ h => h) (Or.inl ⟨by kernel_rfl, ?_⟩) (by assumption) ?_
          rotate_left
          · (intro w hSw; (try dsimp only at hSw); go_simp; first | done | with_reducible rfl)
          (try simp only [Act.put, List.setIfInBounds_toArray, List.set_cons_zero, List.set_cons_succ, List.getElem_toArray, List.getElem_cons_zero, List.getElem_cons_succ])
          refine wpAnyH_take (i := 4) (v := ?_) rfl (by kernel_rfl) (by kernel_rfl) (by kernel_rfl) (fun _ _ _ h => h) (Or.inl ⟨by kernel_rfl, ?_⟩) (by assumption) ?_
          rotate_left
          · (intro w hSw; (try dsimp only at hSw); go_simp; first | done | with_reducible rfl)
          (try simp only [Act.put, List.setIfInBounds_toArray, List.set_cons_zero, List.set_cons_succ, List.getElem_toArray, List.getElem_cons_zero, List.getElem_cons_succ])
          refine wpAnyH_take (i := 5) (v := ?_) rfl (by kernel_rfl) (by kernel_rfl) (by kernel_rfl) (fun _ _ _ h => h) (Or.inl ⟨by kernel_rfl, ?_⟩) (by assumption) ?_
          rotate_left
          · (intro w hSw; (try dsimp only at hSw); go_simp; first | done | with_reducible rfl)
          (try simp only [Act.put, List.setIfInBounds_toArray, List.set_cons_zero, List.set_cons_succ, List.getElem_toArray, List.getElem_cons_zero, List.getElem_cons_succ])
          refine wpAnyH_take (i := 6) (v := ?_) rfl (by kernel_rfl) (by kernel_rfl) (by kernel_rfl) (fun _ _ _ h => h) (Or.inl ⟨by kernel_rfl, ?_⟩) (by assumption) ?_
          rotate_left
          · (intro w hSw; (try dsimp only at hSw); go_simp; first | done | with_reducible rfl)
          (try simp only [Act.put, List.setIfInBounds_toArray, List.set_cons_zero, List.set_cons_succ, List.getElem_toArray, List.getElem_cons_zero, List.getElem_cons_succ])
          refine wpAnyH_take (i := 7) (v := ?_) rfl (by kernel_rfl) (by kernel_rfl) (by kernel_rfl) (fun _ _ _ h => h) (Or.inl ⟨by kernel_rfl, ?_⟩) (by assumption) ?_
          rotate_left
          · (intro w hSw; (try dsimp only at hSw); go_simp; first | done | with_reducible rfl)
          (try simp only [Act.put, List.setIfInBounds_toArray, List.set_cons_zero, List.set_cons_succ, List.getElem_toArray, List.getElem_cons_zero, List.getElem_cons_succ])
          refine wpAnyH_take (i := 8) (v := ?_) rfl (by kernel_rfl) (by kernel_rfl) (by kernel_rfl) (fun _ _ _ h => h) (Or.inl ⟨by kernel_rfl, ?_⟩) (by assumption) ?_
          rotate_left
          · (intro w hSw; (try dsimp only at hSw); go_simp; first | done | with_reducible rfl)
          (try simp only [Act.put, List.setIfInBounds_toArray, List.set_cons_zero, List.set_cons_succ, List.getElem_toArray, List.getElem_cons_zero, List.getElem_cons_succ])
          refine wpAnyH_take (i := 9) (v := ?_) rfl (by kernel_rfl) (by kernel_rfl) (by kernel_rfl) (fun _ _ _ h => h) (Or.inl ⟨by kernel_rfl, ?_⟩) (by assumption) ?_
          rotate_left
          · (intro w hSw; (try dsimp only at hSw); go_simp; first | done | with_reducible rfl)
          (try simp only [Act.put, List.setIfInBounds_toArray, List.set_cons_zero, List.set_cons_succ, List.getElem_toArray, List.getElem_cons_zero, List.getElem_cons_succ])
          refine wpAnyH_take (i := 12) (v := ?_) rfl (by kernel_rfl) (by kernel_rfl) (by kernel_rfl) (fun _ _ _ h => h) (Or.inl ⟨by kernel_rfl, ?_⟩) (by assumption) ?_
          rotate_left
          · (intro w hSw; (try dsimp only at hSw); go_simp; first | done | with_reducible rfl)
          (try simp only [Act.put, List.setIfInBounds_toArray, List.set_cons_zero, List.set_cons_succ, List.getElem_toArray, List.getElem_cons_zero, List.getElem_cons_succ])
          refine wpAnyH_take (i := 13) (v := ?_) rfl (by kernel_rfl) (by kernel_rfl) (by kernel_rfl) (fun _ _ _ h => h) (Or.inl ⟨by kernel_rfl, ?_⟩) (by assumption) ?_
          rotate_left
          · (intro w hSw; (try dsimp only at hSw); go_simp; first | done | with_reducible rfl)
          (try simp only [Act.put, List.setIfInBounds_toArray, List.set_cons_zero, List.set_cons_succ, List.getElem_toArray, List.getElem_cons_zero, List.getElem_cons_succ])
          refine wpAnyH_take (i := 14) (v := ?_) rfl (by kernel_rfl) (by kernel_rfl) (by kernel_rfl) (fun _ _ _ h => h) (Or.inl ⟨by kernel_rfl, ?_⟩) (by assumption) ?_
          rotate_left
          · (intro w hSw; (try dsimp only at hSw); go_simp; first | done | with_reducible rfl)
          (try simp only [Act.put, List.setIfInBounds_toArray, List.set_cons_zero, List.set_cons_succ, List.getElem_toArray, List.getElem_cons_zero, List.getElem_cons_succ])
          refine wpAnyH_take (i := 15) (v := ?_) rfl (by kernel_rfl) (by kernel_rfl) (by kernel_rfl) (fun _ _ _ h => h) (Or.inl ⟨by kernel_rfl, ?_⟩) (by assumption) ?_
          rotate_left
          · (intro w hSw; (try dsimp only at hSw); go_simp; first | done | with_reducible rfl)
          (try simp only [Act.put, List.setIfInBounds_toArray, List.set_cons_zero, List.set_cons_succ, List.getElem_toArray, List.getElem_cons_zero, List.getElem_cons_succ])
          refine wpAnyH_take (i := 16) (v := ?_) rfl (by kernel_rfl) (by kernel_rfl) (by kernel_rfl) (fun _ _ _ h => h) (Or.inl ⟨by kernel_rfl, ?_⟩) (by assumption) ?_
          rotate_left
          · (intro w hSw; (try dsimp only at hSw); go_simp; first | done | with_reducible rfl)
          (try simp only [Act.put, List.setIfInBounds_toArray, List.set_cons_zero, List.set_cons_succ, List.getElem_toArray, List.getElem_cons_zero, List.getElem_cons_succ])
          refine wpAnyH_take (i := 17) (v := ?_) rfl (by kernel_rfl) (by kernel_rfl) (by kernel_rfl) (fun _ _ _ h => h) (Or.inl ⟨by kernel_rfl, ?_⟩) (by assumption) ?_
          rotate_left
          · (intro w hSw; (try dsimp only at hSw); go_simp; first | done | with_reducible rfl)
          (try simp only [Act.put, List.setIfInBounds_toArray, List.set_cons_zero, List.set_cons_succ, List.getElem_toArray, List.getElem_cons_zero, List.getElem_cons_succ])
          refine wpAnyH_take (i := 18) (v := ?_) rfl (by kernel_rfl) (by kernel_rfl) (by kernel_rfl) (fun _ _ _ h => h) (Or.inl ⟨by kernel_rfl, ?_⟩) (by assumption) ?_
          rotate_left
          · (intro w hSw; (try dsimp only at hSw); go_simp; first | done | with_reducible rfl)
          (try simp only [Act.put, List.setIfInBounds_toArray, List.set_cons_zero, List.set_cons_succ, List.getElem_toArray, List.getElem_cons_zero, List.getElem_cons_succ])
          refine wpAnyH_take (i := 19) (v := ?_) rfl (by kernel_rfl) (by kernel_rfl) (by kernel_rfl) (fun _ _ _ h => h) (Or.inl ⟨by kernel_rfl, ?_⟩) (by assumption) ?_
          rotate_left
          · (intro w hSw; (try dsimp only at hSw); go_simp; first | done | with_reducible rfl)
          (try simp only [Act.put, List.setIfInBounds_toArray, List.set_cons_zero, List.set_cons_succ, List.getElem_toArray, List.getElem_cons_zero, List.getElem_cons_succ])
          refine wpAnyH_take (i := 20) (v := ?_) rfl (by kernel_rfl) (by kernel_rfl) (by kernel_rfl) (fun _ _ _ h => h) (Or.inl ⟨by kernel_rfl, ?_⟩) (by assumption) ?_
          rotate_left
          · (intro w hSw; (try dsimp only at hSw); go_simp; first | done | with_reducible rfl)
          (try simp only [Act.put, List.setIfInBounds_toArray, List.set_cons_zero, List.set_cons_succ, List.getElem_toArray, List.getElem_cons_zero, List.getElem_cons_succ])
          refine wpAnyH_take (i := 21) (v := ?_) rfl (by kernel_rfl) (by kernel_rfl) (by kernel_rfl) (fun _ _ _ h => h) (Or.inl ⟨by kernel_rfl, ?_⟩) (by assumption) ?_
          rotate_left
          · (intro w hSw; (try dsimp only at hSw); go_simp; first | done | with_reducible rfl)
          (try simp only [Act.put, List.setIfInBounds_toArray, List.set_cons_zero, List.set_cons_succ, List.getElem_toArray, List.getElem_cons_zero, List.getElem_cons_succ])
          refine wpAnyH_take (i := 22) (v := ?_) rfl (by kernel_rfl) (by kernel_rfl) (by kernel_rfl) (fun _ _ _ h => h) (Or.inl ⟨by kernel_rfl, ?_⟩) (by assumption) ?_
          rotate_left
          · (intro w hSw; (try dsimp only at hSw); go_simp; first | done | with_reducible rfl)
          (try simp only [Act.put, List.setIfInBounds_toArray, List.set_cons_zero, List.set_cons_succ, List.getElem_toArray, List.getElem_cons_zero, List.getElem_cons_succ])
          refine wpAnyH_take (i := 23) (v := ?_) rfl (by kernel_rfl) (by kernel_rfl) (by kernel_rfl) (fun _ _ _ h => h) (Or.inl ⟨by kernel_rfl, ?_⟩) (by assumption) ?_
          rotate_left
          · (intro w hSw; (try dsimp only at hSw); go_simp; first | done | with_reducible rfl)
          (try simp only [Act.put, List.setIfInBounds_toArray, List.set_cons_zero, List.set_cons_succ, List.getElem_toArray, List.getElem_cons_zero, List.getElem_cons_succ])
          refine wpAnyH_take (i := 24) (v := ?_) rfl (by kernel_rfl) (by kernel_rfl) (by kernel_rfl) (fun _ _ _ h => h) (Or.inl ⟨by kernel_rfl, ?_⟩) (by assumption) ?_
          rotate_left
          · (intro w hSw; (try dsimp only at hSw); go_simp; first | done | with_reducible rfl)
          (try simp only [Act.put, List.setIfInBounds_toArray, List.set_cons_zero, List.set_cons_succ, List.getElem_toArray, List.getElem_cons_zero, List.getElem_cons_succ])
          refine wpAnyH_take (i := 25) (v := ?_) rfl (by kernel_rfl) (by kernel_rfl) (by kernel_rfl) (fun _ _ _ h => h) (Or.inl ⟨by kernel_rfl, ?_⟩) (by assumption) ?_
          rotate_left
          · (intro w hSw; (try dsimp only at hSw); go_simp; first | done | with_reducible rfl)
          (try simp only [Act.put, List.setIfInBounds_toArray, List.set_cons_zero, List.set_cons_succ, List.getElem_toArray, List.getElem_cons_zero, List.getElem_cons_succ])
          refine wpAnyH_take (i := 26) (v := ?_) rfl (by kernel_rfl) (by kernel_rfl) (by kernel_rfl) (fun _ _ _ h => h) (Or.inl ⟨by kernel_rfl, ?_⟩) (by assumption) ?_
          rotate_left
          · (intro w hSw; (try dsimp only at hSw); go_simp; first | done | with_reducible rfl)
          (try simp only [Act.put, List.setIfInBounds_toArray, List.set_cons_zero, List.set_cons_succ, List.getElem_toArray, List.getElem_cons_zero, List.getElem_cons_succ])
          refine wpAnyH_take (i := 27) (v := ?_) rfl (by kernel_rfl) (by kernel_rfl) (by kernel_rfl) (fun _ _ _ h => h) (Or.inl ⟨by kernel_rfl, ?_⟩) (by assumption) ?_
          rotate_left
          · (intro w hSw; (try dsimp only at hSw); go_simp; first | done | with_reducible rfl)
          (try simp only [Act.put, List.setIfInBounds_toArray, List.set_cons_zero, List.set_cons_succ, List.getElem_toArray, List.getElem_cons_zero, List.getElem_cons_succ])
          refine wpAnyH_take (i := 28) (v := ?_) rfl (by kernel_rfl) (by kernel_rfl) (by kernel_rfl) (fun _ _ _ h => h) (Or.inl ⟨by kernel_rfl, ?_⟩) (by assumption) ?_
          rotate_left
          · (intro w hSw; (try dsimp only at hSw); go_simp; first | done | with_reducible rfl)
          (try simp only [Act.put, List.setIfInBounds_toArray, List.set_cons_zero, List.set_cons_succ, List.getElem_toArray, List.getElem_cons_zero, List.getElem_cons_succ])
          refine wpAnyH_take (i := 29) (v := ?_) rfl (by kernel_rfl) (by kernel_rfl) (by kernel_rfl) (fun _ _ _ h => h) (Or.inl ⟨by kernel_rfl, ?_⟩) (by assumption) ?_
          rotate_left
          · (intro w hSw; (try dsimp only at hSw); go_simp; first | done | with_reducible rfl)
          (try simp only [Act.put, List.setIfInBounds_toArray, List.set_cons_zero, List.set_cons_succ, List.getElem_toArray, List.getElem_cons_zero, List.getElem_cons_succ])
          refine wpAnyH_ready (rs := [10]) (by kernel_rfl) (by simp) ?_
          refine AllReadyH.cons rfl (fun KK hKK => ?_) AllReadyH.nil
          go_simp
          refine (refpow_any 2 (q1 : Int) (by omega) (by omega) (by omega) _).mono ?_
          rw [show gpow (2 : Int).toNat ((q1 : Int)).toNat = G from HG.out]
          rintro e w3 ⟨rfl, rfl⟩
          go_wp2_with fail
          refine hKK.out _ _ ?_ (fun hHeld => ?_)
          · (exact ⟨x0, x1, x2, x3, z0, z1, z2, z3⟩)
          clear hKK KK
          (try simp only [Act.put, List.setIfInBounds_toArray, List.set_cons_zero, List.set_cons_succ, List.getElem_toArray, List.getElem_cons_zero, List.getElem_cons_succ])
          refine wpAnyH_take (i := 11) (v := ?_) rfl (by kernel_rfl) (by kernel_rfl) (by kernel_rfl) (fun _ _ _ h => h) (Or.inl ⟨by kernel_rfl, ?_⟩) (by assumption) ?_
          rotate_left
          · (intro w hSw; (try dsimp only at hSw); go_simp; first | done | with_reducible rfl)
          (try simp only [Act.put, List.setIfInBounds_toArray, List.set_cons_zero, List.set_cons_succ, List.getElem_toArray, List.getElem_cons_zero, List.getElem_cons_succ])
          refine wpAnyH_ready (rs := [30]) (by kernel_rfl) (by simp) ?_
          refine AllReadyH.cons rfl (fun KK hKK => ?_) AllReadyH.nil
          go_simp
          refine hKK.out _ _ ?_ (fun hHeld => ?_)
          · (exact ⟨cell_new _ x0, cell_new _ x1, cell_new _ x2, cell_new _ x3, cell_new _ z0, cell_new _ z1, cell_new _ z2, cell_new _ z3⟩)
          clear hKK KK
          (try simp only [Act.put, List.setIfInBounds_toArray, List.set_cons_zero, List.set_cons_succ, List.getElem_toArray, List.getElem_cons_zero, List.getElem_cons_succ])
          refine wpAnyH_take (i := 31) (v := ?_) rfl (by kernel_rfl) (by kernel_rfl) (by kernel_rfl) (fun _ _ _ h => h) (Or.inl ⟨by kernel_rfl, ?_⟩) (by assumption) ?_
          rotate_left
          · (intro w hSw; (try dsimp only at hSw); go_simp; first | done | with_reducible rfl)
          (try simp only [Act.put, List.setIfInBounds_toArray, List.set_cons_zero, List.set_cons_succ, List.getElem_toArray, List.getElem_cons_zero, List.getElem_cons_succ])
          refine wpAnyH_done (by kernel_rfl) ?_ _
          clear x0 x1 x2 x3 z0 z1 z2 z3 u0 u1 u2 u3 hq1w hq2w hxr hm cell1e hwi1 HOT HBT hgtb hgtl
          have HOT := HON
          have HBT := HBN
          go_wp2_with fail
          go_loopw [9] (fun jv wi => ∃ j : Nat, j ≤ 4 ∧ jv = .int .i64 (j : Int) ∧ Own wi 5 wq.heap.size (.slice (some ⟨w2.heap.size, 0, none⟩) 4 4) (upto j (lay Tn Kn) Tn) ∧ Below wq.heap.size wq wi) (fun jv _ => 4 - (intOf jv).toNat)
          case atStart => exact ⟨0, by omega, rfl, HOT.out, HBT.out⟩
          case round =>
            obtain ⟨j, hj, rfl, hO, hb⟩ := hrel
            clear HOT HBT
            have HO := Lib.hid hO
            have HBJ := Lib.hid hb
            clear hO hb
            by_cases hj4 : j < 4
            · have hul := upto_len4 HLL.out HTN.out (i := j) hj
              obtain ⟨hg1, hg2, c0, f0, hset⟩ := HO.out.at_g (i := j) (by rw [hul]; exact hj4)
              rw [upto_at4 HLL.out HTN.out hj4] at c0
              have hs := hset (at_ (lay Tn Kn) j)
              rw [upto_set4 HLL.out HTN.out hj4, lay_at4 (by rw [HTN.out]; exact hj4) (by rw [HKL.out]; exact hj4)] at hs
              have e1 := (HBJ.out.cell (p := ad.add p2) (by rw [add_block]; exact HADL.out)).trans HC2.out
              have e2 := (HBJ.out.cell (p := adK.add j) (by rw [add_block]; exact HSK.out)).trans (HKC.out j hj4)
              have hx := u8x (at_ Tn j) (at_ Kn j)
              have hbs := below_setCell_ HBJ.out (p := ⟨w2.heap.size, j, none⟩) hg1 (bv (at_ Tn j ^^^ at_ Kn j))
              rw [bv_int] at c0 e2 hs hbs
              generalize (at_ Tn j ^^^ at_ Kn j).toNat = x2 at *
              generalize (at_ Tn j).toNat = x0 at *
              generalize (at_ Kn j).toNat = x1 at *
              have HS1 := Lib.hid hs
              have HBS := Lib.hid hbs
              have hw2 := HW2.out
              have hji : (j : Int) < 4 := by omega
              clear hset hs hbs hul
              go_wp2_with fail
              refine wp_region_last (S := fun w' => w'.cell? ⟨w2.heap.size, j, none⟩ = some (.int .u8 (x0 : Int)) ∧ w'.cell? (ad.add p2) = some (.slice (some adK) 4 cK) ∧ w'.cell? (adK.add j) = some (.int .u8 (x1 : Int))) 17 (by kernel_rfl) (⟨c0, e1, e2⟩) (fun hHeld => ?_)
              refine wpAnyS_take (i := 0) (v := ?_) rfl (by kernel_rfl) (by kernel_rfl) (by kernel_rfl) (by kernel_rfl) (fun _ _ _ h => h) (Or.inl ⟨by kernel_rfl, ?_⟩) (by assumption) ?_
              rotate_left
              · (intro w hSw; (try dsimp only at hSw); go_simp; first | done | with_reducible rfl)
              (try simp only [Act.put, List.setIfInBounds_toArray, List.set_cons_zero, List.set_cons_succ, List.getElem_toArray, List.getElem_cons_zero, List.getElem_cons_succ])
              refine wpAnyS_take (i := 1) (v := ?_) rfl (by kernel_rfl) (by kernel_rfl) (by kernel_rfl) (by kernel_rfl) (fun _ _ _ h => h) (Or.inl ⟨by kernel_rfl, ?_⟩) (by assumption) ?_
              rotate_left
              · (intro w hSw; (try dsimp only at hSw); go_simp; first | done | with_reducible rfl)
              (try simp only [Act.put, List.setIfInBounds_toArray, List.set_cons_zero, List.set_cons_succ, List.getElem_toArray, List.getElem_cons_zero, List.getElem_cons_succ])
              refine wpAnyS_take (i := 2) (v := ?_) rfl (by kernel_rfl) (by kernel_rfl) (by kernel_rfl) (by kernel_rfl) (fun _ _ _ h => h) (Or.inl ⟨by kernel_rfl, ?_⟩) (by assumption) ?_
              rotate_left
              · (intro w hSw; (try dsimp only at hSw); go_simp; first | done | with_reducible rfl)
              (try simp only [Act.put, List.setIfInBounds_toArray, List.set_cons_zero, List.set_cons_succ, List.getElem_toArray, List.getElem_cons_zero, List.getElem_cons_succ])
              refine wpAnyS_take (i := 3) (v := ?_) rfl (by kernel_rfl) (by kernel_rfl) (by kernel_rfl) (by kernel_rfl) (fun _ _ _ h => h) (Or.inl ⟨by kernel_rfl, ?_⟩) (by assumption) ?_
              rotate_left
              · (intro w hSw; (try dsimp only at hSw); go_simp; first | done | with_reducible rfl)
              (try simp only [Act.put, List.setIfInBounds_toArray, List.set_cons_zero, List.set_cons_succ, List.getElem_toArray, List.getElem_cons_zero, List.getElem_cons_succ])
              refine wpAnyS_take (i := 4) (v := ?_) rfl (by kernel_rfl) (by kernel_rfl) (by kernel_rfl) (by kernel_rfl) (fun _ _ _ h => h) (Or.inl ⟨by kernel_rfl, ?_⟩) (by assumption) ?_
              rotate_left
              · (intro w hSw; (try dsimp only at hSw); go_simp; first | done | with_reducible rfl)
              (try simp only [Act.put, List.setIfInBounds_toArray, List.set_cons_zero, List.set_cons_succ, List.getElem_toArray, List.getElem_cons_zero, List.getElem_cons_succ])
              refine wpAnyS_take (i := 5) (v := ?_) rfl (by kernel_rfl) (by kernel_rfl) (by kernel_rfl) (by kernel_rfl) (fun _ _ _ h => h) (Or.inl ⟨by kernel_rfl, ?_⟩) (by assumption) ?_
              rotate_left
              · (intro w hSw; (try dsimp only at hSw); go_simp; first | done | with_reducible rfl)
              (try simp only [Act.put, List.setIfInBounds_toArray, List.set_cons_zero, List.set_cons_succ, List.getElem_toArray, List.getElem_cons_zero, List.getElem_cons_succ])
              refine wpAnyS_take (i := 6) (v := ?_) rfl (by kernel_rfl) (by kernel_rfl) (by kernel_rfl) (by kernel_rfl) (fun _ _ _ h => h) (Or.inl ⟨by kernel_rfl, ?_⟩) (by assumption) ?_
              rotate_left
              · (intro w hSw; (try dsimp only at hSw); go_simp; first | done | with_reducible rfl)
              (try simp only [Act.put, List.setIfInBounds_toArray, List.set_cons_zero, List.set_cons_succ, List.getElem_toArray, List.getElem_cons_zero, List.getElem_cons_succ])
              refine wpAnyS_take (i := 7) (v := ?_) rfl (by kernel_rfl) (by kernel_rfl) (by kernel_rfl) (by kernel_rfl) (fun _ _ _ h => h) (Or.inl ⟨by kernel_rfl, ?_⟩) (by assumption) ?_
              rotate_left
              · (intro w hSw; (try dsimp only at hSw); go_simp; first | done | with_reducible rfl)
              (try simp only [Act.put, List.setIfInBounds_toArray, List.set_cons_zero, List.set_cons_succ, List.getElem_toArray, List.getElem_cons_zero, List.getElem_cons_succ])
              refine wpAnyS_take (i := 8) (v := ?_) rfl (by kernel_rfl) (by kernel_rfl) (by kernel_rfl) (by kernel_rfl) (fun _ _ _ h => h) (Or.inl ⟨by kernel_rfl, ?_⟩) (by assumption) ?_
              rotate_left
              · (intro w hSw; (try dsimp only at hSw); go_simp; first | done | with_reducible rfl)
              (try simp only [Act.put, List.setIfInBounds_toArray, List.set_cons_zero, List.set_cons_succ, List.getElem_toArray, List.getElem_cons_zero, List.getElem_cons_succ])
              refine wpAnyS_take (i := 9) (v := ?_) rfl (by kernel_rfl) (by kernel_rfl) (by kernel_rfl) (by kernel_rfl) (fun _ _ _ h => h) (Or.inl ⟨by kernel_rfl, ?_⟩) (by assumption) ?_
              rotate_left
              · (intro w hSw; (try dsimp only at hSw); go_simp; first | done | with_reducible rfl)
              (try simp only [Act.put, List.setIfInBounds_toArray, List.set_cons_zero, List.set_cons_succ, List.getElem_toArray, List.getElem_cons_zero, List.getElem_cons_succ])
              refine wpAnyS_take (i := 10) (v := ?_) rfl (by kernel_rfl) (by kernel_rfl) (by kernel_rfl) (by kernel_rfl) (fun _ _ _ h => h) (Or.inl ⟨by kernel_rfl, ?_⟩) (by assumption) ?_
              rotate_left
              · (intro w hSw; (try dsimp only at hSw); go_simp; first | done | with_reducible rfl)
              (try simp only [Act.put, List.setIfInBounds_toArray, List.set_cons_zero, List.set_cons_succ, List.getElem_toArray, List.getElem_cons_zero, List.getElem_cons_succ])
              refine wpAnyS_take (i := 11) (v := ?_) rfl (by kernel_rfl) (by kernel_rfl) (by kernel_rfl) (by kernel_rfl) (fun _ _ _ h => h) (Or.inl ⟨by kernel_rfl, ?_⟩) (by assumption) ?_
              rotate_left
              · (intro w hSw; (try dsimp only at hSw); go_simp; first | done | with_reducible rfl)
              (try simp only [Act.put, List.setIfInBounds_toArray, List.set_cons_zero, List.set_cons_succ, List.getElem_toArray, List.getElem_cons_zero, List.getElem_cons_succ])
              refine wpAnyS_take (i := 12) (v := ?_) rfl (by kernel_rfl) (by kernel_rfl) (by kernel_rfl) (by kernel_rfl) (fun _ _ _ h => h) (Or.inl ⟨by kernel_rfl, ?_⟩) (by assumption) ?_
              rotate_left
              · (intro w hSw; (try dsimp only at hSw); go_simp; first | done | with_reducible rfl)
              (try simp only [Act.put, List.setIfInBounds_toArray, List.set_cons_zero, List.set_cons_succ, List.getElem_toArray, List.getElem_cons_zero, List.getElem_cons_succ])
              refine wpAnyS_take (i := 13) (v := ?_) rfl (by kernel_rfl) (by kernel_rfl) (by kernel_rfl) (by kernel_rfl) (fun _ _ _ h => h) (Or.inl ⟨by kernel_rfl, ?_⟩) (by assumption) ?_
              rotate_left
              · (intro w hSw; (try dsimp only at hSw); go_simp; first | done | with_reducible rfl)
              (try simp only [Act.put, List.setIfInBounds_toArray, List.set_cons_zero, List.set_cons_succ, List.getElem_toArray, List.getElem_cons_zero, List.getElem_cons_succ])
              refine wpAnyS_take (i := 14) (v := ?_) rfl (by kernel_rfl) (by kernel_rfl) (by kernel_rfl) (by kernel_rfl) (fun _ _ _ h => h) (Or.inl ⟨by kernel_rfl, ?_⟩) (by assumption) ?_
              rotate_left
              · (intro w hSw; (try dsimp only at hSw); go_simp; first | done | with_reducible rfl)
              (try simp only [Act.put, List.setIfInBounds_toArray, List.set_cons_zero, List.set_cons_succ, List.getElem_toArray, List.getElem_cons_zero, List.getElem_cons_succ])
              refine wpAnyS_take (i := 15) (v := ?_) rfl (by kernel_rfl) (by kernel_rfl) (by kernel_rfl) (by kernel_rfl) (fun _ _ _ h => h) (Or.inl ⟨by kernel_rfl, ?_⟩) (by assumption) ?_
              rotate_left
              · (intro w hSw; (try dsimp only at hSw); go_simp; first | done | with_reducible rfl)
              (try simp only [Act.put, List.setIfInBounds_toArray, List.set_cons_zero, List.set_cons_succ, List.getElem_toArray, List.getElem_cons_zero, List.getElem_cons_succ])
              refine wpAnyS_take (i := 16) (v := ?_) rfl (by kernel_rfl) (by kernel_rfl) (by kernel_rfl) (by kernel_rfl) (fun _ _ _ h => h) (Or.inl ⟨by kernel_rfl, ?_⟩) (by assumption) ?_
              rotate_left
              · (intro w hSw; (try dsimp only at hSw); go_simp; first | done | with_reducible rfl)
              (try simp only [Act.put, List.setIfInBounds_toArray, List.set_cons_zero, List.set_cons_succ, List.getElem_toArray, List.getElem_cons_zero, List.getElem_cons_succ])
              refine wpAnyS_last (by kernel_rfl) rfl (by kernel_rfl) (fun KK hKK => ?_)
              go_simp
              refine hKK.out _ _ ?_
              clear hKK KK
              (try simp only [Act.put, List.setIfInBounds_toArray, List.set_cons_zero, List.set_cons_succ, List.getElem_toArray, List.getElem_cons_zero, List.getElem_cons_succ])
              clear hw2 hx
              go_wp2_with fail
              go_roundw
              case rel => exact ⟨j + 1, by omega, by go_num, HS1.out, HBS.out.drew⟩
              case measure => simp [intOf]; omega
            · have hj4 : j = 4 := by omega
              subst hj4
              have hO := HO.out
              rw [uptoN_all HLL.out HTN.out] at hO
              have HO2 := Lib.hid hO
              have HOA := Lib.hid (rws_own HRW.out HBJ.out (.cells #[.slice (some ⟨w2.heap.size, 0, none⟩) 4 4] 22))
              have hz2 : w.heap.size ≤ (wr.alloc (.cells #[.slice (some ⟨w2.heap.size, 0, none⟩) 4 4] 22)).heap.size := by have := HBJ.out.size; simp; omega
              clear hO HO
              go_wp2_with (with_reducible refine at_slot 137 ?_
                           refine wpList_append_v eqv rfl (.tmp 134) (.tmp 136) rfl w.heap.size _ vs _ 1 1 [.slice (some ⟨w2.heap.size, 0, none⟩) 4 4] rfl rfl HOA.out rfl (src_row wr _ _) (by intro u hu; simp only [List.mem_singleton] at hu; subst hu; exact slice_one _ _ _) (by rw [HVL.out]; omega) (by rw [HVL.out]; omega) hz2 ?_
                           intro v4 w4 hO4 hg4 hat4
                           obtain ⟨hp4, hF4⟩ := rws_app HRW.out hzr HBJ.out HO2.out (Nat.le_refl _) _ hO4 hg4 hat4
                           rw [← HST.out] at hp4
                           have hb4 := HB.out.trans (rws_below HRW.out hzr hF4)
                           have HP4 := Lib.hid hp4
                           have HB4 := Lib.hid hb4
                           clear hO4 hg4 hat4 hp4 hF4 hb4)
              go_roundw
              case rel => exact ⟨i + 1, by omega, by go_num, ⟨_, HP4.out⟩, HB4.out⟩
              case measure => simp [intOf]; omega
        · by_cases hB : n = 8 ∧ i % 8 = 4
          · skip
            obtain ⟨h8, h84⟩ := hB
            subst h8
            rw [show ((8 : Nat) : Int) = 8 from rfl]
            have hm : (i : Int) % 8 = 4 := by omega
            have hni8 : ¬ (i : Int) < 8 := by omega
            have hl60 : (i : Int) < 60 := by omega
            have HW2 := Lib.hid (show IntKind.i64.wrap ((i : Int) - 8) = (p2 : Int) from HW2.out)
            have hte := HTE.out
            unfold turnW at hte
            rw [if_neg hA, if_pos ⟨rfl, h84⟩] at hte
            have HTT := Lib.hid hte
            clear hte hA h84
            go_wp2_with (with_reducible refine at_slot 45 ?_
                         refine wpList_append_u8 Go.Proofs.YtcbihjcnnfohmaaGreat.u8 rfl (.tmp 39) (.tmp 44) rfl wq.heap.size _ [] _ 4 _ T0 _ rfl rfl HE.out ((HRT.out.below HEB.out).more HEB.out.size) HTL.out (by simp) (by simp) ?_
                         intro v2 w2 hO2 hg2 hat2
                         rw [List.nil_append] at hO2
                         have hb2 : Below wq.heap.size wq w2 := HEB.out.grown hg2 (by simp) (fun x hx => (HE.out.lt x hx).1)
                         obtain ⟨gt, ct, hvx, hgtb, hgtl, _⟩ := hO2.at_ (i := 0) (by rw [HTL.out]; omega)
                         rw [HTL.out] at hvx
                         subst hvx
                         have HOT := Lib.hid hO2
                         have HBT := Lib.hid hb2
                         clear hO2 hg2 hat2 hb2)
            have hbw := HB.out.trans (HBT.out.mono hzr)
            have x0 := own_at4 HOT.out (i := 0) (by rw [HTL.out]; omega)
            have x1 := own_at4 HOT.out (i := 1) (by rw [HTL.out]; omega)
            have x2 := own_at4 HOT.out (i := 2) (by rw [HTL.out]; omega)
            have x3 := own_at4 HOT.out (i := 3) (by rw [HTL.out]; omega)
            have z0 := (hbw.cell (p := ad2.add (at_ T0 0).toNat) (by rw [add_block]; exact hs2)).trans (HX2.out (at_ T0 0))
            have z1 := (hbw.cell (p := ad2.add (at_ T0 1).toNat) (by rw [add_block]; exact hs2)).trans (HX2.out (at_ T0 1))
            have z2 := (hbw.cell (p := ad2.add (at_ T0 2).toNat) (by rw [add_block]; exact hs2)).trans (HX2.out (at_ T0 2))
            have z3 := (hbw.cell (p := ad2.add (at_ T0 3).toNat) (by rw [add_block]; exact hs2)).trans (HX2.out (at_ T0 3))
            have u0 : ((at_ T0 0).toNat : Int) < 256 := by have := (at_ T0 0).toNat_lt; omega
            have u1 : ((at_ T0 1).toNat : Int) < 256 := by have := (at_ T0 1).toNat_lt; omega
            have u2 : ((at_ T0 2).toNat : Int) < 256 := by have := (at_ T0 2).toNat_lt; omega
            have u3 : ((at_ T0 3).toNat : Int) < 256 := by have := (at_ T0 3).toNat_lt; omega
            have hoN := own_four (w := w2.drew) (base := wq.heap.size) HBT.out.size (sb (at_ T0 0)) (sb (at_ T0 1)) (sb (at_ T0 2)) (sb (at_ T0 3))
            rw [HTT.out] at hoN
            rw [bv_int] at x0 x1 x2 x3 z0 z1 z2 z3
            generalize (sb (at_ T0 0)).toNat = s0 at *
            generalize (sb (at_ T0 1)).toNat = s1 at *
            generalize (sb (at_ T0 2)).toNat = s2 at *
            generalize (sb (at_ T0 3)).toNat = s3 at *
            generalize (at_ T0 0).toNat = y0 at *
            generalize (at_ T0 1).toNat = y1 at *
            generalize (at_ T0 2).toNat = y2 at *
            generalize (at_ T0 3).toNat = y3 at *
            have hbN := HBT.out.drew.alloc HBT.out.size (.cells #[.int .u8 (s0 : Int), .int .u8 (s1 : Int), .int .u8 (s2 : Int), .int .u8 (s3 : Int)] 5)
            have HON := Lib.hid hoN
            have HBN := Lib.hid hbN
            clear hoN hbN hbw
            refine wp_region_held_drew (S := fun w' => w'.cell? ⟨gt, 0, none⟩ = some (.int .u8 (y0 : Int)) ∧ w'.cell? ⟨gt, 1, none⟩ = some (.int .u8 (y1 : Int)) ∧ w'.cell? ⟨gt, 2, none⟩ = some (.int .u8 (y2 : Int)) ∧ w'.cell? ⟨gt, 3, none⟩ = some (.int .u8 (y3 : Int)) ∧ w'.cell? (ad2.add y0) = some (.int .u8 (s0 : Int)) ∧ w'.cell? (ad2.add y1) = some (.int .u8 (s1 : Int)) ∧ w'.cell? (ad2.add y2) = some (.int .u8 (s2 : Int)) ∧ w'.cell? (ad2.add y3) = some (.int .u8 (s3 : Int))) (by kernel_rfl) (⟨x0, x1, x2, x3, z0, z1, z2, z3⟩) (fun hHeld => ?_)
            refine wpAnyH_take (i := 0) (v := ?_) rfl (by kernel_rfl) (by kernel_rfl) (by kernel_rfl) (fun _ _ _ h => h) (Or.inl ⟨by kernel_rfl, ?_⟩) (by assumption) ?_
            rotate_left
            · (intro w hSw; (try dsimp only at hSw); go_simp; first | done | with_reducible rfl)
            (try simp only [Act.put, List.setIfInBounds_toArray, List.set_cons_zero, List.set_cons_succ, List.getElem_toArray, List.getElem_cons_zero, List.getElem_cons_succ])
            refine wpAnyH_take (i := 1) (v := ?_) rfl (by kernel_rfl) (by kernel_rfl) (by kernel_rfl) (fun _ _ _ h => h) (Or.inl ⟨by kernel_rfl, ?_⟩) (by assumption) ?_
            rotate_left
            · (intro w hSw; (try dsimp only at hSw); go_simp; first | done | with_reducible rfl)
            (try simp only [Act.put, List.setIfInBounds_toArray, List.set_cons_zero, List.set_cons_succ, List.getElem_toArray, List.getElem_cons_zero, List.getElem_cons_succ])
            refine wpAnyH_take (i := 2) (v := ?_) rfl (by kernel_rfl) (by kernel_rfl) (by kernel_rfl) (fun _ _ _ h => h) (Or.inl ⟨by kernel_rfl, ?_⟩) (by assumption) ?_
            rotate_left
            · (intro w hSw; (try dsimp only at hSw); go_simp; first | done | with_reducible rfl)
            (try simp only [Act.put, List.setIfInBounds_toArray, List.set_cons_zero, List.set_cons_succ, List.getElem_toArray, List.getElem_cons_zero, List.getElem_cons_succ])
            refine wpAnyH_take (i := 3) (v := ?_) rfl (by kernel_rfl) (by kernel_rfl) (by kernel_rfl) (fun _ _ _ h => h) (Or.inl ⟨by kernel_rfl, ?_⟩) (by assumption) ?_
            rotate_left
            · (intro w hSw; (try dsimp only at hSw); go_simp; first | done | with_reducible rfl)
            (try simp only [Act.put, List.setIfInBounds_toArray, List.set_cons_zero, List.set_cons_succ, List.getElem_toArray, List.getElem_cons_zero, List.getElem_cons_succ])
            refine wpAnyH_take (i := 4) (v := ?_) rfl (by kernel_rfl) (by kernel_rfl) (by kernel_rfl) (fun _ _ _ h => h) (Or.inl ⟨by kernel_rfl, ?_⟩) (by assumption) ?_
            rotate_left
            · (intro w hSw; (try dsimp only at hSw); go_simp; first | done | with_reducible rfl)
            (try simp only [Act.put, List.setIfInBounds_toArray, List.set_cons_zero, List.set_cons_succ, List.getElem_toArray, List.getElem_cons_zero, List.getElem_cons_succ])
            refine wpAnyH_take (i := 5) (v := ?_) rfl (by kernel_rfl) (by kernel_rfl) (by kernel_rfl) (fun _ _ _ h => h) (Or.inl ⟨by kernel_rfl, ?_⟩) (by assumption) ?_
            rotate_left
            · (intro w hSw; (try dsimp only at hSw); go_simp; first | done | with_reducible rfl)
            (try simp only [Act.put, List.setIfInBounds_toArray, List.set_cons_zero, List.set_cons_succ, List.getElem_toArray, List.getElem_cons_zero, List.getElem_cons_succ])
            refine wpAnyH_take (i := 6) (v := ?_) rfl (by kernel_rfl) (by kernel_rfl) (by kernel_rfl) (fun _ _ _ h => h) (Or.inl ⟨by kernel_rfl, ?_⟩) (by assumption) ?_
            rotate_left
            · (intro w hSw; (try dsimp only at hSw); go_simp; first | done | with_reducible rfl)
            (try simp only [Act.put, List.setIfInBounds_toArray, List.set_cons_zero, List.set_cons_succ, List.getElem_toArray, List.getElem_cons_zero, List.getElem_cons_succ])
            refine wpAnyH_take (i := 7) (v := ?_) rfl (by kernel_rfl) (by kernel_rfl) (by kernel_rfl) (fun _ _ _ h => h) (Or.inl ⟨by kernel_rfl, ?_⟩) (by assumption) ?_
            rotate_left
            · (intro w hSw; (try dsimp only at hSw); go_simp; first | done | with_reducible rfl)
            (try simp only [Act.put, List.setIfInBounds_toArray, List.set_cons_zero, List.set_cons_succ, List.getElem_toArray, List.getElem_cons_zero, List.getElem_cons_succ])
            refine wpAnyH_take (i := 8) (v := ?_) rfl (by kernel_rfl) (by kernel_rfl) (by kernel_rfl) (fun _ _ _ h => h) (Or.inl ⟨by kernel_rfl, ?_⟩) (by assumption) ?_
            rotate_left
            · (intro w hSw; (try dsimp only at hSw); go_simp; first | done | with_reducible rfl)
            (try simp only [Act.put, List.setIfInBounds_toArray, List.set_cons_zero, List.set_cons_succ, List.getElem_toArray, List.getElem_cons_zero, List.getElem_cons_succ])
            refine wpAnyH_take (i := 9) (v := ?_) rfl (by kernel_rfl) (by kernel_rfl) (by kernel_rfl) (fun _ _ _ h => h) (Or.inl ⟨by kernel_rfl, ?_⟩) (by assumption) ?_
            rotate_left
            · (intro w hSw; (try dsimp only at hSw); go_simp; first | done | with_reducible rfl)
            (try simp only [Act.put, List.setIfInBounds_toArray, List.set_cons_zero, List.set_cons_succ, List.getElem_toArray, List.getElem_cons_zero, List.getElem_cons_succ])
            refine wpAnyH_take (i := 10) (v := ?_) rfl (by kernel_rfl) (by kernel_rfl) (by kernel_rfl) (fun _ _ _ h => h) (Or.inl ⟨by kernel_rfl, ?_⟩) (by assumption) ?_
            rotate_left
            · (intro w hSw; (try dsimp only at hSw); go_simp; first | done | with_reducible rfl)
            (try simp only [Act.put, List.setIfInBounds_toArray, List.set_cons_zero, List.set_cons_succ, List.getElem_toArray, List.getElem_cons_zero, List.getElem_cons_succ])
            refine wpAnyH_take (i := 11) (v := ?_) rfl (by kernel_rfl) (by kernel_rfl) (by kernel_rfl) (fun _ _ _ h => h) (Or.inl ⟨by kernel_rfl, ?_⟩) (by assumption) ?_
            rotate_left
            · (intro w hSw; (try dsimp only at hSw); go_simp; first | done | with_reducible rfl)
            (try simp only [Act.put, List.setIfInBounds_toArray, List.set_cons_zero, List.set_cons_succ, List.getElem_toArray, List.getElem_cons_zero, List.getElem_cons_succ])
            refine wpAnyH_take (i := 12) (v := ?_) rfl (by kernel_rfl) (by kernel_rfl) (by kernel_rfl) (fun _ _ _ h => h) (Or.inl ⟨by kernel_rfl, ?_⟩) (by assumption) ?_
            rotate_left
            · (intro w hSw; (try dsimp only at hSw); go_simp; first | done | with_reducible rfl)
            (try simp only [Act.put, List.setIfInBounds_toArray, List.set_cons_zero, List.set_cons_succ, List.getElem_toArray, List.getElem_cons_zero, List.getElem_cons_succ])
            refine wpAnyH_take (i := 13) (v := ?_) rfl (by kernel_rfl) (by kernel_rfl) (by kernel_rfl) (fun _ _ _ h => h) (Or.inl ⟨by kernel_rfl, ?_⟩) (by assumption) ?_
            rotate_left
            · (intro w hSw; (try dsimp only at hSw); go_simp; first | done | with_reducible rfl)
            (try simp only [Act.put, List.setIfInBounds_toArray, List.set_cons_zero, List.set_cons_succ, List.getElem_toArray, List.getElem_cons_zero, List.getElem_cons_succ])
            refine wpAnyH_take (i := 14) (v := ?_) rfl (by kernel_rfl) (by kernel_rfl) (by kernel_rfl) (fun _ _ _ h => h) (Or.inl ⟨by kernel_rfl, ?_⟩) (by assumption) ?_
            rotate_left
            · (intro w hSw; (try dsimp only at hSw); go_simp; first | done | with_reducible rfl)
            (try simp only [Act.put, List.setIfInBounds_toArray, List.set_cons_zero, List.set_cons_succ, List.getElem_toArray, List.getElem_cons_zero, List.getElem_cons_succ])
            refine wpAnyH_take (i := 15) (v := ?_) rfl (by kernel_rfl) (by kernel_rfl) (by kernel_rfl) (fun _ _ _ h => h) (Or.inl ⟨by kernel_rfl, ?_⟩) (by assumption) ?_
            rotate_left
            · (intro w hSw; (try dsimp only at hSw); go_simp; first | done | with_reducible rfl)
            (try simp only [Act.put, List.setIfInBounds_toArray, List.set_cons_zero, List.set_cons_succ, List.getElem_toArray, List.getElem_cons_zero, List.getElem_cons_succ])
            refine wpAnyH_take (i := 16) (v := ?_) rfl (by kernel_rfl) (by kernel_rfl) (by kernel_rfl) (fun _ _ _ h => h) (Or.inl ⟨by kernel_rfl, ?_⟩) (by assumption) ?_
            rotate_left
            · (intro w hSw; (try dsimp only at hSw); go_simp; first | done | with_reducible rfl)
            (try simp only [Act.put, List.setIfInBounds_toArray, List.set_cons_zero, List.set_cons_succ, List.getElem_toArray, List.getElem_cons_zero, List.getElem_cons_succ])
            refine wpAnyH_take (i := 17) (v := ?_) rfl (by kernel_rfl) (by kernel_rfl) (by kernel_rfl) (fun _ _ _ h => h) (Or.inl ⟨by kernel_rfl, ?_⟩) (by assumption) ?_
            rotate_left
            · (intro w hSw; (try dsimp only at hSw); go_simp; first | done | with_reducible rfl)
            (try simp only [Act.put, List.setIfInBounds_toArray, List.set_cons_zero, List.set_cons_succ, List.getElem_toArray, List.getElem_cons_zero, List.getElem_cons_succ])
            refine wpAnyH_take (i := 18) (v := ?_) rfl (by kernel_rfl) (by kernel_rfl) (by kernel_rfl) (fun _ _ _ h => h) (Or.inl ⟨by kernel_rfl, ?_⟩) (by assumption) ?_
            rotate_left
            · (intro w hSw; (try dsimp only at hSw); go_simp; first | done | with_reducible rfl)
            (try simp only [Act.put, List.setIfInBounds_toArray, List.set_cons_zero, List.set_cons_succ, List.getElem_toArray, List.getElem_cons_zero, List.getElem_cons_succ])
            refine wpAnyH_take (i := 19) (v := ?_) rfl (by kernel_rfl) (by kernel_rfl) (by kernel_rfl) (fun _ _ _ h => h) (Or.inl ⟨by kernel_rfl, ?_⟩) (by assumption) ?_
            rotate_left
            · (intro w hSw; (try dsimp only at hSw); go_simp; first | done | with_reducible rfl)
            (try simp only [Act.put, List.setIfInBounds_toArray, List.set_cons_zero, List.set_cons_succ, List.getElem_toArray, List.getElem_cons_zero, List.getElem_cons_succ])
            refine wpAnyH_take (i := 20) (v := ?_) rfl (by kernel_rfl) (by kernel_rfl) (by kernel_rfl) (fun _ _ _ h => h) (Or.inl ⟨by kernel_rfl, ?_⟩) (by assumption) ?_
            rotate_left
            · (intro w hSw; (try dsimp only at hSw); go_simp; first | done | with_reducible rfl)
            (try simp only [Act.put, List.setIfInBounds_toArray, List.set_cons_zero, List.set_cons_succ, List.getElem_toArray, List.getElem_cons_zero, List.getElem_cons_succ])
            refine wpAnyH_take (i := 21) (v := ?_) rfl (by kernel_rfl) (by kernel_rfl) (by kernel_rfl) (fun _ _ _ h => h) (Or.inl ⟨by kernel_rfl, ?_⟩) (by assumption) ?_
            rotate_left
            · (intro w hSw; (try dsimp only at hSw); go_simp; first | done | with_reducible rfl)
            (try simp only [Act.put, List.setIfInBounds_toArray, List.set_cons_zero, List.set_cons_succ, List.getElem_toArray, List.getElem_cons_zero, List.getElem_cons_succ])
            refine wpAnyH_take (i := 22) (v := ?_) rfl (by kernel_rfl) (by kernel_rfl) (by kernel_rfl) (fun _ _ _ h => h) (Or.inl ⟨by kernel_rfl, ?_⟩) (by assumption) ?_
            rotate_left
            · (intro w hSw; (try dsimp only at hSw); go_simp; first | done | with_reducible rfl)
            (try simp only [Act.put, List.setIfInBounds_toArray, List.set_cons_zero, List.set_cons_succ, List.getElem_toArray, List.getElem_cons_zero, List.getElem_cons_succ])
            refine wpAnyH_take (i := 23) (v := ?_) rfl (by kernel_rfl) (by kernel_rfl) (by kernel_rfl) (fun _ _ _ h => h) (Or.inl ⟨by kernel_rfl, ?_⟩) (by assumption) ?_
            rotate_left
            · (intro w hSw; (try dsimp only at hSw); go_simp; first | done | with_reducible rfl)
            (try simp only [Act.put, List.setIfInBounds_toArray, List.set_cons_zero, List.set_cons_succ, List.getElem_toArray, List.getElem_cons_zero, List.getElem_cons_succ])
            refine wpAnyH_ready (rs := [24]) (by kernel_rfl) (by simp) ?_
            refine AllReadyH.cons rfl (fun KK hKK => ?_) AllReadyH.nil
            go_simp
            refine hKK.out _ _ ?_ (fun hHeld => ?_)
            · (exact ⟨cell_new _ x0, cell_new _ x1, cell_new _ x2, cell_new _ x3, cell_new _ z0, cell_new _ z1, cell_new _ z2, cell_new _ z3⟩)
            clear hKK KK
            (try simp only [Act.put, List.setIfInBounds_toArray, List.set_cons_zero, List.set_cons_succ, List.getElem_toArray, List.getElem_cons_zero, List.getElem_cons_succ])
            refine wpAnyH_take (i := 25) (v := ?_) rfl (by kernel_rfl) (by kernel_rfl) (by kernel_rfl) (fun _ _ _ h => h) (Or.inl ⟨by kernel_rfl, ?_⟩) (by assumption) ?_
            rotate_left
            · (intro w hSw; (try dsimp only at hSw); go_simp; first | done | with_reducible rfl)
            (try simp only [Act.put, List.setIfInBounds_toArray, List.set_cons_zero, List.set_cons_succ, List.getElem_toArray, List.getElem_cons_zero, List.getElem_cons_succ])
            refine wpAnyH_done (by kernel_rfl) ?_ _
            clear x0 x1 x2 x3 z0 z1 z2 z3 u0 u1 u2 u3 hm cell1e hwi1 HOT HBT hgtb hgtl
            have HOT := HON
            have HBT := HBN
            go_wp2_with fail
            go_loopw [9] (fun jv wi => ∃ j : Nat, j ≤ 4 ∧ jv = .int .i64 (j : Int) ∧ Own wi 5 wq.heap.size (.slice (some ⟨w2.heap.size, 0, none⟩) 4 4) (upto j (lay Tn Kn) Tn) ∧ Below wq.heap.size wq wi) (fun jv _ => 4 - (intOf jv).toNat)
            case atStart => exact ⟨0, by omega, rfl, HOT.out, HBT.out⟩
            case round =>
              obtain ⟨j, hj, rfl, hO, hb⟩ := hrel
              clear HOT HBT
              have HO := Lib.hid hO
              have HBJ := Lib.hid hb
              clear hO hb
              by_cases hj4 : j < 4
              · have hul := upto_len4 HLL.out HTN.out (i := j) hj
                obtain ⟨hg1, hg2, c0, f0, hset⟩ := HO.out.at_g (i := j) (by rw [hul]; exact hj4)
                rw [upto_at4 HLL.out HTN.out hj4] at c0
                have hs := hset (at_ (lay Tn Kn) j)
                rw [upto_set4 HLL.out HTN.out hj4, lay_at4 (by rw [HTN.out]; exact hj4) (by rw [HKL.out]; exact hj4)] at hs
                have e1 := (HBJ.out.cell (p := ad.add p2) (by rw [add_block]; exact HADL.out)).trans HC2.out
                have e2 := (HBJ.out.cell (p := adK.add j) (by rw [add_block]; exact HSK.out)).trans (HKC.out j hj4)
                have hx := u8x (at_ Tn j) (at_ Kn j)
                have hbs := below_setCell_ HBJ.out (p := ⟨w2.heap.size, j, none⟩) hg1 (bv (at_ Tn j ^^^ at_ Kn j))
                rw [bv_int] at c0 e2 hs hbs
                generalize (at_ Tn j ^^^ at_ Kn j).toNat = x2 at *
                generalize (at_ Tn j).toNat = x0 at *
                generalize (at_ Kn j).toNat = x1 at *
                have HS1 := Lib.hid hs
                have HBS := Lib.hid hbs
                have hw2 := HW2.out
                have hji : (j : Int) < 4 := by omega
                clear hset hs hbs hul
                go_wp2_with fail
                refine wp_region_last (S := fun w' => w'.cell? ⟨w2.heap.size, j, none⟩ = some (.int .u8 (x0 : Int)) ∧ w'.cell? (ad.add p2) = some (.slice (some adK) 4 cK) ∧ w'.cell? (adK.add j) = some (.int .u8 (x1 : Int))) 17 (by kernel_rfl) (⟨c0, e1, e2⟩) (fun hHeld => ?_)
                refine wpAnyS_take (i := 0) (v := ?_) rfl (by kernel_rfl) (by kernel_rfl) (by kernel_rfl) (by kernel_rfl) (fun _ _ _ h => h) (Or.inl ⟨by kernel_rfl, ?_⟩) (by assumption) ?_
                rotate_left
                · (intro w hSw; (try dsimp only at hSw); go_simp; first | done | with_reducible rfl)
                (try simp only [Act.put, List.setIfInBounds_toArray, List.set_cons_zero, List.set_cons_succ, List.getElem_toArray, List.getElem_cons_zero, List.getElem_cons_succ])
                refine wpAnyS_take (i := 1) (v := ?_) rfl (by kernel_rfl) (by kernel_rfl) (by kernel_rfl) (by kernel_rfl) (fun _ _ _ h => h) (Or.inl ⟨by kernel_rfl, ?_⟩) (by assumption) ?_
                rotate_left
                · (intro w hSw; (try dsimp only at hSw); go_simp; first | done | with_reducible rfl)
                (try simp only [Act.put, List.setIfInBounds_toArray, List.set_cons_zero, List.set_cons_succ, List.getElem_toArray, List.getElem_cons_zero, List.getElem_cons_succ])
                refine wpAnyS_take (i := 2) (v := ?_) rfl (by kernel_rfl) (by kernel_rfl) (by kernel_rfl) (by kernel_rfl) (fun _ _ _ h => h) (Or.inl ⟨by kernel_rfl, ?_⟩) (by assumption) ?_
                rotate_left
                · (intro w hSw; (try dsimp only at hSw); go_simp; first | done | with_reducible rfl)
                (try simp only [Act.put, List.setIfInBounds_toArray, List.set_cons_zero, List.set_cons_succ, List.getElem_toArray, List.getElem_cons_zero, List.getElem_cons_succ])
                refine wpAnyS_take (i := 3) (v := ?_) rfl (by kernel_rfl) (by kernel_rfl) (by kernel_rfl) (by kernel_rfl) (fun _ _ _ h => h) (Or.inl ⟨by kernel_rfl, ?_⟩) (by assumption) ?_
                rotate_left
                · (intro w hSw; (try dsimp only at hSw); go_simp; first | done | with_reducible rfl)
                (try simp only [Act.put, List.setIfInBounds_toArray, List.set_cons_zero, List.set_cons_succ, List.getElem_toArray, List.getElem_cons_zero, List.getElem_cons_succ])
                refine wpAnyS_take (i := 4) (v := ?_) rfl (by kernel_rfl) (by kernel_rfl) (by kernel_rfl) (by kernel_rfl) (fun _ _ _ h => h) (Or.inl ⟨by kernel_rfl, ?_⟩) (by assumption) ?_
                rotate_left
                · (intro w hSw; (try dsimp only at hSw); go_simp; first | done | with_reducible rfl)
                (try simp only [Act.put, List.setIfInBounds_toArray, List.set_cons_zero, List.set_cons_succ, List.getElem_toArray, List.getElem_cons_zero, List.getElem_cons_succ])
                refine wpAnyS_take (i := 5) (v := ?_) rfl (by kernel_rfl) (by kernel_rfl) (by kernel_rfl) (by kernel_rfl) (fun _ _ _ h => h) (Or.inl ⟨by kernel_rfl, ?_⟩) (by assumption) ?_
                rotate_left
                · (intro w hSw; (try dsimp only at hSw); go_simp; first | done | with_reducible rfl)
                (try simp only [Act.put, List.setIfInBounds_toArray, List.set_cons_zero, List.set_cons_succ, List.getElem_toArray, List.getElem_cons_zero, List.getElem_cons_succ])
                refine wpAnyS_take (i := 6) (v := ?_) rfl (by kernel_rfl) (by kernel_rfl) (by kernel_rfl) (by kernel_rfl) (fun _ _ _ h => h) (Or.inl ⟨by kernel_rfl, ?_⟩) (by assumption) ?_
                rotate_left
                · (intro w hSw; (try dsimp only at hSw); go_simp; first | done | with_reducible rfl)
                (try simp only [Act.put, List.setIfInBounds_toArray, List.set_cons_zero, List.set_cons_succ, List.getElem_toArray, List.getElem_cons_zero, List.getElem_cons_succ])
                refine wpAnyS_take (i := 7) (v := ?_) rfl (by kernel_rfl) (by kernel_rfl) (by kernel_rfl) (by kernel_rfl) (fun _ _ _ h => h) (Or.inl ⟨by kernel_rfl, ?_⟩) (by assumption) ?_
                rotate_left
                · (intro w hSw; (try dsimp only at hSw); go_simp; first | done | with_reducible rfl)
                (try simp only [Act.put, List.setIfInBounds_toArray, List.set_cons_zero, List.set_cons_succ, List.getElem_toArray, List.getElem_cons_zero, List.getElem_cons_succ])
                refine wpAnyS_take (i := 8) (v := ?_) rfl (by kernel_rfl) (by kernel_rfl) (by kernel_rfl) (by kernel_rfl) (fun _ _ _ h => h) (Or.inl ⟨by kernel_rfl, ?_⟩) (by assumption) ?_
                rotate_left
                · (intro w hSw; (try dsimp only at hSw); go_simp; first | done | with_reducible rfl)
                (try simp only [Act.put, List.setIfInBounds_toArray, List.set_cons_zero, List.set_cons_succ, List.getElem_toArray, List.getElem_cons_zero, List.getElem_cons_succ])
                refine wpAnyS_take (i := 9) (v := ?_) rfl (by kernel_rfl) (by kernel_rfl) (by kernel_rfl) (by kernel_rfl) (fun _ _ _ h => h) (Or.inl ⟨by kernel_rfl, ?_⟩) (by assumption) ?_
                rotate_left
                · (intro w hSw; (try dsimp only at hSw); go_simp; first | done | with_reducible rfl)
                (try simp only [Act.put, List.setIfInBounds_toArray, List.set_cons_zero, List.set_cons_succ, List.getElem_toArray, List.getElem_cons_zero, List.getElem_cons_succ])
                refine wpAnyS_take (i := 10) (v := ?_) rfl (by kernel_rfl) (by kernel_rfl) (by kernel_rfl) (by kernel_rfl) (fun _ _ _ h => h) (Or.inl ⟨by kernel_rfl, ?_⟩) (by assumption) ?_
                rotate_left
                · (intro w hSw; (try dsimp only at hSw); go_simp; first | done | with_reducible rfl)
                (try simp only [Act.put, List.setIfInBounds_toArray, List.set_cons_zero, List.set_cons_succ, List.getElem_toArray, List.getElem_cons_zero, List.getElem_cons_succ])
                refine wpAnyS_take (i := 11) (v := ?_) rfl (by kernel_rfl) (by kernel_rfl) (by kernel_rfl) (by kernel_rfl) (fun _ _ _ h => h) (Or.inl ⟨by kernel_rfl, ?_⟩) (by assumption) ?_
                rotate_left
                · (intro w hSw; (try dsimp only at hSw); go_simp; first | done | with_reducible rfl)
                (try simp only [Act.put, List.setIfInBounds_toArray, List.set_cons_zero, List.set_cons_succ, List.getElem_toArray, List.getElem_cons_zero, List.getElem_cons_succ])
                refine wpAnyS_take (i := 12) (v := ?_) rfl (by kernel_rfl) (by kernel_rfl) (by kernel_rfl) (by kernel_rfl) (fun _ _ _ h => h) (Or.inl ⟨by kernel_rfl, ?_⟩) (by assumption) ?_
                rotate_left
                · (intro w hSw; (try dsimp only at hSw); go_simp; first | done | with_reducible rfl)
                (try simp only [Act.put, List.setIfInBounds_toArray, List.set_cons_zero, List.set_cons_succ, List.getElem_toArray, List.getElem_cons_zero, List.getElem_cons_succ])
                refine wpAnyS_take (i := 13) (v := ?_) rfl (by kernel_rfl) (by kernel_rfl) (by kernel_rfl) (by kernel_rfl) (fun _ _ _ h => h) (Or.inl ⟨by kernel_rfl, ?_⟩) (by assumption) ?_
                rotate_left
                · (intro w hSw; (try dsimp only at hSw); go_simp; first | done | with_reducible rfl)
                (try simp only [Act.put, List.setIfInBounds_toArray, List.set_cons_zero, List.set_cons_succ, List.getElem_toArray, List.getElem_cons_zero, List.getElem_cons_succ])
                refine wpAnyS_take (i := 14) (v := ?_) rfl (by kernel_rfl) (by kernel_rfl) (by kernel_rfl) (by kernel_rfl) (fun _ _ _ h => h) (Or.inl ⟨by kernel_rfl, ?_⟩) (by assumption) ?_
                rotate_left
                · (intro w hSw; (try dsimp only at hSw); go_simp; first | done | with_reducible rfl)
                (try simp only [Act.put, List.setIfInBounds_toArray, List.set_cons_zero, List.set_cons_succ, List.getElem_toArray, List.getElem_cons_zero, List.getElem_cons_succ])
                refine wpAnyS_take (i := 15) (v := ?_) rfl (by kernel_rfl) (by kernel_rfl) (by kernel_rfl) (by kernel_rfl) (fun _ _ _ h => h) (Or.inl ⟨by kernel_rfl, ?_⟩) (by assumption) ?_
                rotate_left
                · (intro w hSw; (try dsimp only at hSw); go_simp; first | done | with_reducible rfl)
                (try simp only [Act.put, List.setIfInBounds_toArray, List.set_cons_zero, List.set_cons_succ, List.getElem_toArray, List.getElem_cons_zero, List.getElem_cons_succ])
                refine wpAnyS_take (i := 16) (v := ?_) rfl (by kernel_rfl) (by kernel_rfl) (by kernel_rfl) (by kernel_rfl) (fun _ _ _ h => h) (Or.inl ⟨by kernel_rfl, ?_⟩) (by assumption) ?_
                rotate_left
                · (intro w hSw; (try dsimp only at hSw); go_simp; first | done | with_reducible rfl)
                (try simp only [Act.put, List.setIfInBounds_toArray, List.set_cons_zero, List.set_cons_succ, List.getElem_toArray, List.getElem_cons_zero, List.getElem_cons_succ])
                refine wpAnyS_last (by kernel_rfl) rfl (by kernel_rfl) (fun KK hKK => ?_)
                go_simp
                refine hKK.out _ _ ?_
                clear hKK KK
                (try simp only [Act.put, List.setIfInBounds_toArray, List.set_cons_zero, List.set_cons_succ, List.getElem_toArray, List.getElem_cons_zero, List.getElem_cons_succ])
                clear hw2 hx
                go_wp2_with fail
                go_roundw
                case rel => exact ⟨j + 1, by omega, by go_num, HS1.out, HBS.out.drew⟩
                case measure => simp [intOf]; omega
              · have hj4 : j = 4 := by omega
                subst hj4
                have hO := HO.out
                rw [uptoN_all HLL.out HTN.out] at hO
                have HO2 := Lib.hid hO
                have HOA := Lib.hid (rws_own HRW.out HBJ.out (.cells #[.slice (some ⟨w2.heap.size, 0, none⟩) 4 4] 22))
                have hz2 : w.heap.size ≤ (wr.alloc (.cells #[.slice (some ⟨w2.heap.size, 0, none⟩) 4 4] 22)).heap.size := by have := HBJ.out.size; simp; omega
                clear hO HO
                go_wp2_with (with_reducible refine at_slot 137 ?_
                             refine wpList_append_v eqv rfl (.tmp 134) (.tmp 136) rfl w.heap.size _ vs _ 1 1 [.slice (some ⟨w2.heap.size, 0, none⟩) 4 4] rfl rfl HOA.out rfl (src_row wr _ _) (by intro u hu; simp only [List.mem_singleton] at hu; subst hu; exact slice_one _ _ _) (by rw [HVL.out]; omega) (by rw [HVL.out]; omega) hz2 ?_
                             intro v4 w4 hO4 hg4 hat4
                             obtain ⟨hp4, hF4⟩ := rws_app HRW.out hzr HBJ.out HO2.out (Nat.le_refl _) _ hO4 hg4 hat4
                             rw [← HST.out] at hp4
                             have hb4 := HB.out.trans (rws_below HRW.out hzr hF4)
                             have HP4 := Lib.hid hp4
                             have HB4 := Lib.hid hb4
                             clear hO4 hg4 hat4 hp4 hF4 hb4)
                go_roundw
                case rel => exact ⟨i + 1, by omega, by go_num, ⟨_, HP4.out⟩, HB4.out⟩
                case measure => simp [intOf]; omega
          · obtain ⟨ρ, hρ⟩ : ∃ ρ, i % n = ρ := ⟨_, rfl⟩
            by_cases h8 : n = 8
            · subst h8
              rw [show ((8 : Nat) : Int) = 8 from rfl]
              have hm : (i : Int) % 8 = (ρ : Int) := by rw [← hρ]; push_cast; rfl
              have hρ0 : ((ρ : Int) == 0) = false := beq_eq_false_iff_ne.2 (by omega)
              have hρ4 : ((ρ : Int) == 4) = false := beq_eq_false_iff_ne.2 (by omega)
              have hni8 : ¬ (i : Int) < 8 := by omega
              have hl60 : (i : Int) < 60 := by omega
              have HW2 := Lib.hid (show IntKind.i64.wrap ((i : Int) - 8) = (p2 : Int) from HW2.out)
              have hte := HTE.out
              unfold turnW at hte
              rw [if_neg hA, if_neg hB] at hte
              have HTT := Lib.hid hte
              clear hte hA hB hρ
              go_wp2_with (with_reducible refine at_slot 45 ?_
                           refine wpList_append_u8 Go.Proofs.YtcbihjcnnfohmaaGreat.u8 rfl (.tmp 39) (.tmp 44) rfl wq.heap.size _ [] _ 4 _ T0 _ rfl rfl HE.out ((HRT.out.below HEB.out).more HEB.out.size) HTL.out (by simp) (by simp) ?_
                           intro v2 w2 hO2 hg2 hat2
                           rw [List.nil_append] at hO2
                           have hb2 : Below wq.heap.size wq w2 := HEB.out.grown hg2 (by simp) (fun x hx => (HE.out.lt x hx).1)
                           obtain ⟨gt, ct, hvx, hgtb, hgtl, _⟩ := hO2.at_ (i := 0) (by rw [HTL.out]; omega)
                           rw [HTL.out] at hvx
                           subst hvx
                           have HOT := Lib.hid hO2
                           have HBT := Lib.hid hb2
                           clear hO2 hg2 hat2 hb2)
              have hot := HOT.out
              rw [HTT.out] at hot
              have HOT := Lib.hid hot
              clear hot
              clear hm hρ0 cell1e hwi1
              clear hρ4
              go_loopw [9] (fun jv wi => ∃ j : Nat, j ≤ 4 ∧ jv = .int .i64 (j : Int) ∧ Own wi 5 wq.heap.size (.slice (some ⟨gt, 0, none⟩) 4 ct) (upto j (lay Tn Kn) Tn) ∧ Below wq.heap.size wq wi) (fun jv _ => 4 - (intOf jv).toNat)
              case atStart => exact ⟨0, by omega, rfl, HOT.out, HBT.out⟩
              case round =>
                obtain ⟨j, hj, rfl, hO, hb⟩ := hrel
                clear HOT HBT
                have HO := Lib.hid hO
                have HBJ := Lib.hid hb
                clear hO hb
                by_cases hj4 : j < 4
                · have hul := upto_len4 HLL.out HTN.out (i := j) hj
                  obtain ⟨hg1, hg2, c0, f0, hset⟩ := HO.out.at_g (i := j) (by rw [hul]; exact hj4)
                  rw [upto_at4 HLL.out HTN.out hj4] at c0
                  have hs := hset (at_ (lay Tn Kn) j)
                  rw [upto_set4 HLL.out HTN.out hj4, lay_at4 (by rw [HTN.out]; exact hj4) (by rw [HKL.out]; exact hj4)] at hs
                  have e1 := (HBJ.out.cell (p := ad.add p2) (by rw [add_block]; exact HADL.out)).trans HC2.out
                  have e2 := (HBJ.out.cell (p := adK.add j) (by rw [add_block]; exact HSK.out)).trans (HKC.out j hj4)
                  have hx := u8x (at_ Tn j) (at_ Kn j)
                  have hbs := below_setCell_ HBJ.out (p := ⟨gt, j, none⟩) hg1 (bv (at_ Tn j ^^^ at_ Kn j))
                  rw [bv_int] at c0 e2 hs hbs
                  generalize (at_ Tn j ^^^ at_ Kn j).toNat = x2 at *
                  generalize (at_ Tn j).toNat = x0 at *
                  generalize (at_ Kn j).toNat = x1 at *
                  have HS1 := Lib.hid hs
                  have HBS := Lib.hid hbs
                  have hw2 := HW2.out
                  have hji : (j : Int) < 4 := by omega
                  clear hset hs hbs hul
                  go_wp2_with fail
                  refine wp_region_last (S := fun w' => w'.cell? ⟨gt, j, none⟩ = some (.int .u8 (x0 : Int)) ∧ w'.cell? (ad.add p2) = some (.slice (some adK) 4 cK) ∧ w'.cell? (adK.add j) = some (.int .u8 (x1 : Int))) 17 (by kernel_rfl) (⟨c0, e1, e2⟩) (fun hHeld => ?_)
                  refine wpAnyS_take (i := 0) (v := ?_) rfl (by kernel_rfl) (by kernel_rfl) (by kernel_rfl) (by kernel_rfl) (fun _ _ _ h => h) (Or.inl ⟨by kernel_rfl, ?_⟩) (by assumption) ?_
                  rotate_left
                  · (intro w hSw; (try dsimp only at hSw); go_simp; first | done | with_reducible rfl)
                  (try simp only [Act.put, List.setIfInBounds_toArray, List.set_cons_zero, List.set_cons_succ, List.getElem_toArray, List.getElem_cons_zero, List.getElem_cons_succ])
                  refine wpAnyS_take (i := 1) (v := ?_) rfl (by kernel_rfl) (by kernel_rfl) (by kernel_rfl) (by kernel_rfl) (fun _ _ _ h => h) (Or.inl ⟨by kernel_rfl, ?_⟩) (by assumption) ?_
                  rotate_left
                  · (intro w hSw; (try dsimp only at hSw); go_simp; first | done | with_reducible rfl)
                  (try simp only [Act.put, List.setIfInBounds_toArray, List.set_cons_zero, List.set_cons_succ, List.getElem_toArray, List.getElem_cons_zero, List.getElem_cons_succ])
                  refine wpAnyS_take (i := 2) (v := ?_) rfl (by kernel_rfl) (by kernel_rfl) (by kernel_rfl) (by kernel_rfl) (fun _ _ _ h => h) (Or.inl ⟨by kernel_rfl, ?_⟩) (by assumption) ?_
                  rotate_left
                  · (intro w hSw; (try dsimp only at hSw); go_simp; first | done | with_reducible rfl)
                  (try simp only [Act.put, List.setIfInBounds_toArray, List.set_cons_zero, List.set_cons_succ, List.getElem_toArray, List.getElem_cons_zero, List.getElem_cons_succ])
                  refine wpAnyS_take (i := 3) (v := ?_) rfl (by kernel_rfl) (by kernel_rfl) (by kernel_rfl) (by kernel_rfl) (fun _ _ _ h => h) (Or.inl ⟨by kernel_rfl, ?_⟩) (by assumption) ?_
                  rotate_left
                  · (intro w hSw; (try dsimp only at hSw); go_simp; first | done | with_reducible rfl)
                  (try simp only [Act.put, List.setIfInBounds_toArray, List.set_cons_zero, List.set_cons_succ, List.getElem_toArray, List.getElem_cons_zero, List.getElem_cons_succ])
                  refine wpAnyS_take (i := 4) (v := ?_) rfl (by kernel_rfl) (by kernel_rfl) (by kernel_rfl) (by kernel_rfl) (fun _ _ _ h => h) (Or.inl ⟨by kernel_rfl, ?_⟩) (by assumption) ?_
                  rotate_left
                  · (intro w hSw; (try dsimp only at hSw); go_simp; first | done | with_reducible rfl)
                  (try simp only [Act.put, List.setIfInBounds_toArray, List.set_cons_zero, List.set_cons_succ, List.getElem_toArray, List.getElem_cons_zero, List.getElem_cons_succ])
                  refine wpAnyS_take (i := 5) (v := ?_) rfl (by kernel_rfl) (by kernel_rfl) (by kernel_rfl) (by kernel_rfl) (fun _ _ _ h => h) (Or.inl ⟨by kernel_rfl, ?_⟩) (by assumption) ?_
                  rotate_left
                  · (intro w hSw; (try dsimp only at hSw); go_simp; first | done | with_reducible rfl)
                  (try simp only [Act.put, List.setIfInBounds_toArray, List.set_cons_zero, List.set_cons_succ, List.getElem_toArray, List.getElem_cons_zero, List.getElem_cons_succ])
                  refine wpAnyS_take (i := 6) (v := ?_) rfl (by kernel_rfl) (by kernel_rfl) (by kernel_rfl) (by kernel_rfl) (fun _ _ _ h => h) (Or.inl ⟨by kernel_rfl, ?_⟩) (by assumption) ?_
                  rotate_left
                  · (intro w hSw; (try dsimp only at hSw); go_simp; first | done | with_reducible rfl)
                  (try simp only [Act.put, List.setIfInBounds_toArray, List.set_cons_zero, List.set_cons_succ, List.getElem_toArray, List.getElem_cons_zero, List.getElem_cons_succ])
                  refine wpAnyS_take (i := 7) (v := ?_) rfl (by kernel_rfl) (by kernel_rfl) (by kernel_rfl) (by kernel_rfl) (fun _ _ _ h => h) (Or.inl ⟨by kernel_rfl, ?_⟩) (by assumption) ?_
                  rotate_left
                  · (intro w hSw; (try dsimp only at hSw); go_simp; first | done | with_reducible rfl)
                  (try simp only [Act.put, List.setIfInBounds_toArray, List.set_cons_zero, List.set_cons_succ, List.getElem_toArray, List.getElem_cons_zero, List.getElem_cons_succ])
                  refine wpAnyS_take (i := 8) (v := ?_) rfl (by kernel_rfl) (by kernel_rfl) (by kernel_rfl) (by kernel_rfl) (fun _ _ _ h => h) (Or.inl ⟨by kernel_rfl, ?_⟩) (by assumption) ?_
                  rotate_left
                  · (intro w hSw; (try dsimp only at hSw); go_simp; first | done | with_reducible rfl)
                  (try simp only [Act.put, List.setIfInBounds_toArray, List.set_cons_zero, List.set_cons_succ, List.getElem_toArray, List.getElem_cons_zero, List.getElem_cons_succ])
                  refine wpAnyS_take (i := 9) (v := ?_) rfl (by kernel_rfl) (by kernel_rfl) (by kernel_rfl) (by kernel_rfl) (fun _ _ _ h => h) (Or.inl ⟨by kernel_rfl, ?_⟩) (by assumption) ?_
                  rotate_left
                  · (intro w hSw; (try dsimp only at hSw); go_simp; first | done | with_reducible rfl)
                  (try simp only [Act.put, List.setIfInBounds_toArray, List.set_cons_zero, List.set_cons_succ, List.getElem_toArray, List.getElem_cons_zero, List.getElem_cons_succ])
                  refine wpAnyS_take (i := 10) (v := ?_) rfl (by kernel_rfl) (by kernel_rfl) (by kernel_rfl) (by kernel_rfl) (fun _ _ _ h => h) (Or.inl ⟨by kernel_rfl, ?_⟩) (by assumption) ?_
                  rotate_left
                  · (intro w hSw; (try dsimp only at hSw); go_simp; first | done | with_reducible rfl)
                  (try simp only [Act.put, List.setIfInBounds_toArray, List.set_cons_zero, List.set_cons_succ, List.getElem_toArray, List.getElem_cons_zero, List.getElem_cons_succ])
                  refine wpAnyS_take (i := 11) (v := ?_) rfl (by kernel_rfl) (by kernel_rfl) (by kernel_rfl) (by kernel_rfl) (fun _ _ _ h => h) (Or.inl ⟨by kernel_rfl, ?_⟩) (by assumption) ?_
                  rotate_left
                  · (intro w hSw; (try dsimp only at hSw); go_simp; first | done | with_reducible rfl)
                  (try simp only [Act.put, List.setIfInBounds_toArray, List.set_cons_zero, List.set_cons_succ, List.getElem_toArray, List.getElem_cons_zero, List.getElem_cons_succ])
                  refine wpAnyS_take (i := 12) (v := ?_) rfl (by kernel_rfl) (by kernel_rfl) (by kernel_rfl) (by kernel_rfl) (fun _ _ _ h => h) (Or.inl ⟨by kernel_rfl, ?_⟩) (by assumption) ?_
                  rotate_left
                  · (intro w hSw; (try dsimp only at hSw); go_simp; first | done | with_reducible rfl)
                  (try simp only [Act.put, List.setIfInBounds_toArray, List.set_cons_zero, List.set_cons_succ, List.getElem_toArray, List.getElem_cons_zero, List.getElem_cons_succ])
                  refine wpAnyS_take (i := 13) (v := ?_) rfl (by kernel_rfl) (by kernel_rfl) (by kernel_rfl) (by kernel_rfl) (fun _ _ _ h => h) (Or.inl ⟨by kernel_rfl, ?_⟩) (by assumption) ?_
                  rotate_left
                  · (intro w hSw; (try dsimp only at hSw); go_simp; first | done | with_reducible rfl)
                  (try simp only [Act.put, List.setIfInBounds_toArray, List.set_cons_zero, List.set_cons_succ, List.getElem_toArray, List.getElem_cons_zero, List.getElem_cons_succ])
                  refine wpAnyS_take (i := 14) (v := ?_) rfl (by kernel_rfl) (by kernel_rfl) (by kernel_rfl) (by kernel_rfl) (fun _ _ _ h => h) (Or.inl ⟨by kernel_rfl, ?_⟩) (by assumption) ?_
                  rotate_left
                  · (intro w hSw; (try dsimp only at hSw); go_simp; first | done | with_reducible rfl)
                  (try simp only [Act.put, List.setIfInBounds_toArray, List.set_cons_zero, List.set_cons_succ, List.getElem_toArray, List.getElem_cons_zero, List.getElem_cons_succ])
                  refine wpAnyS_take (i := 15) (v := ?_) rfl (by kernel_rfl) (by kernel_rfl) (by kernel_rfl) (by kernel_rfl) (fun _ _ _ h => h) (Or.inl ⟨by kernel_rfl, ?_⟩) (by assumption) ?_
                  rotate_left
                  · (intro w hSw; (try dsimp only at hSw); go_simp; first | done | with_reducible rfl)
                  (try simp only [Act.put, List.setIfInBounds_toArray, List.set_cons_zero, List.set_cons_succ, List.getElem_toArray, List.getElem_cons_zero, List.getElem_cons_succ])
                  refine wpAnyS_take (i := 16) (v := ?_) rfl (by kernel_rfl) (by kernel_rfl) (by kernel_rfl) (by kernel_rfl) (fun _ _ _ h => h) (Or.inl ⟨by kernel_rfl, ?_⟩) (by assumption) ?_
                  rotate_left
                  · (intro w hSw; (try dsimp only at hSw); go_simp; first | done | with_reducible rfl)
                  (try simp only [Act.put, List.setIfInBounds_toArray, List.set_cons_zero, List.set_cons_succ, List.getElem_toArray, List.getElem_cons_zero, List.getElem_cons_succ])
                  refine wpAnyS_last (by kernel_rfl) rfl (by kernel_rfl) (fun KK hKK => ?_)
                  go_simp
                  refine hKK.out _ _ ?_
                  clear hKK KK
                  (try simp only [Act.put, List.setIfInBounds_toArray, List.set_cons_zero, List.set_cons_succ, List.getElem_toArray, List.getElem_cons_zero, List.getElem_cons_succ])
                  clear hw2 hx
                  go_wp2_with fail
                  go_roundw
                  case rel => exact ⟨j + 1, by omega, by go_num, HS1.out, HBS.out.drew⟩
                  case measure => simp [intOf]; omega
                · have hj4 : j = 4 := by omega
                  subst hj4
                  have hO := HO.out
                  rw [uptoN_all HLL.out HTN.out] at hO
                  have HO2 := Lib.hid hO
                  have HOA := Lib.hid (rws_own HRW.out HBJ.out (.cells #[.slice (some ⟨gt, 0, none⟩) 4 ct] 22))
                  have hz2 : w.heap.size ≤ (wr.alloc (.cells #[.slice (some ⟨gt, 0, none⟩) 4 ct] 22)).heap.size := by have := HBJ.out.size; simp; omega
                  clear hO HO
                  go_wp2_with (with_reducible refine at_slot 137 ?_
                               refine wpList_append_v eqv rfl (.tmp 134) (.tmp 136) rfl w.heap.size _ vs _ 1 1 [.slice (some ⟨gt, 0, none⟩) 4 ct] rfl rfl HOA.out rfl (src_row wr _ _) (by intro u hu; simp only [List.mem_singleton] at hu; subst hu; exact slice_one _ _ _) (by rw [HVL.out]; omega) (by rw [HVL.out]; omega) hz2 ?_
                               intro v4 w4 hO4 hg4 hat4
                               obtain ⟨hp4, hF4⟩ := rws_app HRW.out hzr HBJ.out HO2.out (Nat.le_refl _) _ hO4 hg4 hat4
                               rw [← HST.out] at hp4
                               have hb4 := HB.out.trans (rws_below HRW.out hzr hF4)
                               have HP4 := Lib.hid hp4
                               have HB4 := Lib.hid hb4
                               clear hO4 hg4 hat4 hp4 hF4 hb4)
                  go_roundw
                  case rel => exact ⟨i + 1, by omega, by go_num, ⟨_, HP4.out⟩, HB4.out⟩
                  case measure => simp [intOf]; omega
            · have hn8' : n ≠ 8 := h8
              have hm : (i : Int) % (n : Int) = (ρ : Int) := by rw [← hρ]; push_cast; rfl
              have hρ0 : ((ρ : Int) == 0) = false := beq_eq_false_iff_ne.2 (by omega)
              have hn8 : ((n : Int) == 8) = false := beq_eq_false_iff_ne.2 (by omega)
              have hte := HTE.out
              unfold turnW at hte
              rw [if_neg hA, if_neg hB] at hte
              have HTT := Lib.hid hte
              clear hte hA hB hρ
              go_wp2_with (with_reducible refine at_slot 45 ?_
                           refine wpList_append_u8 Go.Proofs.YtcbihjcnnfohmaaGreat.u8 rfl (.tmp 39) (.tmp 44) rfl wq.heap.size _ [] _ 4 _ T0 _ rfl rfl HE.out ((HRT.out.below HEB.out).more HEB.out.size) HTL.out (by simp) (by simp) ?_
                           intro v2 w2 hO2 hg2 hat2
                           rw [List.nil_append] at hO2
                           have hb2 : Below wq.heap.size wq w2 := HEB.out.grown hg2 (by simp) (fun x hx => (HE.out.lt x hx).1)
                           obtain ⟨gt, ct, hvx, hgtb, hgtl, _⟩ := hO2.at_ (i := 0) (by rw [HTL.out]; omega)
                           rw [HTL.out] at hvx
                           subst hvx
                           have HOT := Lib.hid hO2
                           have HBT := Lib.hid hb2
                           clear hO2 hg2 hat2 hb2)
              have hot := HOT.out
              rw [HTT.out] at hot
              have HOT := Lib.hid hot
              clear hot
              clear hm hρ0 cell1e hwi1
              clear hn8
              go_loopw [9] (fun jv wi => ∃ j : Nat, j ≤ 4 ∧ jv = .int .i64 (j : Int) ∧ Own wi 5 wq.heap.size (.slice (some ⟨gt, 0, none⟩) 4 ct) (upto j (lay Tn Kn) Tn) ∧ Below wq.heap.size wq wi) (fun jv _ => 4 - (intOf jv).toNat)
              case atStart => exact ⟨0, by omega, rfl, HOT.out, HBT.out⟩
              case round =>
                obtain ⟨j, hj, rfl, hO, hb⟩ := hrel
                clear HOT HBT
                have HO := Lib.hid hO
                have HBJ := Lib.hid hb
                clear hO hb
                by_cases hj4 : j < 4
                · have hul := upto_len4 HLL.out HTN.out (i := j) hj
                  obtain ⟨hg1, hg2, c0, f0, hset⟩ := HO.out.at_g (i := j) (by rw [hul]; exact hj4)
                  rw [upto_at4 HLL.out HTN.out hj4] at c0
                  have hs := hset (at_ (lay Tn Kn) j)
                  rw [upto_set4 HLL.out HTN.out hj4, lay_at4 (by rw [HTN.out]; exact hj4) (by rw [HKL.out]; exact hj4)] at hs
                  have e1 := (HBJ.out.cell (p := ad.add p2) (by rw [add_block]; exact HADL.out)).trans HC2.out
                  have e2 := (HBJ.out.cell (p := adK.add j) (by rw [add_block]; exact HSK.out)).trans (HKC.out j hj4)
                  have hx := u8x (at_ Tn j) (at_ Kn j)
                  have hbs := below_setCell_ HBJ.out (p := ⟨gt, j, none⟩) hg1 (bv (at_ Tn j ^^^ at_ Kn j))
                  rw [bv_int] at c0 e2 hs hbs
                  generalize (at_ Tn j ^^^ at_ Kn j).toNat = x2 at *
                  generalize (at_ Tn j).toNat = x0 at *
                  generalize (at_ Kn j).toNat = x1 at *
                  have HS1 := Lib.hid hs
                  have HBS := Lib.hid hbs
                  have hw2 := HW2.out
                  have hji : (j : Int) < 4 := by omega
                  clear hset hs hbs hul
                  go_wp2_with fail
                  refine wp_region_last (S := fun w' => w'.cell? ⟨gt, j, none⟩ = some (.int .u8 (x0 : Int)) ∧ w'.cell? (ad.add p2) = some (.slice (some adK) 4 cK) ∧ w'.cell? (adK.add j) = some (.int .u8 (x1 : Int))) 17 (by kernel_rfl) (⟨c0, e1, e2⟩) (fun hHeld => ?_)
                  refine wpAnyS_take (i := 0) (v := ?_) rfl (by kernel_rfl) (by kernel_rfl) (by kernel_rfl) (by kernel_rfl) (fun _ _ _ h => h) (Or.inl ⟨by kernel_rfl, ?_⟩) (by assumption) ?_
                  rotate_left
                  · (intro w hSw; (try dsimp only at hSw); go_simp; first | done | with_reducible rfl)
                  (try simp only [Act.put, List.setIfInBounds_toArray, List.set_cons_zero, List.set_cons_succ, List.getElem_toArray, List.getElem_cons_zero, List.getElem_cons_succ])
                  refine wpAnyS_take (i := 1) (v := ?_) rfl (by kernel_rfl) (by kernel_rfl) (by kernel_rfl) (by kernel_rfl) (fun _ _ _ h => h) (Or.inl ⟨by kernel_rfl, ?_⟩) (by assumption) ?_
                  rotate_left
                  · (intro w hSw; (try dsimp only at hSw); go_simp; first | done | with_reducible rfl)
                  (try simp only [Act.put, List.setIfInBounds_toArray, List.set_cons_zero, List.set_cons_succ, List.getElem_toArray, List.getElem_cons_zero, List.getElem_cons_succ])
                  refine wpAnyS_take (i := 2) (v := ?_) rfl (by kernel_rfl) (by kernel_rfl) (by kernel_rfl) (by kernel_rfl) (fun _ _ _ h => h) (Or.inl ⟨by kernel_rfl, ?_⟩) (by assumption) ?_
                  rotate_left
                  · (intro w hSw; (try dsimp only at hSw); go_simp; first | done | with_reducible rfl)
                  (try simp only [Act.put, List.setIfInBounds_toArray, List.set_cons_zero, List.set_cons_succ, List.getElem_toArray, List.getElem_cons_zero, List.getElem_cons_succ])
                  refine wpAnyS_take (i := 3) (v := ?_) rfl (by kernel_rfl) (by kernel_rfl) (by kernel_rfl) (by kernel_rfl) (fun _ _ _ h => h) (Or.inl ⟨by kernel_rfl, ?_⟩) (by assumption) ?_
                  rotate_left
                  · (intro w hSw; (try dsimp only at hSw); go_simp; first | done | with_reducible rfl)
                  (try simp only [Act.put, List.setIfInBounds_toArray, List.set_cons_zero, List.set_cons_succ, List.getElem_toArray, List.getElem_cons_zero, List.getElem_cons_succ])
                  refine wpAnyS_take (i := 4) (v := ?_) rfl (by kernel_rfl) (by kernel_rfl) (by kernel_rfl) (by kernel_rfl) (fun _ _ _ h => h) (Or.inl ⟨by kernel_rfl, ?_⟩) (by assumption) ?_
                  rotate_left
                  · (intro w hSw; (try dsimp only at hSw); go_simp; first | done | with_reducible rfl)
                  (try simp only [Act.put, List.setIfInBounds_toArray, List.set_cons_zero, List.set_cons_succ, List.getElem_toArray, List.getElem_cons_zero, List.getElem_cons_succ])
                  refine wpAnyS_take (i := 5) (v := ?_) rfl (by kernel_rfl) (by kernel_rfl) (by kernel_rfl) (by kernel_rfl) (fun _ _ _ h => h) (Or.inl ⟨by kernel_rfl, ?_⟩) (by assumption) ?_
                  rotate_left
                  · (intro w hSw; (try dsimp only at hSw); go_simp; first | done | with_reducible rfl)
                  (try simp only [Act.put, List.setIfInBounds_toArray, List.set_cons_zero, List.set_cons_succ, List.getElem_toArray, List.getElem_cons_zero, List.getElem_cons_succ])
                  refine wpAnyS_take (i := 6) (v := ?_) rfl (by kernel_rfl) (by kernel_rfl) (by kernel_rfl) (by kernel_rfl) (fun _ _ _ h => h) (Or.inl ⟨by kernel_rfl, ?_⟩) (by assumption) ?_
                  rotate_left
                  · (intro w hSw; (try dsimp only at hSw); go_simp; first | done | with_reducible rfl)
                  (try simp only [Act.put, List.setIfInBounds_toArray, List.set_cons_zero, List.set_cons_succ, List.getElem_toArray, List.getElem_cons_zero, List.getElem_cons_succ])
                  refine wpAnyS_take (i := 7) (v := ?_) rfl (by kernel_rfl) (by kernel_rfl) (by kernel_rfl) (by kernel_rfl) (fun _ _ _ h => h) (Or.inl ⟨by kernel_rfl, ?_⟩) (by assumption) ?_
                  rotate_left
                  · (intro w hSw; (try dsimp only at hSw); go_simp; first | done | with_reducible rfl)
                  (try simp only [Act.put, List.setIfInBounds_toArray, List.set_cons_zero, List.set_cons_succ, List.getElem_toArray, List.getElem_cons_zero, List.getElem_cons_succ])
                  refine wpAnyS_take (i := 8) (v := ?_) rfl (by kernel_rfl) (by kernel_rfl) (by kernel_rfl) (by kernel_rfl) (fun _ _ _ h => h) (Or.inl ⟨by kernel_rfl, ?_⟩) (by assumption) ?_
                  rotate_left
                  · (intro w hSw; (try dsimp only at hSw); go_simp; first | done | with_reducible rfl)
                  (try simp only [Act.put, List.setIfInBounds_toArray, List.set_cons_zero, List.set_cons_succ, List.getElem_toArray, List.getElem_cons_zero, List.getElem_cons_succ])
                  refine wpAnyS_take (i := 9) (v := ?_) rfl (by kernel_rfl) (by kernel_rfl) (by kernel_rfl) (by kernel_rfl) (fun _ _ _ h => h) (Or.inl ⟨by kernel_rfl, ?_⟩) (by assumption) ?_
                  rotate_left
                  · (intro w hSw; (try dsimp only at hSw); go_simp; first | done | with_reducible rfl)
                  (try simp only [Act.put, List.setIfInBounds_toArray, List.set_cons_zero, List.set_cons_succ, List.getElem_toArray, List.getElem_cons_zero, List.getElem_cons_succ])
                  refine wpAnyS_take (i := 10) (v := ?_) rfl (by kernel_rfl) (by kernel_rfl) (by kernel_rfl) (by kernel_rfl) (fun _ _ _ h => h) (Or.inl ⟨by kernel_rfl, ?_⟩) (by assumption) ?_
                  rotate_left
                  · (intro w hSw; (try dsimp only at hSw); go_simp; first | done | with_reducible rfl)
                  (try simp only [Act.put, List.setIfInBounds_toArray, List.set_cons_zero, List.set_cons_succ, List.getElem_toArray, List.getElem_cons_zero, List.getElem_cons_succ])
                  refine wpAnyS_take (i := 11) (v := ?_) rfl (by kernel_rfl) (by kernel_rfl) (by kernel_rfl) (by kernel_rfl) (fun _ _ _ h => h) (Or.inl ⟨by kernel_rfl, ?_⟩) (by assumption) ?_
                  rotate_left
                  · (intro w hSw; (try dsimp only at hSw); go_simp; first | done | with_reducible rfl)
                  (try simp only [Act.put, List.setIfInBounds_toArray, List.set_cons_zero, List.set_cons_succ, List.getElem_toArray, List.getElem_cons_zero, List.getElem_cons_succ])
                  refine wpAnyS_take (i := 12) (v := ?_) rfl (by kernel_rfl) (by kernel_rfl) (by kernel_rfl) (by kernel_rfl) (fun _ _ _ h => h) (Or.inl ⟨by kernel_rfl, ?_⟩) (by assumption) ?_
                  rotate_left
                  · (intro w hSw; (try dsimp only at hSw); go_simp; first | done | with_reducible rfl)
                  (try simp only [Act.put, List.setIfInBounds_toArray, List.set_cons_zero, List.set_cons_succ, List.getElem_toArray, List.getElem_cons_zero, List.getElem_cons_succ])
                  refine wpAnyS_take (i := 13) (v := ?_) rfl (by kernel_rfl) (by kernel_rfl) (by kernel_rfl) (by kernel_rfl) (fun _ _ _ h => h) (Or.inl ⟨by kernel_rfl, ?_⟩) (by assumption) ?_
                  rotate_left
                  · (intro w hSw; (try dsimp only at hSw); go_simp; first | done | with_reducible rfl)
                  (try simp only [Act.put, List.setIfInBounds_toArray, List.set_cons_zero, List.set_cons_succ, List.getElem_toArray, List.getElem_cons_zero, List.getElem_cons_succ])
                  refine wpAnyS_take (i := 14) (v := ?_) rfl (by kernel_rfl) (by kernel_rfl) (by kernel_rfl) (by kernel_rfl) (fun _ _ _ h => h) (Or.inl ⟨by kernel_rfl, ?_⟩) (by assumption) ?_
                  rotate_left
                  · (intro w hSw; (try dsimp only at hSw); go_simp; first | done | with_reducible rfl)
                  (try simp only [Act.put, List.setIfInBounds_toArray, List.set_cons_zero, List.set_cons_succ, List.getElem_toArray, List.getElem_cons_zero, List.getElem_cons_succ])
                  refine wpAnyS_take (i := 15) (v := ?_) rfl (by kernel_rfl) (by kernel_rfl) (by kernel_rfl) (by kernel_rfl) (fun _ _ _ h => h) (Or.inl ⟨by kernel_rfl, ?_⟩) (by assumption) ?_
                  rotate_left
                  · (intro w hSw; (try dsimp only at hSw); go_simp; first | done | with_reducible rfl)
                  (try simp only [Act.put, List.setIfInBounds_toArray, List.set_cons_zero, List.set_cons_succ, List.getElem_toArray, List.getElem_cons_zero, List.getElem_cons_succ])
                  refine wpAnyS_take (i := 16) (v := ?_) rfl (by kernel_rfl) (by kernel_rfl) (by kernel_rfl) (by kernel_rfl) (fun _ _ _ h => h) (Or.inl ⟨by kernel_rfl, ?_⟩) (by assumption) ?_
                  rotate_left
                  · (intro w hSw; (try dsimp only at hSw); go_simp; first | done | with_reducible rfl)
                  (try simp only [Act.put, List.setIfInBounds_toArray, List.set_cons_zero, List.set_cons_succ, List.getElem_toArray, List.getElem_cons_zero, List.getElem_cons_succ])
                  refine wpAnyS_last (by kernel_rfl) rfl (by kernel_rfl) (fun KK hKK => ?_)
                  go_simp
                  refine hKK.out _ _ ?_
                  clear hKK KK
                  (try simp only [Act.put, List.setIfInBounds_toArray, List.set_cons_zero, List.set_cons_succ, List.getElem_toArray, List.getElem_cons_zero, List.getElem_cons_succ])
                  clear hw2 hx
                  go_wp2_with fail
                  go_roundw
                  case rel => exact ⟨j + 1, by omega, by go_num, HS1.out, HBS.out.drew⟩
                  case measure => simp [intOf]; omega
                · have hj4 : j = 4 := by omega
                  subst hj4
                  have hO := HO.out
                  rw [uptoN_all HLL.out HTN.out] at hO
                  have HO2 := Lib.hid hO
                  have HOA := Lib.hid (rws_own HRW.out HBJ.out (.cells #[.slice (some ⟨gt, 0, none⟩) 4 ct] 22))
                  have hz2 : w.heap.size ≤ (wr.alloc (.cells #[.slice (some ⟨gt, 0, none⟩) 4 ct] 22)).heap.size := by have := HBJ.out.size; simp; omega
                  clear hO HO
                  go_wp2_with (with_reducible refine at_slot 137 ?_
                               refine wpList_append_v eqv rfl (.tmp 134) (.tmp 136) rfl w.heap.size _ vs _ 1 1 [.slice (some ⟨gt, 0, none⟩) 4 ct] rfl rfl HOA.out rfl (src_row wr _ _) (by intro u hu; simp only [List.mem_singleton] at hu; subst hu; exact slice_one _ _ _) (by rw [HVL.out]; omega) (by rw [HVL.out]; omega) hz2 ?_
                               intro v4 w4 hO4 hg4 hat4
                               obtain ⟨hp4, hF4⟩ := rws_app HRW.out hzr HBJ.out HO2.out (Nat.le_refl _) _ hO4 hg4 hat4
                               rw [← HST.out] at hp4
                               have hb4 := HB.out.trans (rws_below HRW.out hzr hF4)
                               have HP4 := Lib.hid hp4
                               have HB4 := Lib.hid hb4
                               clear hO4 hg4 hat4 hp4 hF4 hb4)
                  go_roundw
                  case rel => exact ⟨i + 1, by omega, by go_num, ⟨_, HP4.out⟩, HB4.out⟩
                  case measure => simp [intOf]; omega
    · have hiM : i = M := by omega
      subst hiM
      have hrwf := HRW.out
      rw [List.take_of_length_le (by rw [HWL.out]; have := HM.out; omega)] at hrwf
      obtain ⟨ad, hAo, hadl, _, hrows⟩ := rws_ptr hrwf (by rw [HVL.out]; have := HM.out; omega)
      subst hAo
      have HROWS := Lib.hid hrows
      have HADL := Lib.hid hadl
      have hM2 := HM.out
      clear hrows hadl hrwf
      go_wp2_with fail
      go_loopw [10, 11] (fun ov iv wr => ∃ r m : Nat, m = 4 * r ∧ r ≤ n + 7 ∧ iv = .int .i64 (m : Int) ∧ (∃ us, Rws wr 22 5 wq.heap.size ov us ((rounds n key).take r)) ∧ Below wq.heap.size wq wr) (fun _ iv _ => 64 - (intOf iv).toNat)
      case atStart => exact ⟨0, 0, rfl, by omega, rfl, ⟨[], Rws.nil _ _ _ _⟩, Below.refl _ _⟩
      case round =>
        obtain ⟨r, m, hm, hr, rfl, ⟨us, hou⟩, hbo⟩ := hrel
        have hzo := hbo.size
        have hul : us.length = r := by rw [hou.len, List.length_take, rounds_length]; omega
        obtain ⟨Bo, bo, rfl, hbco, _, _⟩ := hou.own.len
        rw [hul] at hou ⊢
        have HOU := Lib.hid hou
        have HBO := Lib.hid hbo
        have HUL := Lib.hid hul
        clear hou hbo hul
        obtain ⟨wo, rfl⟩ : ∃ wo : World, wo = wr := ⟨_, rfl⟩
        by_cases hlt : m < i
        · have hlti : (m : Int) < (i : Int) := by omega
          have hrn : r < n + 7 := by omega
          have hm4 := Lib.hid hm
          have hm60 : m ≤ 60 := by omega
          clear hm
          have HST := Lib.hid (show (rounds n key).take (r + 1) = (rounds n key).take r ++ [((W.drop (4 * r)).take 4).flatten] by rw [rounds_next key hrn, HWE.out])
          go_wp2_with fail
          go_loopw [12, 13] (fun bw jv wi => ∃ j : Nat, j ≤ 4 ∧ jv = .int .i64 (j : Int) ∧ Own wi 5 wo.heap.size bw (((W.drop (4 * r)).take j).flatten) ∧ Below wo.heap.size wo wi) (fun _ jv _ => 4 - (intOf jv).toNat)
          case atStart => exact ⟨0, by omega, rfl, Own.nil _ _ _, Below.refl _ _⟩
          case round =>
            obtain ⟨j, hj, rfl, hO, hbj⟩ := hrel
            have hzj := hbj.size
            have HO := Lib.hid hO
            have HBJ := Lib.hid hbj
            have hfl : (((W.drop (4 * r)).take j).flatten).length = 4 * j := by
              rw [four_flat (fun t ht => HW4.out t (List.mem_of_mem_drop (List.mem_of_mem_take ht))), List.length_take, List.length_drop, HWL.out]; omega
            obtain ⟨Ab, cb, rfl, _, _⟩ := hO.form
            rw [hfl] at HO ⊢
            have HFL := Lib.hid hfl
            obtain ⟨j4, hj4⟩ : ∃ x, 4 * j = x := ⟨_, rfl⟩
            rw [hj4] at HO HFL ⊢
            clear hO hbj hfl
            obtain ⟨wn, rfl⟩ : ∃ wn : World, wn = wr := ⟨_, rfl⟩
            by_cases hjl : j < 4
            · have hji : (j : Int) < 4 := by omega
              have hm := hm4.out
              obtain ⟨p, hp⟩ : ∃ p, m + j = p := ⟨_, rfl⟩
              have hpi : (m : Int) + (j : Int) = (p : Int) := by omega
              have hpl : p < W.length := by rw [HWL.out]; omega
              obtain ⟨AK, cK, cell2, hRK, hcK⟩ := HROWS.out p (rkey W p) (by simp [rkey, List.getD_eq_getElem?_getD, List.getElem?_eq_getElem hpl])
              have hKl : (rkey W p).length = 4 := HW4.out.at_ hpl
              rw [hKl] at cell2
              have hbq := HBO.out.trans (HBJ.out.mono hzo)
              have cell3 := (hbq.cell (p := ad.add p) (by rw [add_block]; exact HADL.out)).trans cell2
              have hst2 := cut_next (W := W) (p := 4 * r) (j := j) (by rw [← hm, hp]; exact hpl)
              rw [← hm, hp] at hst2
              have HST2 := Lib.hid hst2
              have HRK := Lib.hid (rd_now_ hRK hbq)
              have HKL := Lib.hid hKl
              have hpM : (p : Int) < (i : Int) := by rw [HWL.out] at hpl; omega
              have HJ4 := Lib.hid hj4
              have hj16' : j4 ≤ 16 := by omega
              clear hst2 hRK hKl cell2 hcK hbq hpl hp hj4 hm
              go_wp2_with (with_reducible refine at_slot 155 ?_
                           refine wpList_append_u8 Go.Proofs.YtcbihjcnnfohmaaGreat.u8 rfl (.tmp 148) (.tmp 154) rfl wo.heap.size _ _ _ 4 _ (rkey W p) _ rfl rfl HO.out HRK.out HKL.out (by rw [HFL.out]; omega) hzj ?_
                           intro v2 w2 hO2 hg2 hat2
                           rw [hm4.out.symm, ← HST2.out] at hO2
                           have hb2 := HBJ.out.grown hg2 hzj (fun x hx => (HO.out.lt x hx).1)
                           have HO2 := Lib.hid hO2
                           have HB2 := Lib.hid hb2
                           clear hO2 hg2 hat2 hb2)
              go_roundw
              case rel => exact ⟨j + 1, by omega, by go_num, by rw [← hm4.out]; exact HO2.out, HB2.out⟩
              case measure => simp [intOf]; omega
            · have hje : j = 4 := by omega
              subst hje
              have hj16 : j4 = 16 := by omega
              subst hj16
              have HOA := Lib.hid (rws_own HOU.out HBJ.out (.cells #[.slice Ab 16 cb] 22))
              have hz2 : wq.heap.size ≤ (wn.alloc (.cells #[.slice Ab 16 cb] 22)).heap.size := by simp; omega
              go_wp2_with (with_reducible refine at_slot 159 ?_
                           refine wpList_append_v eqv rfl (.tmp 156) (.tmp 158) rfl wq.heap.size _ us _ 1 1 [.slice Ab 16 cb] rfl rfl HOA.out rfl (src_row wn _ _) (by intro u hu; simp only [List.mem_singleton] at hu; subst hu; exact slice_one _ _ _) (by rw [HUL.out]; omega) (by rw [HUL.out]; omega) hz2 ?_
                           intro v4 w4 hO4 hg4 hat4
                           obtain ⟨hp4, hF4⟩ := rws_app HOU.out hzo HBJ.out HO.out (Nat.le_refl _) _ hO4 hg4 hat4
                           rw [← HST.out] at hp4
                           have hb4 := HBO.out.trans (rws_below HOU.out hzo hF4)
                           have HP4 := Lib.hid hp4
                           have HB4 := Lib.hid hb4
                           clear hO4 hg4 hat4 hp4 hF4 hb4)
              go_roundw
              case rel => exact ⟨r + 1, m + 4, by have := hm4.out; omega, by omega, by go_num, ⟨_, HP4.out⟩, HB4.out⟩
              case measure => simp [intOf]; omega
        · have hre : r = n + 7 := by omega
          go_wp2_with fail
          go_ret
          have hw := HOU.out
          rw [List.take_of_length_le (by rw [rounds_length]; omega)] at hw
          exact ⟨_, us, rfl, rws_mono hw hzr, HB.out.trans (HBO.out.mono hzr)⟩
end Go.Proofs.YtcbihjcnnfohmaaGreat.Aes
