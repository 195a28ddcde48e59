/- The document's Decrypt: contract. -/
import Derived.Test.YtcbihjcnnfohmaaAesRefE
import Derived.Deep.RegionHeld3
namespace Go.Proofs.Ytcbihjcnnfohmaa.Aes
open Go Go.ChangeShapes Go.WideShapes Go.ChangeAt Go.RowKit Go.Proofs.Ytcbihjcnnfohmaa.Fld
set_option linter.unusedVariables false
set_option linter.unusedSimpArgs false
theorem refenc_no (g n : Nat) (A : Option Addr) (c : Nat) (w : World) (hn : n ≠ 16) :
    Calls Try.prog 23 #[.pointer (some ⟨g, 0, none⟩), .slice A n c] w fun e w' => e = .returned (.tuple #[.slice none 0 0, .int .i64 1]) ∧ w = w' := by
  have b16 : ((n : Int) != 16) = true := by rw [bne_iff_ne]; omega
  clear hn
  go_enter Try.func23, Try.ntmps23
  go_wp2_with fail
  go_ret2
  exact ⟨rfl, rfl⟩
theorem refdec_no (g n : Nat) (A : Option Addr) (c : Nat) (w : World) (hn : n ≠ 16) :
    Calls Try.prog 24 #[.pointer (some ⟨g, 0, none⟩), .slice A n c] w fun e w' => e = .returned (.tuple #[.slice none 0 0, .int .i64 1]) ∧ w = w' := by
  have b16 : ((n : Int) != 16) = true := by rw [bne_iff_ne]; omega
  clear hn
  go_enter Try.func24, Try.ntmps24
  go_wp2_with fail
  go_ret2
  exact ⟨rfl, rfl⟩
set_option maxRecDepth 100000 in
set_option maxHeartbeats 4000000 in
theorem refdec_any (g n : Nat) (key m : Blk) (A : Option Addr) (c : Nat) (w : World) (h : RKey w w.heap.size g n key) (hm : m.length = 16) (hr : Rd w w.heap.size A m) :
    Calls Try.prog 24 #[.pointer (some ⟨g, 0, none⟩), .slice A 16 c] w fun e w' => ∃ gv, e = .returned (.tuple #[.slice (some ⟨gv, 0, none⟩) 16 16, .int .i64 0]) ∧ RowV w' 5 gv (bvs (dec key m)) ∧ w.heap.size ≤ gv ∧ Below w.heap.size w w' := by
  obtain ⟨ad, cr, c0, hcr, hadl, hrows⟩ := h.rv
  obtain ⟨Ab, cb, c2, hbx⟩ := h.unbox
  have hgl := h.lt
  have hn := h.nk
  have hok := rounds_ok h.kl (by omega) (by omega)
  have hrl := rounds_length n key
  have hE : decR (rounds n key) (n + 6) (n + 6) m = dec key m := by
    unfold dec
    rw [show key.length / 4 = n by rw [h.kl]; omega]
  generalize dec key m = D at *
  generalize rounds n key = R at *
  have n8 : n ≤ 8 := by omega
  have HROWS := Lib.hid hrows
  have HBX := Lib.hid hbx
  have HOK := Lib.hid hok
  have HRL := Lib.hid hrl
  have HM := Lib.hid hm
  have HADL := Lib.hid hadl
  have HE := Lib.hid hE
  have C0 := Lib.hid c0
  have C2 := Lib.hid c2
  have hOe := own_empty 5 (Nat.le_refl w.heap.size)
  have hbe := (Below.refl w.heap.size w).alloc (Nat.le_refl _) (.cells #[] 5)
  have hre := hr.alloc (Nat.le_refl _) (.cells #[] 5)
  have hse := hbe.size
  have c00 := (hbe.cell (p := ⟨g, 0, none⟩) hgl).trans c0
  clear h hrows hbx hok hrl hr hE hn hm c0 c2
  go_enter Try.func24, Try.ntmps24
  go_wp2_with (with_reducible refine at_slot 13 ?_
               refine wpList_append_u8 Go.Proofs.Ytcbihjcnnfohmaa.u8 rfl (.tmp 11) (.tmp 12) rfl w.heap.size _ [] _ 16 c m w.heap.size rfl rfl hOe hre HM.out (by simp) hse ?_
               intro v2 w2 hO2 hg2 hat2
               rw [List.nil_append] at hO2
               obtain ⟨A2, k2, hv2, hr2, hk2⟩ := hO2.form
               rw [HM.out] at hv2
               subst hv2
               have hb2 := below_grown hbe hg2 hse hOe (Nat.le_refl _)
               have c02 := (hb2.cell (p := ⟨g, 0, none⟩) hgl).trans C0.out
               have HB2 := Lib.hid hb2
               have HR2 := Lib.hid hr2
               clear hO2 hg2 hat2 hr2 hk2 hb2 hOe hbe hre hse c00)
  have HTB := Lib.hid (show ∀ x : UInt8, uss.getD x.toNat 0 = us x from fun x => by rw [List.getD_eq_getElem?_getD, uss_at]; rfl)
  clear c02
  go_loopw [6, 7] (fun sv iv wr => ∃ (i : Nat) (As : Option Addr) (cs : Nat) (s : Blk), i ≤ n + 6 ∧ iv = .int .i64 (i : Int) ∧ sv = .slice As 16 cs ∧ s.length = 16 ∧ decR R (n + 6) i s = D ∧ Rd wr wr.heap.size As s ∧ Below w.heap.size w wr) (fun _ iv _ => (intOf iv).toNat)
  case atStart => exact ⟨n + 6, _, _, m, Nat.le_refl _, by go_num, rfl, HM.out, HE.out, HR2.out, HB2.out⟩
  case round =>
    obtain ⟨i, As, cs, s, hi, rfl, rfl, hsl, hsd, hrs, hb⟩ := hrel
    clear HB2 HR2 HE
    have hzr := hb.size
    have c0 := (hb.cell (p := ⟨g, 0, none⟩) hgl).trans C0.out
    have HB := Lib.hid hb
    have HSL := Lib.hid hsl
    have HSD := Lib.hid hsd
    have HRS := Lib.hid hrs
    clear hb hsl hsd hrs
    obtain ⟨wo, rfl⟩ : ∃ wo : World, wo = wr := ⟨_, rfl⟩
    by_cases hlt : 0 < i
    · obtain ⟨j, hj⟩ : ∃ j, i = j + 1 := ⟨i - 1, by omega⟩
      have hi0 : (0 : Int) < (i : Int) := by omega
      have hji : j ≤ n + 6 := by omega
      have hlti : (i : Int) < (n : Int) + 7 := by omega
      obtain ⟨Ar, kr, d1, hkr, hRr⟩ := HROWS.out i (by omega)
      have hlr : (rkey R i).length = 16 := HOK.out.at_ (by rw [HRL.out]; omega)
      have hst : decR R (n + 6) i s = decR R (n + 6) j (unturnL us (if i < n + 6 then unmixL (lay s (rkey R i)) else lay s (rkey R i))) := by rw [hj]; rfl
      rw [HSD.out] at hst
      have d1' := (HB.out.cell (p := ad.add i) (by rw [add_block]; exact HADL.out)).trans d1
      have HST := Lib.hid hst
      have HRR := Lib.hid hRr
      have HLR := Lib.hid hlr
      have HI := Lib.hid hj
      clear hst d1 hRr hlr hkr HSD hj
      go_wp2_with fail
      refine (reflay_any As Ar cs kr s (rkey R i) HSL.out HLR.out wo HRS.out (rd_now_ HRR.out HB.out)).mono ?_
      rintro e w3 ⟨rfl, hg3, hb3⟩
      have hz3 := hb3.size
      have HB3 := Lib.hid (HB.out.trans (hb3.mono hzr))
      have HL3 := Lib.hid (lay_length HSL.out HLR.out)
      have HR3 := Lib.hid (row_rd hg3)
      have c03 := (HB3.out.cell (p := ⟨g, 0, none⟩) hgl).trans C0.out
      have c23 := (HB3.out.cell (p := ⟨g, 2, none⟩) hgl).trans C2.out
      clear hg3 hb3 c0 d1'
      by_cases hlast : i < n + 6
      · have hl1 : (i : Int) < (n : Int) + 6 := by omega
        have HEN := Lib.hid (show decR R (n + 6) j (unturnL us (unmixL (lay s (rkey R i)))) = D by
          have := HST.out
          rw [if_pos hlast] at this
          exact this.symm)
        obtain ⟨W4, hW4⟩ : ∃ W4 : World, w3.alloc (.cells #[.int .i64 14, .int .i64 11, .int .i64 13, .int .i64 9] 3) = W4 := ⟨_, rfl⟩
        have hF4 : ∀ k, k < 4 → (fun k => [14, 11, 13, 9].getD k 0 : Nat → Nat) k < 16 := fun k hk => by
          have : k = 0 ∨ k = 1 ∨ k = 2 ∨ k = 3 := by omega
          rcases this with rfl | rfl | rfl | rfl <;> decide
        have hcells : ∀ k, k < 4 → W4.cell? (Addr.add ⟨w3.heap.size, 0, none⟩ k) = some (.int .i64 (((fun k => [14, 11, 13, 9].getD k 0 : Nat → Nat) k : Nat) : Int)) := fun k hk => by
          rw [← hW4, addr_add, Nat.zero_add, cell_of_row _ _ k _ _ (0, 0) (heap_alloc_new w3 _)]
          have : k = 0 ∨ k = 1 ∨ k = 2 ∨ k = 3 := by omega
          rcases this with rfl | rfl | rfl | rfl <;> rfl
        have hba : Below w3.heap.size w3 W4 := by rw [← hW4]; exact (Below.refl _ _).alloc (Nat.le_refl _) _
        have hza : W4.heap.size = w3.heap.size + 1 := by rw [← hW4]; simp
        have HW4 := Lib.hid hW4
        have HCL := Lib.hid hcells
        have HBA := Lib.hid hba
        clear hW4 hcells hba
        go_wp2_with fail
        rw [HW4.out]
        refine (refmix_any (some ⟨wo.heap.size, 0, none⟩) ⟨w3.heap.size, 0, none⟩ 16 4 (fun k => [14, 11, 13, 9].getD k 0) hF4 (lay s (rkey R i)) HL3.out W4 (rd_now_ HR3.out HBA.out) (by simp only; omega) HCL.out).mono ?_
        rintro e w5 ⟨rfl, hg5, hb5⟩
        rw [mixF_unmix rfl rfl rfl rfl] at hg5
        have hz5 := hb5.size
        have HB5 := Lib.hid ((HB3.out.trans (HBA.out.mono (by omega))).trans (hb5.mono (by omega)))
        have HR5 := Lib.hid (row_rd hg5)
        have HL5 := Lib.hid (show (unmixL (lay s (rkey R i))).length = 16 from colL_length _ _)
        have c25 := (HB5.out.cell (p := ⟨g, 2, none⟩) hgl).trans C2.out
        clear hg5 hb5 c03 c23 hza hz5 hF4
        go_wp2_with fail
        refine wp_region_held_drew (S := fun W' => W'.cell? ⟨g, 2, none⟩ = some (.slice Ab 256 cb)) (by kernel_rfl) (c25) (fun hHeld => ?_)
        refine wpAnyH_take (i := 0) (v := ?_) rfl (by kernel_rfl) (by kernel_rfl) (by kernel_rfl) (fun _ _ _ h => h) (Or.inl ⟨by kernel_rfl, ?_⟩) (by assumption) ?_
        rotate_left
        · (intro w hSw; (try dsimp only at hSw); go_simp; first | done | with_reducible rfl)
        (try simp only [Act.put, List.setIfInBounds_toArray, List.set_cons_zero, List.set_cons_succ, List.getElem_toArray, List.getElem_cons_zero, List.getElem_cons_succ])
        refine wpAnyH_take (i := 2) (v := ?_) rfl (by kernel_rfl) (by kernel_rfl) (by kernel_rfl) (fun _ _ _ h => h) (Or.inl ⟨by kernel_rfl, ?_⟩) (by assumption) ?_
        rotate_left
        · (intro w hSw; (try dsimp only at hSw); go_simp; first | done | with_reducible rfl)
        (try simp only [Act.put, List.setIfInBounds_toArray, List.set_cons_zero, List.set_cons_succ, List.getElem_toArray, List.getElem_cons_zero, List.getElem_cons_succ])
        refine wpAnyH_take (i := 3) (v := ?_) rfl (by kernel_rfl) (by kernel_rfl) (by kernel_rfl) (fun _ _ _ h => h) (Or.inl ⟨by kernel_rfl, ?_⟩) (by assumption) ?_
        rotate_left
        · (intro w hSw; (try dsimp only at hSw); go_simp; first | done | with_reducible rfl)
        (try simp only [Act.put, List.setIfInBounds_toArray, List.set_cons_zero, List.set_cons_succ, List.getElem_toArray, List.getElem_cons_zero, List.getElem_cons_succ])
        refine wpAnyH_take (i := 4) (v := ?_) rfl (by kernel_rfl) (by kernel_rfl) (by kernel_rfl) (fun _ _ _ h => h) (Or.inl ⟨by kernel_rfl, ?_⟩) (by assumption) ?_
        rotate_left
        · (intro w hSw; (try dsimp only at hSw); go_simp; first | done | with_reducible rfl)
        (try simp only [Act.put, List.setIfInBounds_toArray, List.set_cons_zero, List.set_cons_succ, List.getElem_toArray, List.getElem_cons_zero, List.getElem_cons_succ])
        refine wpAnyH_take (i := 5) (v := ?_) rfl (by kernel_rfl) (by kernel_rfl) (by kernel_rfl) (fun _ _ _ h => h) (Or.inl ⟨by kernel_rfl, ?_⟩) (by assumption) ?_
        rotate_left
        · (intro w hSw; (try dsimp only at hSw); go_simp; first | done | with_reducible rfl)
        (try simp only [Act.put, List.setIfInBounds_toArray, List.set_cons_zero, List.set_cons_succ, List.getElem_toArray, List.getElem_cons_zero, List.getElem_cons_succ])
        refine wpAnyH_ready (rs := [1]) (by kernel_rfl) (by simp) ?_
        refine AllReadyH.cons rfl (fun KK hKK => ?_) AllReadyH.nil
        go_simp
        refine (refshift_any (some ⟨W4.heap.size, 0, none⟩) 16 3 (.inr rfl) (unmixL (lay s (rkey R i))) HL5.out w5.drew HR5.out).mono ?_
        rintro e w7 ⟨rfl, hg7, hb7⟩
        have hz7 := hb7.size
        have HB7 := Lib.hid (HB5.out.trans ((((Below.refl w5.heap.size w5).drew).trans hb7).mono HB5.out.size))
        have HR7 := Lib.hid (row_rd hg7)
        have c27 := (HB7.out.cell (p := ⟨g, 2, none⟩) hgl).trans C2.out
        clear hg7 hb7 c25
        go_wp2_with fail
        refine hKK.out _ _ ?_ (fun hHeld => ?_)
        · (exact c27)
        clear hKK KK
        (try simp only [Act.put, List.setIfInBounds_toArray, List.set_cons_zero, List.set_cons_succ, List.getElem_toArray, List.getElem_cons_zero, List.getElem_cons_succ])
        refine wpAnyH_ready (rs := [6]) (by kernel_rfl) (by simp) ?_
        refine AllReadyH.cons rfl (fun KK hKK => ?_) AllReadyH.nil
        go_simp
        refine (refswap_any _ Ab 16 cb us (shiftL 3 (unmixL (lay s (rkey R i)))) uss (shiftL_length _ _) uss_length HTB.out _ HR7.out (rd_now_ HBX.out HB7.out)).mono ?_
        rintro e w8 ⟨rfl, hg8, hb8⟩
        rw [map_shift HL5.out] at hg8
        have hz8 := hb8.size
        have HB8 := Lib.hid (HB7.out.trans (hb8.mono HB7.out.size))
        have HR8 := Lib.hid (row_rd hg8)
        have c28 := (HB8.out.cell (p := ⟨g, 2, none⟩) hgl).trans C2.out
        clear hg8 hb8 c27
        go_wp2_with fail
        refine hKK.out _ _ ?_ (fun hHeld => ?_)
        · (exact c28)
        clear hKK KK
        (try simp only [Act.put, List.setIfInBounds_toArray, List.set_cons_zero, List.set_cons_succ, List.getElem_toArray, List.getElem_cons_zero, List.getElem_cons_succ])
        refine wpAnyH_take (i := 7) (v := ?_) rfl (by kernel_rfl) (by kernel_rfl) (by kernel_rfl) (fun _ _ _ h => h) (Or.inl ⟨by kernel_rfl, ?_⟩) (by assumption) ?_
        rotate_left
        · (intro w hSw; (try dsimp only at hSw); go_simp; first | done | with_reducible rfl)
        (try simp only [Act.put, List.setIfInBounds_toArray, List.set_cons_zero, List.set_cons_succ, List.getElem_toArray, List.getElem_cons_zero, List.getElem_cons_succ])
        refine wpAnyH_done (by kernel_rfl) ?_ _
        go_wp2_with fail
        go_roundw
        case rel => exact ⟨j, _, _, _, by omega, by rw [show (i : Int) - 1 = (j : Int) by have := HI.out; omega], rfl, unturnL_length _ _, HEN.out, HR8.out, HB8.out⟩
        case measure => simp [intOf]; have := HI.out; omega
      · have hl1 : ¬ (i : Int) < (n : Int) + 6 := by omega
        have HEN := Lib.hid (show decR R (n + 6) j (unturnL us (lay s (rkey R i))) = D by
          have := HST.out
          rw [if_neg hlast] at this
          exact this.symm)
        go_wp2_with fail
        refine wp_region_held_drew (S := fun W' => W'.cell? ⟨g, 2, none⟩ = some (.slice Ab 256 cb)) (by kernel_rfl) (c23) (fun hHeld => ?_)
        refine wpAnyH_take (i := 0) (v := ?_) rfl (by kernel_rfl) (by kernel_rfl) (by kernel_rfl) (fun _ _ _ h => h) (Or.inl ⟨by kernel_rfl, ?_⟩) (by assumption) ?_
        rotate_left
        · (intro w hSw; (try dsimp only at hSw); go_simp; first | done | with_reducible rfl)
        (try simp only [Act.put, List.setIfInBounds_toArray, List.set_cons_zero, List.set_cons_succ, List.getElem_toArray, List.getElem_cons_zero, List.getElem_cons_succ])
        refine wpAnyH_take (i := 2) (v := ?_) rfl (by kernel_rfl) (by kernel_rfl) (by kernel_rfl) (fun _ _ _ h => h) (Or.inl ⟨by kernel_rfl, ?_⟩) (by assumption) ?_
        rotate_left
        · (intro w hSw; (try dsimp only at hSw); go_simp; first | done | with_reducible rfl)
        (try simp only [Act.put, List.setIfInBounds_toArray, List.set_cons_zero, List.set_cons_succ, List.getElem_toArray, List.getElem_cons_zero, List.getElem_cons_succ])
        refine wpAnyH_take (i := 3) (v := ?_) rfl (by kernel_rfl) (by kernel_rfl) (by kernel_rfl) (fun _ _ _ h => h) (Or.inl ⟨by kernel_rfl, ?_⟩) (by assumption) ?_
        rotate_left
        · (intro w hSw; (try dsimp only at hSw); go_simp; first | done | with_reducible rfl)
        (try simp only [Act.put, List.setIfInBounds_toArray, List.set_cons_zero, List.set_cons_succ, List.getElem_toArray, List.getElem_cons_zero, List.getElem_cons_succ])
        refine wpAnyH_take (i := 4) (v := ?_) rfl (by kernel_rfl) (by kernel_rfl) (by kernel_rfl) (fun _ _ _ h => h) (Or.inl ⟨by kernel_rfl, ?_⟩) (by assumption) ?_
        rotate_left
        · (intro w hSw; (try dsimp only at hSw); go_simp; first | done | with_reducible rfl)
        (try simp only [Act.put, List.setIfInBounds_toArray, List.set_cons_zero, List.set_cons_succ, List.getElem_toArray, List.getElem_cons_zero, List.getElem_cons_succ])
        refine wpAnyH_take (i := 5) (v := ?_) rfl (by kernel_rfl) (by kernel_rfl) (by kernel_rfl) (fun _ _ _ h => h) (Or.inl ⟨by kernel_rfl, ?_⟩) (by assumption) ?_
        rotate_left
        · (intro w hSw; (try dsimp only at hSw); go_simp; first | done | with_reducible rfl)
        (try simp only [Act.put, List.setIfInBounds_toArray, List.set_cons_zero, List.set_cons_succ, List.getElem_toArray, List.getElem_cons_zero, List.getElem_cons_succ])
        refine wpAnyH_ready (rs := [1]) (by kernel_rfl) (by simp) ?_
        refine AllReadyH.cons rfl (fun KK hKK => ?_) AllReadyH.nil
        go_simp
        refine (refshift_any (some ⟨wo.heap.size, 0, none⟩) 16 3 (.inr rfl) (lay s (rkey R i)) HL3.out w3.drew HR3.out).mono ?_
        rintro e w7 ⟨rfl, hg7, hb7⟩
        have hz7 := hb7.size
        have HB7 := Lib.hid (HB3.out.trans ((((Below.refl w3.heap.size w3).drew).trans hb7).mono HB3.out.size))
        have HR7 := Lib.hid (row_rd hg7)
        have c27 := (HB7.out.cell (p := ⟨g, 2, none⟩) hgl).trans C2.out
        clear hg7 hb7 c23
        go_wp2_with fail
        refine hKK.out _ _ ?_ (fun hHeld => ?_)
        · (exact c27)
        clear hKK KK
        (try simp only [Act.put, List.setIfInBounds_toArray, List.set_cons_zero, List.set_cons_succ, List.getElem_toArray, List.getElem_cons_zero, List.getElem_cons_succ])
        refine wpAnyH_ready (rs := [6]) (by kernel_rfl) (by simp) ?_
        refine AllReadyH.cons rfl (fun KK hKK => ?_) AllReadyH.nil
        go_simp
        refine (refswap_any _ Ab 16 cb us (shiftL 3 (lay s (rkey R i))) uss (shiftL_length _ _) uss_length HTB.out _ HR7.out (rd_now_ HBX.out HB7.out)).mono ?_
        rintro e w8 ⟨rfl, hg8, hb8⟩
        rw [map_shift HL3.out] at hg8
        have hz8 := hb8.size
        have HB8 := Lib.hid (HB7.out.trans (hb8.mono HB7.out.size))
        have HR8 := Lib.hid (row_rd hg8)
        have c28 := (HB8.out.cell (p := ⟨g, 2, none⟩) hgl).trans C2.out
        clear hg8 hb8 c27
        go_wp2_with fail
        refine hKK.out _ _ ?_ (fun hHeld => ?_)
        · (exact c28)
        clear hKK KK
        (try simp only [Act.put, List.setIfInBounds_toArray, List.set_cons_zero, List.set_cons_succ, List.getElem_toArray, List.getElem_cons_zero, List.getElem_cons_succ])
        refine wpAnyH_take (i := 7) (v := ?_) rfl (by kernel_rfl) (by kernel_rfl) (by kernel_rfl) (fun _ _ _ h => h) (Or.inl ⟨by kernel_rfl, ?_⟩) (by assumption) ?_
        rotate_left
        · (intro w hSw; (try dsimp only at hSw); go_simp; first | done | with_reducible rfl)
        (try simp only [Act.put, List.setIfInBounds_toArray, List.set_cons_zero, List.set_cons_succ, List.getElem_toArray, List.getElem_cons_zero, List.getElem_cons_succ])
        refine wpAnyH_done (by kernel_rfl) ?_ _
        go_wp2_with fail
        go_roundw
        case rel => exact ⟨j, _, _, _, by omega, by rw [show (i : Int) - 1 = (j : Int) by have := HI.out; omega], rfl, unturnL_length _ _, HEN.out, HR8.out, HB8.out⟩
        case measure => simp [intOf]; have := HI.out; omega
    · have hi0 : i = 0 := by omega
      subst hi0
      obtain ⟨A0, k0, d0, hk0, hR0⟩ := HROWS.out 0 (by omega)
      have hl0 : (rkey R 0).length = 16 := HOK.out.at_ (by rw [HRL.out]; omega)
      have d0' : wo.cell? ad = some (.slice A0 16 k0) := by
        rw [show ad.add 0 = ad by go_simp] at d0
        exact (HB.out.cell (p := ad) HADL.out).trans d0
      have HR0 := Lib.hid hR0
      have HL0 := Lib.hid hl0
      clear hR0 hl0 d0 hk0
      rw [show (((0 : Nat) : Int)) = 0 from rfl]
      go_wp2_with fail
      refine (reflay_any As A0 cs k0 s (rkey R 0) HSL.out HL0.out wo HRS.out (rd_now_ HR0.out HB.out)).mono ?_
      rintro e w3 ⟨rfl, hg3, hb3⟩
      have hg3' : RowV w3 5 wo.heap.size (bvs D) := by rw [← HSD.out]; exact hg3
      have HG3 := Lib.hid hg3'
      have HB3 := Lib.hid (HB.out.trans (hb3.mono hzr))
      clear hg3 hb3 hg3' d0' c0
      go_wp2_with fail
      go_ret2
      exact ⟨_, rfl, HG3.out, hzr, HB3.out⟩
end Go.Proofs.Ytcbihjcnnfohmaa.Aes
