/- The document's Encrypt, Decrypt, RoundsOf: contracts. -/
import Derived.Test.YtcbihjcnnfohmaaAesRefN
namespace Go.Proofs.Ytcbihjcnnfohmaa.Aes
open Go Go.ChangeShapes Go.WideShapes Go.ChangeAt Go.RowKit Go.Proofs.Ytcbihjcnnfohmaa.Fld
set_option linter.unusedVariables false
set_option linter.unusedSimpArgs false
theorem shift_map {f : UInt8 → UInt8} {s : Blk} (hs : s.length = 16) : shiftL 1 (mapL f s) = turnL f s := by
  unfold shiftL turnL
  refine List.map_congr_left fun i hi => ?_
  rw [mapL_at hs (by omega), Nat.mul_one]
theorem map_shift {f : UInt8 → UInt8} {s : Blk} (hs : s.length = 16) : mapL f (shiftL 3 s) = unturnL f s := by
  unfold mapL shiftL unturnL
  rw [List.map_map]
  refine List.map_congr_left fun i hi => ?_
  simp only [Function.comp]
  congr 3
  omega
theorem roundsof_any (g n B : Nat) (key : Blk) (w : World) (h : RKey w B g n key) :
    Calls Try.prog 27 #[.pointer (some ⟨g, 0, none⟩)] w fun e w' => (∃ ad c, e = .returned (.slice (some ad) (n + 7) c) ∧ w.cell? ⟨g, 0, none⟩ = some (.slice (some ad) (n + 7) c)) ∧ w = w' := by
  obtain ⟨ad, c, c0, _, _, _⟩ := h.rv
  clear h
  have C0 := Lib.hid c0
  go_enter Try.func27, Try.ntmps27
  go_wp2_with fail
  go_ret
  exact ⟨⟨ad, c, rfl, C0.out⟩, rfl⟩
set_option maxRecDepth 100000 in
set_option maxHeartbeats 4000000 in
theorem refenc_any (g n : Nat) (key m : Blk) (A : Option Addr) (c : Nat) (w : World) (h : RKey w w.heap.size g n key) (hm : m.length = 16) (hr : Rd w w.heap.size A m) :
    Calls Try.prog 23 #[.pointer (some ⟨g, 0, none⟩), .slice A 16 c] w fun e w' => ∃ gv, e = .returned (.tuple #[.slice (some ⟨gv, 0, none⟩) 16 16, .int .i64 0]) ∧ RowV w' 5 gv (bvs (enc key m)) ∧ w.heap.size ≤ gv ∧ Below w.heap.size w w' := by
  obtain ⟨ad, cr, c0, hcr, hadl, hrows⟩ := h.rv
  obtain ⟨Ab, cb, c1, hbx⟩ := h.box
  have hgl := h.lt
  have hn := h.nk
  have hok := rounds_ok h.kl (by omega) (by omega)
  have hrl := rounds_length n key
  have hE : enc key m = encR (rounds n key) (n + 6) (n + 6) m := by
    unfold enc
    rw [show key.length / 4 = n by rw [h.kl]; omega]
  rw [hE]
  generalize rounds n key = R at *
  have n8 : n ≤ 8 := by omega
  obtain ⟨A0, k0, d0, hk0, hR0⟩ := hrows 0 (by omega)
  have HROWS := Lib.hid hrows
  have HBX := Lib.hid hbx
  have HOK := Lib.hid hok
  have HRL := Lib.hid hrl
  have HM := Lib.hid hm
  have HR := Lib.hid hr
  have HADL := Lib.hid hadl
  have hl0 : (rkey R 0).length = 16 := hok.at_ (by omega)
  have d0' : w.cell? ad = some (.slice A0 16 k0) := by
    rw [show ad.add 0 = ad by go_simp] at d0
    exact d0
  have HR0 := Lib.hid hR0
  have HL0 := Lib.hid hl0
  have C0 := Lib.hid c0
  have C1 := Lib.hid c1
  clear h hrows hbx hok hrl hm hr hE hn hR0 hl0
  go_enter Try.func23, Try.ntmps23
  go_wp2_with fail
  refine (reflay_any A A0 c k0 m (rkey R 0) HM.out HL0.out w HR.out HR0.out).mono ?_
  rintro e w1 ⟨rfl, hg1, hb1⟩
  have HG1 := Lib.hid (show RowV w1 5 w.heap.size (bvs (encR R (n + 6) 0 m)) from hg1)
  have HB1 := Lib.hid hb1
  have HTB := Lib.hid (show ∀ x : UInt8, sbs.getD x.toNat 0 = sb x from fun x => by rw [List.getD_eq_getElem?_getD, sbs_at]; rfl)
  clear hg1 hb1 c0 c1 d0 d0'
  go_wp2_with fail
  go_loopw [6, 7] (fun sv iv wr => ∃ i i1 gs : Nat, i1 = i + 1 ∧ i ≤ n + 6 ∧ iv = .int .i64 (i1 : Int) ∧ sv = .slice (some ⟨gs, 0, none⟩) 16 16 ∧ RowV wr 5 gs (bvs (encR R (n + 6) i m)) ∧ w.heap.size ≤ gs ∧ Below w.heap.size w wr) (fun _ iv _ => 64 - (intOf iv).toNat)
  case atStart => exact ⟨0, 1, _, rfl, by omega, rfl, rfl, HG1.out, Nat.le_refl _, HB1.out⟩
  case round =>
    obtain ⟨i, i1, gs, hi1, hi, rfl, rfl, hgs, hgw, hb⟩ := hrel
    clear HG1 HB1
    have hzr := hb.size
    have c0 := (hb.cell (p := ⟨g, 0, none⟩) hgl).trans C0.out
    have c1 := (hb.cell (p := ⟨g, 1, none⟩) hgl).trans C1.out
    have HG := Lib.hid hgs
    have HB := Lib.hid hb
    have HI1 := Lib.hid hi1
    have hi15 : i1 ≤ 15 := by omega
    clear hgs hb hi1
    obtain ⟨wo, rfl⟩ : ∃ wo : World, wo = wr := ⟨_, rfl⟩
    by_cases hlt : i < n + 6
    · have hlti : (i1 : Int) < (n : Int) + 7 := by have := HI1.out; omega
      obtain ⟨Ar, kr, d1, hkr, hRr⟩ := HROWS.out i1 (by have := HI1.out; omega)
      have hlr : (rkey R i1).length = 16 := HOK.out.at_ (by rw [HRL.out]; have := HI1.out; omega)
      have hst : encR R (n + 6) (i + 1) m = lay (if i + 1 < n + 6 then mixL (turnL sb (encR R (n + 6) i m)) else turnL sb (encR R (n + 6) i m)) (rkey R (i + 1)) := rfl
      have hsl : (encR R (n + 6) i m).length = 16 := encR_length HOK.out (n + 6) i m (by rw [HRL.out]; omega) HM.out
      rw [← HI1.out] at hst
      generalize encR R (n + 6) i m = s at *
      have HST := Lib.hid hst
      have HSL := Lib.hid hsl
      have D1 := Lib.hid d1
      have HRR := Lib.hid hRr
      have HLR := Lib.hid hlr
      clear hst hsl d1 hRr hlr hkr
      go_wp2_with fail
      refine (refswap_any (some ⟨gs, 0, none⟩) Ab 16 cb sb s sbs HSL.out sbs_length HTB.out wo (row_rd HG.out) (rd_now_ HBX.out HB.out)).mono ?_
      rintro e w2 ⟨rfl, hg2, hb2⟩
      have hz2 := hb2.size
      have HB2 := Lib.hid (HB.out.trans (hb2.mono hzr))
      have HG2 := Lib.hid hg2
      clear hg2 hb2
      go_wp2_with fail
      refine (refshift_any (some ⟨wo.heap.size, 0, none⟩) 16 1 (.inl rfl) (mapL sb s) (mapL_length HSL.out) w2 (row_rd HG2.out)).mono ?_
      rintro e w3 ⟨rfl, hg3, hb3⟩
      rw [shift_map HSL.out] at hg3
      have hz3 := hb3.size
      have HB3 := Lib.hid (HB2.out.trans (hb3.mono (by omega)))
      have HG3 := Lib.hid hg3
      have c03 := (HB3.out.cell (p := ⟨g, 0, none⟩) hgl).trans C0.out
      have d13 := (HB3.out.cell (p := ad.add i1) (by rw [add_block]; exact HADL.out)).trans D1.out
      clear hg3 hb3
      by_cases hlast : i1 < n + 6
      · have hl1 : (i1 : Int) < (n : Int) + 6 := by omega
        have HEN := Lib.hid (show encR R (n + 6) i1 m = lay (mixL (turnL sb s)) (rkey R i1) by
          have := HST.out
          rw [if_pos hlast] at this
          exact this)
        obtain ⟨W4, hW4⟩ : ∃ W4 : World, w3.alloc (.cells #[.int .i64 2, .int .i64 3, .int .i64 1, .int .i64 1] 3) = W4 := ⟨_, rfl⟩
        have hF4 : ∀ k, k < 4 → (fun k => [2, 3, 1, 1].getD k 0 : Nat → Nat) k < 16 := fun k hk => by
          have : k = 0 ∨ k = 1 ∨ k = 2 ∨ k = 3 := by omega
          rcases this with rfl | rfl | rfl | rfl <;> decide
        have hcells : ∀ k, k < 4 → W4.cell? (Addr.add ⟨w3.heap.size, 0, none⟩ k) = some (.int .i64 (((fun k => [2, 3, 1, 1].getD k 0 : Nat → Nat) k : Nat) : Int)) := fun k hk => by
          rw [← hW4, addr_add, Nat.zero_add, cell_of_row _ _ k _ _ (0, 0) (heap_alloc_new w3 _)]
          have : k = 0 ∨ k = 1 ∨ k = 2 ∨ k = 3 := by omega
          rcases this with rfl | rfl | rfl | rfl <;> rfl
        have hba : Below w3.heap.size w3 W4 := by rw [← hW4]; exact (Below.refl _ _).alloc (Nat.le_refl _) _
        have hza : W4.heap.size = w3.heap.size + 1 := by rw [← hW4]; simp
        have HW4 := Lib.hid hW4
        have HCL := Lib.hid hcells
        have HBA := Lib.hid hba
        clear hW4 hcells hba
        go_wp2_with fail
        rw [HW4.out]
        refine (refmix_any (some ⟨w2.heap.size, 0, none⟩) ⟨w3.heap.size, 0, none⟩ 16 4 (fun k => [2, 3, 1, 1].getD k 0) hF4 (turnL sb s) (turnL_length _ _) W4 (rd_now_ (row_rd HG3.out) HBA.out) (by simp only; omega) HCL.out).mono ?_
        rintro e w5 ⟨rfl, hg5, hb5⟩
        rw [mixF_mix rfl rfl rfl rfl] at hg5
        have hz5 := hb5.size
        have HB3 := Lib.hid ((HB3.out.trans (HBA.out.mono (by omega))).trans (hb5.mono (by omega)))
        have HG5 := Lib.hid hg5
        have c05 := (HB3.out.cell (p := ⟨g, 0, none⟩) hgl).trans C0.out
        have d15 := (HB3.out.cell (p := ad.add i1) (by rw [add_block]; exact HADL.out)).trans D1.out
        have hz35 : w3.heap.size ≤ w5.heap.size := by omega
        clear hg5 hb5 c03 d13 hza hz5 c0 c1 hF4
        go_wp2_with fail
        refine (reflay_any (some ⟨W4.heap.size, 0, none⟩) Ar 16 kr (mixL (turnL sb s)) (rkey R i1) (colL_length _ _) HLR.out w5 (row_rd HG5.out) (rd_now_ HRR.out HB3.out)).mono ?_
        rintro e w4 ⟨rfl, hg4, hb4⟩
        have hz4 := hb4.size
        have HB4 := Lib.hid (HB3.out.trans (hb4.mono (by omega)))
        have hg4' : RowV w4 5 w5.heap.size (bvs (encR R (n + 6) (i + 1) m)) := by rw [← HI1.out, HEN.out]; exact hg4
        have HG4 := Lib.hid hg4'
        clear hg4 hb4 hg4'
        go_wp2_with fail
        go_roundw
        case rel => exact ⟨i + 1, i1 + 1, _, by have := HI1.out; omega, by omega, by go_num, rfl, HG4.out, by omega, HB4.out⟩
        case measure => simp [intOf]; omega
      · have hl1 : ¬ (i1 : Int) < (n : Int) + 6 := by omega
        have HEN := Lib.hid (show encR R (n + 6) i1 m = lay (turnL sb s) (rkey R i1) by
          have := HST.out
          rw [if_neg hlast] at this
          exact this)
        go_wp2_with fail
        refine (reflay_any (some ⟨w2.heap.size, 0, none⟩) Ar 16 kr (turnL sb s) (rkey R i1) (turnL_length _ _) HLR.out w3 (row_rd HG3.out) (rd_now_ HRR.out HB3.out)).mono ?_
        rintro e w4 ⟨rfl, hg4, hb4⟩
        have hz4 := hb4.size
        have HB4 := Lib.hid (HB3.out.trans (hb4.mono (by omega)))
        have hg4' : RowV w4 5 w3.heap.size (bvs (encR R (n + 6) (i + 1) m)) := by rw [← HI1.out, HEN.out]; exact hg4
        have HG4 := Lib.hid hg4'
        clear hg4 hb4 hg4'
        go_wp2_with fail
        go_roundw
        case rel => exact ⟨i + 1, i1 + 1, _, by have := HI1.out; omega, by omega, by go_num, rfl, HG4.out, by omega, HB4.out⟩
        case measure => simp [intOf]; omega
    · have hie : i = n + 6 := by omega
      subst hie
      have hli : ¬ (i1 : Int) < (n : Int) + 7 := by have := HI1.out; omega
      go_wp2_with fail
      go_ret2
      exact ⟨gs, rfl, HG.out, hgw, HB.out⟩
end Go.Proofs.Ytcbihjcnnfohmaa.Aes
