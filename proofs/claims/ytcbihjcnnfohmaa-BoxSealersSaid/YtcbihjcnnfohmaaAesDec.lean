/- A block decrypted; a key's round keys; wrong lengths: contracts. -/
import Derived.Test.YtcbihjcnnfohmaaAesEnc
namespace Go.Proofs.Ytcbihjcnnfohmaa.Aes
open Go Go.ChangeShapes Go.WideShapes Go.ChangeAt Go.RowKit Go.Proofs.Ytcbihjcnnfohmaa.Fld
set_option linter.unusedVariables false
set_option linter.unusedSimpArgs false
set_option maxRecDepth 100000 in
set_option maxHeartbeats 2000000 in
theorem dec_any (base : Nat) (B : Nat → Prop) (g : Nat) (key p : Blk) (A : Option Addr) (c : Nat) (w : World) (h : KeyIs w base B g key) (hbase : base ≤ w.heap.size) (hp : p.length = 16) (hc : 16 ≤ c) (hr : RdS w (Off w B) A p) :
    Calls Try.prog 21 #[.pointer (some ⟨g, 0, none⟩), .slice A 16 c] w fun e w' => ∃ v B', e = .returned (.tuple #[v, .int .i64 0]) ∧ Own w' 5 w.heap.size v (dec key p) ∧ KeyR w' base B' g key ∧ Frame (Off w B) w w' ∧ (∀ k, B' k → B k ∨ w.heap.size ≤ k) ∧ ∀ k, v.ownBlock = some k → ¬ B' k := by
  obtain ⟨b, o, rfl, hb, hrg⟩ := rd_addr hr (by omega)
  have HRG := Lib.hid hrg
  have HP := Lib.hid hp
  have HH := Lib.hid h
  clear h hr hrg hp
  go_enter Try.func21, Try.ntmps21
  go_wp2_with fail
  refine (ready_any base B g key _ HH.out hbase).mono ?_
  rintro e w1 ⟨rfl, B1, hK1, hf1, hB1⟩
  obtain ⟨gR, cR, hv, hcR⟩ := hK1.view
  have hok := hK1.lt
  have hkk := (KeyIs.ok (.inr hK1)).four
  have hro := (KeyIs.ok (.inr hK1)).rounds
  have hrl := rounds_length (key.length / 4) key
  have hen : dec key p = decR (rounds (key.length / 4) key) (key.length / 4 + 6) (key.length / 4 + 6) p := rfl
  obtain ⟨n, hn⟩ : ∃ n, key.length / 4 = n := ⟨_, rfl⟩
  rw [hn] at hv hkk hro hrl hcR hen
  obtain ⟨m, hm⟩ : ∃ m, n + 6 = m := ⟨_, rfl⟩
  rw [hm] at hen
  have hrg1 : w1.rangeAt b o (bvs p) := fun j v hj => (World.cell?_of_block (a := ⟨b, o + j, none⟩) (hf1.block b hb)).trans (HRG.out j v hj)
  have har := fun w => arr16_at b o 16 c w rfl
  have hgb : RowV (w1.alloc (.cells (bvs p).toArray 80)) 80 w1.heap.size (bvs p) := heap_alloc_new w1 _
  have hfa : Frame (fun k => k < w1.heap.size) w1 (w1.alloc (.cells (bvs p).toArray 80)) := (Frame.refl _ _).alloc (fun b h => h) _
  have hva := hv.frame hfa hv.gl hv.rl
  obtain ⟨raw, hob⟩ := hva.obj
  have c0 := hob.cell (ko_rv sbs_length uss_length)
  have hk0 := hva.rk 0 (by omega)
  rw [Nat.zero_mul] at hk0
  have hk0l : (rkey (rounds n key) 0).length = 16 := hro.at_ (by rw [hrl]; omega)
  have hm1 : ((n + 7 : Nat) : Int) - 1 = (m : Int) := by omega
  have n8 : n ≤ 8 := by omega
  have m14 : m ≤ 14 := by omega
  have hwm : wrap64 (m : Int) = (m : Int) := IntWalk.wrap64_in _ ⟨by omega, by omega⟩
  have mn : m = n + 6 := hm.symm
  obtain ⟨N7, hN7⟩ : ∃ N7, n + 7 = N7 := ⟨_, rfl⟩
  rw [hN7] at c0 hm1 hcR
  have hN0 : 0 < N7 := by omega
  have HN7 := Lib.hid hN7
  have HRG1 := Lib.hid hrg1
  have HGB := Lib.hid hgb
  have HFA := Lib.hid hfa
  have HV := Lib.hid hv
  have HK1 := Lib.hid hK1
  have HF1 := Lib.hid hf1
  have HB1 := Lib.hid hB1
  have HRO := Lib.hid hro
  have HRL := Lib.hid hrl
  have HEN := Lib.hid hen
  have HK0 := Lib.hid hk0
  have HK0L := Lib.hid hk0l
  have HM := Lib.hid mn
  have HPL := Lib.hid (show (bvs p).length = 16 by rw [bvs_length]; exact HP.out)
  have HK0B := Lib.hid (show (bvs (rkey (rounds n key) 0)).length = 16 by rw [bvs_length]; exact HK0L.out)
  have hg1 : g < w1.heap.size := hv.gl
  have hr1 : gR < w1.heap.size := hv.rl
  clear hrg1 hgb hfa hv hva hob hK1 hf1 hB1 hkk hro hrl hen hk0 hk0l hok hm hn mn hN7
  go_wp2_with (first
    | (with_reducible refine at_slot 16 ?_
       refine wpList_load_mid rfl _ _ rfl b o rfl (bvs p) (.array 16 5) HRG1.out Try.underlying80 rfl (by rw [HPL.out]; kernel_rfl) ?_)
    | (with_reducible refine at_store 6 ?_
       refine wpList_store_new rfl _ _ _ rfl _ _ (bvs p) rfl rfl (by rw [HPL.out]; kernel_rfl) (by rw [HPL.out]; rfl) (bvs_one _) ?_))
  obtain ⟨gb, hgb⟩ : ∃ gb, w1.heap.size = gb := ⟨_, rfl⟩
  have HGBE := Lib.hid hgb
  have h2 := HGB.out
  have hF2 := HFA.out
  rw [hgb] at h2
  have H2 := Lib.hid h2
  have HF2 := Lib.hid hF2
  rw [hgb]
  clear h2 hF2 hgb c0 hm1 hwm
  go_loopw [8] (fun i wr => ∃ t : Nat, t ≤ m ∧ i = .int .i64 (t : Int) ∧ ∃ s : Blk, s.length = 16 ∧ decR (rounds n key) m t s = dec key p ∧ RowV wr 80 gb (bvs s) ∧ Frame (fun k => k < w1.heap.size) w1 wr) (fun i _ => (intOf i).toNat)
  case atStart => exact ⟨m, by omega, rfl, p, HP.out, HEN.out.symm, H2.out, HF2.out⟩
  case round =>
    obtain ⟨t, htm, rfl, s, hs, hde, hx, hf⟩ := hrel
    clear H2 HF2
    have hv := HV.out.frame hf hg1 hr1
    obtain ⟨raw2, hob⟩ := hv.obj
    have hgne : g ≠ gb := by have := HGBE.out; omega
    have c4 := hob.cell (ko_rv sbs_length uss_length)
    have htN : t < N7 := by have := HN7.out; have := HM.out; omega
    rw [HN7.out] at c4
    have hk4 := hv.rk t (by rw [HN7.out]; exact htN)
    have hk4l : (rkey (rounds n key) t).length = 16 := HRO.out.at_ (by rw [HRL.out, HN7.out]; exact htN)
    have gbl := hx.lt
    have HKL := Lib.hid hk4l
    have HK4 := Lib.hid hk4
    have HKB := Lib.hid (show (bvs (rkey (rounds n key) t)).length = 16 by rw [bvs_length]; exact hk4l)
    have HS := Lib.hid hs
    have HDE := Lib.hid hde
    have HX := Lib.hid hx
    have HF := Lib.hid hf
    have hll := lay_length hs hk4l
    have HLL := Lib.hid hll
    clear hs hde hx hf hob hv hk4 hk4l hll
    by_cases h0 : 0 < t
    · have h0i : (0 : Int) < (t : Int) := by omega
      go_wp2_with (with_reducible refine at_slot 34 ?_
                   refine wpList_load_mid rfl _ _ rfl gR (t * 16) rfl (bvs (rkey (rounds n key) t)) (.array 16 5) HK4.out Try.underlying80 rfl (by rw [HKB.out]; kernel_rfl) ?_)
      refine (lay_any gb _ s (rkey (rounds n key) t) HS.out HKL.out _ HX.out).mono ?_
      rintro e w3 ⟨rfl, h3, hf3⟩
      have hF3 : Frame (fun k => k < w1.heap.size) w1 w3 := Frame.trans HF.out hf3 (fun k hk => ⟨Nat.lt_of_lt_of_le hk HF.out.size, by have := HGBE.out; omega⟩)
      have H3 := Lib.hid h3
      have HF3 := Lib.hid hF3
      clear h3 hf3 hF3 c4
      by_cases hlt : t < m
      · go_wp2_with fail
        refine (unmix_any gb _ (lay s (rkey (rounds n key) t)) HLL.out _ H3.out).mono ?_
        rintro e w4 ⟨rfl, h4, hf4⟩
        have hF4 : Frame (fun k => k < w1.heap.size) w1 w4 := Frame.trans HF3.out hf4 (fun k hk => ⟨Nat.lt_of_lt_of_le hk HF3.out.size, by have := HGBE.out; omega⟩)
        have hl4 : (unmixL (lay s (rkey (rounds n key) t))).length = 16 := colL_length _ _
        have hst : decR (rounds n key) m (t - 1) (unturnL us (unmixL (lay s (rkey (rounds n key) t)))) = dec key p := by
          rw [← HDE.out]
          obtain ⟨u, rfl⟩ : ∃ u, t = u + 1 := ⟨t - 1, by omega⟩
          show decR _ _ u _ = decR _ _ u (unturnL us (if u + 1 < m then _ else _)); rw [if_pos (by omega)]
        have hv4 := HV.out.frame hF4 hg1 hr1
        obtain ⟨raw4, hob4⟩ := hv4.obj
        have htb4 := tbl_unbox hob4
        have hg4 : g < w4.heap.size := hv4.gl
        have H4 := Lib.hid h4
        have HF4 := Lib.hid hF4
        have HL4 := Lib.hid hl4
        have HST := Lib.hid hst
        have HTB4 := Lib.hid htb4
        clear h4 hF4 hl4 hst hv4 hob4 htb4
        go_wp2_with fail
        refine (unturn_any gb g 260 _ us _ HL4.out _ H4.out HTB4.out hgne hg4).mono ?_
        rintro e w5 ⟨rfl, h5, hf5⟩
        have hF5 : Frame (fun k => k < w1.heap.size) w1 w5 := Frame.trans HF4.out hf5 (fun k hk => ⟨Nat.lt_of_lt_of_le hk HF4.out.size, by have := HGBE.out; omega⟩)
        have H5 := Lib.hid h5
        have HF5 := Lib.hid hF5
        clear h5 hf5 hF5
        go_wp2_with fail
        go_roundw
        case rel => exact ⟨t - 1, by omega, by (congr 1; omega), _, unturnL_length _ _, HST.out, H5.out, HF5.out⟩
        case measure => simp [intOf] <;> omega
      · have hl4 := HLL.out
        have hst : decR (rounds n key) m (t - 1) (unturnL us (lay s (rkey (rounds n key) t))) = dec key p := by
          rw [← HDE.out]
          obtain ⟨u, rfl⟩ : ∃ u, t = u + 1 := ⟨t - 1, by omega⟩
          show decR _ _ u _ = decR _ _ u (unturnL us (if u + 1 < m then _ else _)); rw [if_neg (by omega)]
        have h4 := H3.out
        have hF4 := HF3.out
        obtain ⟨w4, hw4⟩ : ∃ w4 : World, w4 = w3 := ⟨_, rfl⟩
        subst hw4
        have hv4 := HV.out.frame hF4 hg1 hr1
        obtain ⟨raw4, hob4⟩ := hv4.obj
        have htb4 := tbl_unbox hob4
        have hg4 : g < w4.heap.size := hv4.gl
        have H4 := Lib.hid h4
        have HF4 := Lib.hid hF4
        have HL4 := Lib.hid hl4
        have HST := Lib.hid hst
        have HTB4 := Lib.hid htb4
        clear h4 hF4 hl4 hst hv4 hob4 htb4
        go_wp2_with fail
        refine (unturn_any gb g 260 _ us _ HL4.out _ H4.out HTB4.out hgne hg4).mono ?_
        rintro e w5 ⟨rfl, h5, hf5⟩
        have hF5 : Frame (fun k => k < w1.heap.size) w1 w5 := Frame.trans HF4.out hf5 (fun k hk => ⟨Nat.lt_of_lt_of_le hk HF4.out.size, by have := HGBE.out; omega⟩)
        have H5 := Lib.hid h5
        have HF5 := Lib.hid hF5
        clear h5 hf5 hF5
        go_wp2_with fail
        go_roundw
        case rel => exact ⟨t - 1, by omega, by (congr 1; omega), _, unturnL_length _ _, HST.out, H5.out, HF5.out⟩
        case measure => simp [intOf] <;> omega
    · have e0 : t = 0 := by omega
      subst e0
      have hK0' := HK4.out
      rw [Nat.zero_mul] at hK0'
      have HK0' := Lib.hid hK0'
      have hsl := slice_all gb
      clear hK0' h0
      rw [show ((0 : Nat) : Int) = 0 from rfl]
      go_wp2_with (with_reducible refine at_slot 49 ?_
                   refine wpList_load_mid rfl _ _ rfl gR 0 rfl (bvs (rkey (rounds n key) 0)) (.array 16 5) HK0'.out Try.underlying80 rfl (by rw [HKB.out]; kernel_rfl) ?_)
      refine (lay_any gb _ s (rkey (rounds n key) 0) HS.out HKL.out _ HX.out).mono ?_
      rintro e w3 ⟨rfl, h3, hf3⟩
      have hF3 : Frame (fun k => k < w1.heap.size) w1 w3 := Frame.trans HF.out hf3 (fun k hk => ⟨Nat.lt_of_lt_of_le hk HF.out.size, by have := HGBE.out; omega⟩)
      have hrow := row_rd h3
      have HROW := Lib.hid hrow
      have HF3 := Lib.hid hF3
      clear hrow h3 hf3 hF3
      go_wp2_with fail
      refine (bclone_any (some ⟨gb, 0, none⟩) 16 16 (lay s (rkey (rounds n key) 0)) _ w3.heap.size (Nat.le_refl _) HLL.out (by omega) HROW.out).mono ?_
      rintro e w5 ⟨v, rfl, hO, hb5⟩
      have hF5 : Frame (fun k => k < w1.heap.size) w1 w5 := Frame.trans HF3.out (Frame.of_below hb5 (S := fun k => k < w1.heap.size) (fun k hk => Nat.lt_of_lt_of_le hk HF3.out.size)) (fun k hk => hk)
      have HO := Lib.hid hO
      have HF5 := Lib.hid hF5
      clear hO hb5 hF5 hsl c4
      go_wp2_with fail
      go_ret2
      have hs1 := HF1.out.size
      have hs2 := HF3.out.size
      refine ⟨v, B1, rfl, ?_, HK1.out.frame HF5.out (fun k hk => (HK1.out.lt k hk).2), Frame.trans HF1.out HF5.out (fun k hk => Nat.lt_of_lt_of_le hk.1 HF1.out.size), HB1.out, fun k hk hB => ?_⟩
      · rw [← HDE.out]; exact HO.out.mono (by omega)
      · have h1 := (HO.out.lt k hk).1
        have h2 := (HK1.out.lt k hB).2
        omega
end Go.Proofs.Ytcbihjcnnfohmaa.Aes
