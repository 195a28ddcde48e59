/- A block encrypted, decrypted: contracts. -/
import Derived.Test.YtcbihjcnnfohmaaAesReady
namespace Go.Proofs.Ytcbihjcnnfohmaa.Aes
open Go Go.ChangeShapes Go.WideShapes Go.ChangeAt Go.RowKit Go.Proofs.Ytcbihjcnnfohmaa.Fld
set_option linter.unusedVariables false
set_option linter.unusedSimpArgs false

theorem flat_at {N : Nat} : ∀ {R : List Blk}, (∀ r ∈ R, r.length = N) → ∀ {k : Nat}, k < R.length → (R.flatten.drop (N * k)).take N = rkey R k
  | [], _, k, h => absurd h (by simp)
  | t :: R, h, 0, _ => by
    have ht := h t (by simp)
    rw [Nat.mul_zero, List.drop_zero, List.flatten_cons, List.take_append_of_le_length (by omega), List.take_of_length_le (by omega)]; rfl
  | t :: R, h, k+1, hk => by
    have ht := h t (by simp)
    rw [List.flatten_cons, show N * (k + 1) = t.length + N * k by rw [ht, Nat.mul_succ]; omega, ← List.drop_drop, List.drop_left]
    exact flat_at (fun x hx => h x (List.mem_cons_of_mem _ hx)) (by simpa using hk)
/-- where bytes lie -/
theorem rd_addr {w : World} {S : Nat → Prop} {A : Option Addr} {l : List UInt8} (h : RdS w S A l) (h0 : 0 < l.length) : ∃ b o, A = some ⟨b, o, none⟩ ∧ S b ∧ w.rangeAt b o (bvs l) := by
  obtain ⟨ad, rfl, hb, hc⟩ := h h0
  have h1 := hc 0 h0
  have hs : ad.spot = none := by
    rw [show ad.add 0 = ad by unfold Addr.add; simp] at h1
    obtain ⟨_, _, _, _, h⟩ := World.shape?_of_cell? h1
    exact h
  obtain ⟨b, o, s⟩ := ad
  simp only at hs
  subst hs
  refine ⟨b, o, rfl, hb, fun j v hj => ?_⟩
  have hj' : j < l.length := by have := (List.getElem?_eq_some_iff.1 hj).1; rwa [bvs_length] at this
  rw [bvs_get hj'] at hj
  injection hj with hj
  rw [← addr_add, hc j hj', hj]
/-- a key that was asked: what its walks look at -/
structure KeyV (w : World) (g gR n cR : Nat) (key : Blk) : Prop where
  obj : ∃ raw, RowV w 74 g (keyObj raw (.slice (some ⟨gR, 0, none⟩) (n + 7) cR) 1 0 sbs uss)
  rk : ∀ t, t < n + 7 → w.rangeAt gR (t * 16) (bvs (rkey (rounds n key) t))
  gl : g < w.heap.size
  rl : gR < w.heap.size
theorem KeyR.view {w : World} {base g : Nat} {B : Nat → Prop} {key : Blk} (h : KeyR w base B g key) : ∃ gR cR, KeyV w g gR (key.length / 4) cR key ∧ key.length / 4 + 7 ≤ cR := by
  obtain ⟨raw, rv, hx, hr⟩ := h
  obtain ⟨gR, cR, rfl, hc, _, _, hl, hcell⟩ := roww_at hr (by omega)
  refine ⟨gR, cR, ⟨⟨raw, hx.obj⟩, fun t ht => ?_, hx.obj.lt, hl⟩, hc⟩
  have hf := flat_at (N := 16) hx.ok.rounds (k := t) (by rw [rounds_length]; exact ht)
  rw [← hf, show t * 16 = 0 + 16 * t by omega]
  exact ownv_range (fun i u hi => by rw [Nat.zero_add]; exact hcell i u hi) (16 * t) 16
theorem KeyV.frame {w w' : World} {g gR n cR : Nat} {key : Blk} {S : Nat → Prop} (h : KeyV w g gR n cR key) (hf : Frame S w w') (h1 : S g) (h2 : S gR) : KeyV w' g gR n cR key := by
  obtain ⟨raw, ho⟩ := h.obj
  exact ⟨⟨raw, ho.keep (hf.block g h1)⟩, fun t ht j v hj => (World.cell?_of_block (a := ⟨gR, t * 16 + j, none⟩) (hf.block gR h2)).trans (h.rk t ht j v hj), Nat.lt_of_lt_of_le h.gl hf.size, Nat.lt_of_lt_of_le h.rl hf.size⟩
theorem slice_all (g : Nat) (w : World) : (Instr.sliceAt 80 (.pointer (some ⟨g, 0, none⟩)) none none none).run Try.prog w = .ok (.slice (some ⟨g, 0, none⟩) 16 16) w := by
  have hu : Try.prog.underlying 80 = some (.array (Try.prog.arrayLen 80) (Try.prog.elem 80)) := by kernel_rfl
  have hl : Try.prog.arrayLen 80 = 16 := by kernel_rfl
  have hz : (sizeOf (Try.prog.elem 80)).run Try.prog w = .ok 1 w := by kernel_rfl
  rw [run_sliceAt_array_all w _ _ hu, hz, Result.andThen_ok, slicedAt, hl]
  rfl
theorem row_rd {w : World} {T : TypeId} {g : Nat} {s : List UInt8} (h : RowV w T g (bvs s)) : Rd w w.heap.size (some ⟨g, 0, none⟩) s := fun h0 => ⟨_, rfl, h.lt, fun j hj => by rw [add_zero_block]; exact h.cell (bvs_get hj)⟩
theorem turn_len {f : UInt8 → UInt8} {s : Blk} : (turnL f s).length = 16 := turnL_length _ _

set_option maxRecDepth 100000 in
set_option maxHeartbeats 2000000 in
theorem enc_any (base : Nat) (B : Nat → Prop) (g : Nat) (key p : Blk) (A : Option Addr) (c : Nat) (w : World) (h : KeyIs w base B g key) (hbase : base ≤ w.heap.size) (hp : p.length = 16) (hc : 16 ≤ c) (hr : RdS w (Off w B) A p) :
    Calls Try.prog 20 #[.pointer (some ⟨g, 0, none⟩), .slice A 16 c] w fun e w' => ∃ v B', e = .returned (.tuple #[v, .int .i64 0]) ∧ Own w' 5 w.heap.size v (enc key p) ∧ KeyR w' base B' g key ∧ Frame (Off w B) w w' ∧ (∀ k, B' k → B k ∨ w.heap.size ≤ k) ∧ ∀ k, v.ownBlock = some k → ¬ B' k := by
  obtain ⟨b, o, rfl, hb, hrg⟩ := rd_addr hr (by omega)
  have HRG := Lib.hid hrg
  have HP := Lib.hid hp
  have HH := Lib.hid h
  clear h hr hrg hp
  go_enter Try.func20, Try.ntmps20
  go_wp2_with fail
  refine (ready_any base B g key _ HH.out hbase).mono ?_
  rintro e w1 ⟨rfl, B1, hK1, hf1, hB1⟩
  obtain ⟨gR, cR, hv, hcR⟩ := hK1.view
  have hok := hK1.lt
  have hkk := (KeyIs.ok (.inr hK1)).four
  have hro := (KeyIs.ok (.inr hK1)).rounds
  have hrl := rounds_length (key.length / 4) key
  have hen : enc key p = encR (rounds (key.length / 4) key) (key.length / 4 + 6) (key.length / 4 + 6) p := rfl
  obtain ⟨n, hn⟩ : ∃ n, key.length / 4 = n := ⟨_, rfl⟩
  rw [hn] at hv hkk hro hrl hcR hen
  obtain ⟨m, hm⟩ : ∃ m, n + 6 = m := ⟨_, rfl⟩
  rw [hm] at hen
  have hrg1 : w1.rangeAt b o (bvs p) := fun j v hj => (World.cell?_of_block (a := ⟨b, o + j, none⟩) (hf1.block b hb)).trans (HRG.out j v hj)
  have har := fun w => arr16_at b o 16 c w rfl
  have hgb : RowV (w1.alloc (.cells (bvs p).toArray 80)) 80 w1.heap.size (bvs p) := heap_alloc_new w1 _
  have hfa : Frame (fun k => k < w1.heap.size) w1 (w1.alloc (.cells (bvs p).toArray 80)) := (Frame.refl _ _).alloc (fun b h => h) _
  have hva := hv.frame hfa hv.gl hv.rl
  obtain ⟨raw, hob⟩ := hva.obj
  have c0 := hob.cell (ko_rv sbs_length uss_length)
  have hk0 := hva.rk 0 (by omega)
  rw [Nat.zero_mul] at hk0
  have hk0l : (rkey (rounds n key) 0).length = 16 := hro.at_ (by rw [hrl]; omega)
  have hm1 : ((n + 7 : Nat) : Int) - 1 = (m : Int) := by omega
  have n8 : n ≤ 8 := by omega
  have m14 : m ≤ 14 := by omega
  have hwm : wrap64 (m : Int) = (m : Int) := IntWalk.wrap64_in _ ⟨by omega, by omega⟩
  have mn : m = n + 6 := hm.symm
  obtain ⟨N7, hN7⟩ : ∃ N7, n + 7 = N7 := ⟨_, rfl⟩
  rw [hN7] at c0 hm1 hcR
  have hN0 : 0 < N7 := by omega
  have HN7 := Lib.hid hN7
  have HRG1 := Lib.hid hrg1
  have HGB := Lib.hid hgb
  have HFA := Lib.hid hfa
  have HV := Lib.hid hv
  have HK1 := Lib.hid hK1
  have HF1 := Lib.hid hf1
  have HB1 := Lib.hid hB1
  have HRO := Lib.hid hro
  have HRL := Lib.hid hrl
  have HEN := Lib.hid hen
  have HK0 := Lib.hid hk0
  have HK0L := Lib.hid hk0l
  have HM := Lib.hid mn
  have HPL := Lib.hid (show (bvs p).length = 16 by rw [bvs_length]; exact HP.out)
  have HK0B := Lib.hid (show (bvs (rkey (rounds n key) 0)).length = 16 by rw [bvs_length]; exact HK0L.out)
  have hg1 : g < w1.heap.size := hv.gl
  have hr1 : gR < w1.heap.size := hv.rl
  clear hrg1 hgb hfa hv hva hob hK1 hf1 hB1 hkk hro hrl hen hk0 hk0l hok hm hn mn hN7
  go_wp2_with (first
    | (with_reducible refine at_slot 16 ?_
       refine wpList_load_mid rfl _ _ rfl b o rfl (bvs p) (.array 16 5) HRG1.out Try.underlying80 rfl (by rw [HPL.out]; kernel_rfl) ?_)
    | (with_reducible refine at_store 6 ?_
       refine wpList_store_new rfl _ _ _ rfl _ _ (bvs p) rfl rfl (by rw [HPL.out]; kernel_rfl) (by rw [HPL.out]; rfl) (bvs_one _) ?_)
    | (with_reducible refine at_slot 28 ?_
       refine wpList_load_mid rfl _ _ rfl gR 0 rfl (bvs (rkey (rounds n key) 0)) (.array 16 5) HK0.out Try.underlying80 rfl (by rw [HK0B.out]; kernel_rfl) ?_))
  refine (lay_any w1.heap.size _ p (rkey (rounds n key) 0) HP.out HK0L.out _ HGB.out).mono ?_
  rintro e w2 ⟨rfl, h2, hf2⟩
  have hF2 : Frame (fun k => k < w1.heap.size) w1 w2 := Frame.trans HFA.out hf2 (fun k hk => ⟨by simp; omega, by omega⟩)
  obtain ⟨gb, hgb⟩ : ∃ gb, w1.heap.size = gb := ⟨_, rfl⟩
  rw [hgb] at h2
  have HGBE := Lib.hid hgb
  have H2 := Lib.hid h2
  have HF2 := Lib.hid hF2
  rw [hgb]
  clear h2 hf2 hF2 hgb c0 hm1 hwm
  go_wp2_with fail
  go_loopw [8] (fun i wr => ∃ t u : Nat, t = u + 1 ∧ u ≤ m ∧ i = .int .i64 (t : Int) ∧ RowV wr 80 gb (bvs (encR (rounds n key) m u p)) ∧ Frame (fun k => k < w1.heap.size) w1 wr) (fun i _ => 100 - (intOf i).toNat)
  case atStart => exact ⟨1, 0, rfl, by omega, rfl, H2.out, HF2.out⟩
  case round =>
    obtain ⟨t, u, htu, hum, rfl, hx, hf⟩ := hrel
    clear H2 HF2
    have HTU := Lib.hid htu
    have t1 : u + 1 ≤ t := by omega
    have t2 : t ≤ u + 1 := by omega
    clear htu
    have hxl : (encR (rounds n key) m u p).length = 16 := encR_length HRO.out m u p (by rw [HRL.out]; have := HM.out; omega) HP.out
    have hv := HV.out.frame hf hg1 hr1
    obtain ⟨raw2, hob⟩ := hv.obj
    have htb := tbl_box hob
    have hgne : g ≠ gb := by have := HGBE.out; omega
    have hg2 : g < wr.heap.size := hv.gl
    have hfs := hf.size
    have gbl := hx.lt
    have HXL := Lib.hid hxl
    have HX := Lib.hid hx
    have HF := Lib.hid hf
    have HTB := Lib.hid htb
    clear hxl hx hf hob htb hfs hv
    by_cases hle : t ≤ m
    · go_wp2_with fail
      refine (turn_any gb g 4 _ sb (encR (rounds n key) m u p) HXL.out _ HX.out HTB.out hgne hg2).mono ?_
      rintro e w3 ⟨rfl, h3, hf3⟩
      have hF3 : Frame (fun k => k < w1.heap.size) w1 w3 := Frame.trans HF.out hf3 (fun k hk => ⟨Nat.lt_of_lt_of_le hk HF.out.size, by have := HGBE.out; omega⟩)
      have H3 := Lib.hid h3
      have HF3 := Lib.hid hF3
      clear h3 hf3 hF3
      by_cases hlt : t < m
      · go_wp2_with fail
        refine (mix_any gb _ _ turn_len _ H3.out).mono ?_
        rintro e w4 ⟨rfl, h4, hf4⟩
        have hF4 : Frame (fun k => k < w1.heap.size) w1 w4 := Frame.trans HF3.out hf4 (fun k hk => ⟨Nat.lt_of_lt_of_le hk HF3.out.size, by have := HGBE.out; omega⟩)
        have hl4 : (mixL (turnL sb (encR (rounds n key) m u p))).length = 16 := colL_length _ _
        have hst : encR (rounds n key) m t p = lay (mixL (turnL sb (encR (rounds n key) m u p))) (rkey (rounds n key) t) := by
          rw [HTU.out]; show lay (if u + 1 < m then _ else _) _ = _; rw [if_pos (by omega)]
        have hv4 := HV.out.frame hF4 hg1 hr1
        obtain ⟨raw4, hob4⟩ := hv4.obj
        have c4 := hob4.cell (ko_rv sbs_length uss_length)
        have htN : t < N7 := by have := HN7.out; have := HM.out; omega
        rw [HN7.out] at c4
        have hk4 := hv4.rk t (by rw [HN7.out]; exact htN)
        have hk4l : (rkey (rounds n key) t).length = 16 := HRO.out.at_ (by rw [HRL.out, HN7.out]; exact htN)
        have HKL := Lib.hid hk4l
        have HK4 := Lib.hid hk4
        have HKB := Lib.hid (show (bvs (rkey (rounds n key) t)).length = 16 by rw [bvs_length]; exact hk4l)
        have H4 := Lib.hid h4
        have HF4 := Lib.hid hF4
        have HL4 := Lib.hid hl4
        have HST := Lib.hid hst
        clear h4 hF4 hl4 hst hv4 hob4 hk4 hk4l
        go_wp2_with (with_reducible refine at_slot 49 ?_
                     refine wpList_load_mid rfl _ _ rfl gR (t * 16) rfl (bvs (rkey (rounds n key) t)) (.array 16 5) HK4.out Try.underlying80 rfl (by rw [HKB.out]; kernel_rfl) ?_)
        refine (lay_any gb _ _ (rkey (rounds n key) t) HL4.out HKL.out _ H4.out).mono ?_
        rintro e w5 ⟨rfl, h5, hf5⟩
        have hF5 : Frame (fun k => k < w1.heap.size) w1 w5 := Frame.trans HF4.out hf5 (fun k hk => ⟨Nat.lt_of_lt_of_le hk HF4.out.size, by have := HGBE.out; omega⟩)
        rw [← HST.out] at h5
        have H5 := Lib.hid h5
        have HF5 := Lib.hid hF5
        clear h5 hf5 hF5 c4
        go_wp2_with fail
        go_roundw
        case rel => exact ⟨t + 1, t, rfl, hle, by go_num, H5.out, HF5.out⟩
        case measure => simp [intOf] <;> omega
      · have hl4 : (turnL sb (encR (rounds n key) m u p)).length = 16 := turn_len
        have hst : encR (rounds n key) m t p = lay (turnL sb (encR (rounds n key) m u p)) (rkey (rounds n key) t) := by
          rw [HTU.out]; show lay (if u + 1 < m then _ else _) _ = _; rw [if_neg (by omega)]
        have h4 := H3.out
        have hF4 := HF3.out
        obtain ⟨w4, hw4⟩ : ∃ w4 : World, w4 = w3 := ⟨_, rfl⟩
        subst hw4
        have hv4 := HV.out.frame hF4 hg1 hr1
        obtain ⟨raw4, hob4⟩ := hv4.obj
        have c4 := hob4.cell (ko_rv sbs_length uss_length)
        have htN : t < N7 := by have := HN7.out; have := HM.out; omega
        rw [HN7.out] at c4
        have hk4 := hv4.rk t (by rw [HN7.out]; exact htN)
        have hk4l : (rkey (rounds n key) t).length = 16 := HRO.out.at_ (by rw [HRL.out, HN7.out]; exact htN)
        have HKL := Lib.hid hk4l
        have HK4 := Lib.hid hk4
        have HKB := Lib.hid (show (bvs (rkey (rounds n key) t)).length = 16 by rw [bvs_length]; exact hk4l)
        have H4 := Lib.hid h4
        have HF4 := Lib.hid hF4
        have HL4 := Lib.hid hl4
        have HST := Lib.hid hst
        clear h4 hF4 hl4 hst hv4 hob4 hk4 hk4l
        go_wp2_with (with_reducible refine at_slot 49 ?_
                     refine wpList_load_mid rfl _ _ rfl gR (t * 16) rfl (bvs (rkey (rounds n key) t)) (.array 16 5) HK4.out Try.underlying80 rfl (by rw [HKB.out]; kernel_rfl) ?_)
        refine (lay_any gb _ _ (rkey (rounds n key) t) HL4.out HKL.out _ H4.out).mono ?_
        rintro e w5 ⟨rfl, h5, hf5⟩
        have hF5 : Frame (fun k => k < w1.heap.size) w1 w5 := Frame.trans HF4.out hf5 (fun k hk => ⟨Nat.lt_of_lt_of_le hk HF4.out.size, by have := HGBE.out; omega⟩)
        rw [← HST.out] at h5
        have H5 := Lib.hid h5
        have HF5 := Lib.hid hF5
        clear h5 hf5 hF5 c4
        go_wp2_with fail
        go_roundw
        case rel => exact ⟨t + 1, t, rfl, hle, by go_num, H5.out, HF5.out⟩
        case measure => simp [intOf] <;> omega
    · have e1 : u = m := by omega
      subst e1
      have hx1 : ¬ (t : Int) ≤ (u : Int) := by omega
      have hsl := slice_all gb
      have hrow := row_rd HX.out
      have HROW := Lib.hid hrow
      clear hrow
      go_wp2_with fail
      refine (bclone_any (some ⟨gb, 0, none⟩) 16 16 (encR (rounds n key) u u p) _ wr.heap.size (Nat.le_refl _) HXL.out (by omega) HROW.out).mono ?_
      rintro e w5 ⟨v, rfl, hO, hb5⟩
      have hF5 : Frame (fun k => k < w1.heap.size) w1 w5 := Frame.trans HF.out (Frame.of_below hb5 (S := fun k => k < w1.heap.size) (fun k hk => Nat.lt_of_lt_of_le hk HF.out.size)) (fun k hk => hk)
      have HO := Lib.hid hO
      have HF5 := Lib.hid hF5
      clear hO hb5 hF5 hsl
      go_wp2_with fail
      go_ret2
      have hs1 := HF1.out.size
      have hs2 := HF.out.size
      refine ⟨v, B1, rfl, ?_, HK1.out.frame HF5.out (fun k hk => (HK1.out.lt k hk).2), Frame.trans HF1.out HF5.out (fun k hk => Nat.lt_of_lt_of_le hk.1 HF1.out.size), HB1.out, fun k hk hB => ?_⟩
      · rw [HEN.out]; exact HO.out.mono (by omega)
      · have h1 := (HO.out.lt k hk).1
        have h2 := (HK1.out.lt k hB).2
        omega
end Go.Proofs.Ytcbihjcnnfohmaa.Aes
