/- A key's round keys handed out; blocks of a wrong length: contracts. -/
import Derived.Test.YtcbihjcnnfohmaaAesDec
import Derived.Test.YtcbihjcnnfohmaaRws
namespace Go.Proofs.Ytcbihjcnnfohmaa.Aes
open Go Go.ChangeShapes Go.WideShapes Go.ChangeAt Go.RowKit Go.Proofs.Ytcbihjcnnfohmaa.Fld
set_option linter.unusedVariables false
set_option linter.unusedSimpArgs false

theorem eqv : El Try.prog 36 22 (.slice none 0 0) 24 := ⟨Try.underlying36, by kernel_rfl, rfl⟩
theorem slice_one (A : Option Addr) (n c : Nat) : (Value.slice A n c).oneCell' = true := by cases A <;> rfl
theorem enc_no (g : Nat) (A : Option Addr) (n c : Nat) (w : World) (hn : n ≠ 16) :
    Calls Try.prog 20 #[.pointer (some ⟨g, 0, none⟩), .slice A n c] w fun e w' => e = .returned (.tuple #[.slice none 0 0, .int .i64 1]) ∧ w = w' := by
  have b16 : ((n : Int) != 16) = true := by rw [bne_iff_ne]; omega
  clear hn
  go_enter Try.func20, Try.ntmps20
  go_wp2_with fail
  go_ret2
  exact ⟨rfl, rfl⟩
theorem dec_no (g : Nat) (A : Option Addr) (n c : Nat) (w : World) (hn : n ≠ 16) :
    Calls Try.prog 21 #[.pointer (some ⟨g, 0, none⟩), .slice A n c] w fun e w' => e = .returned (.tuple #[.slice none 0 0, .int .i64 1]) ∧ w = w' := by
  have b16 : ((n : Int) != 16) = true := by rw [bne_iff_ne]; omega
  clear hn
  go_enter Try.func21, Try.ntmps21
  go_wp2_with fail
  go_ret2
  exact ⟨rfl, rfl⟩
set_option maxRecDepth 100000 in
set_option maxHeartbeats 2000000 in
theorem rounds_any (base : Nat) (B : Nat → Prop) (g : Nat) (key : Blk) (w : World) (h : KeyIs w base B g key) (hbase : base ≤ w.heap.size) :
    Calls Try.prog 26 #[.pointer (some ⟨g, 0, none⟩)] w fun e w' => ∃ v vs B', e = .returned v ∧ Rws w' 22 5 w.heap.size v vs (rounds (key.length / 4) key) ∧ KeyR w' base B' g key ∧ Frame (Off w B) w w' ∧ (∀ k, B' k → B k ∨ w.heap.size ≤ k) ∧ ∀ k, Rws.In v vs k → ¬ B' k := by
  have HH := Lib.hid h
  clear h
  go_enter Try.func26, Try.ntmps26
  go_wp2_with fail
  refine (ready_any base B g key _ HH.out hbase).mono ?_
  rintro e w1 ⟨rfl, B1, hK1, hf1, hB1⟩
  obtain ⟨gR, cR, hv, hcR⟩ := hK1.view
  have hkk := (KeyIs.ok (.inr hK1)).four
  have hro := (KeyIs.ok (.inr hK1)).rounds
  have hrl := rounds_length (key.length / 4) key
  obtain ⟨n, hn⟩ : ∃ n, key.length / 4 = n := ⟨_, rfl⟩
  rw [hn] at hv hkk hro hrl hcR
  obtain ⟨raw, hob⟩ := hv.obj
  have c0 := hob.cell (ko_rv sbs_length uss_length)
  have n8 : n ≤ 8 := by omega
  obtain ⟨N7, hN7⟩ : ∃ N7, n + 7 = N7 := ⟨_, rfl⟩
  rw [hN7] at c0 hcR hrl
  have n15 : N7 ≤ 15 := by omega
  obtain ⟨R, hR⟩ : ∃ R, rounds n key = R := ⟨_, rfl⟩
  have hrk : ∀ t, t < N7 → w1.rangeAt gR (t * 16) (bvs (rkey R t)) := fun t ht => by rw [← hR]; exact hv.rk t (by rw [hN7]; exact ht)
  rw [hR] at hro hrl
  have HRE := Lib.hid (show rounds (key.length / 4) key = R by rw [hn, hR])
  have HV := Lib.hid hv
  have HRK := Lib.hid hrk
  have HK1 := Lib.hid hK1
  have HF1 := Lib.hid hf1
  have HB1 := Lib.hid hB1
  have HRO := Lib.hid hro
  have HRL := Lib.hid hrl
  have hr1 : gR < w1.heap.size := hv.rl
  have hs1 := hf1.size
  clear hv hob hK1 hf1 hB1 hkk hro hrl hn hR hrk hN7
  go_wp2_with fail
  clear c0
  go_loopw [3, 13] (fun ov i wr => ∃ t : Nat, t ≤ N7 ∧ i = .int .i64 (t : Int) ∧ (∃ vs, Rws wr 22 5 w1.heap.size ov vs (R.take t)) ∧ Frame (fun k => k < w1.heap.size) w1 wr) (fun _ i _ => 100 - (intOf i).toNat)
  case atStart => exact ⟨0, by omega, rfl, ⟨[], Rws.nil _ _ _ _⟩, Frame.refl _ _⟩
  case round =>
    obtain ⟨t, ht, rfl, ⟨vs, hrw⟩, hf⟩ := hrel
    have hvl : vs.length = t := by rw [hrw.len, List.length_take, HRL.out]; omega
    obtain ⟨Ao, co, rfl, hco, _, _⟩ := hrw.own.len
    rw [hvl] at hrw ⊢
    have HRW := Lib.hid hrw
    have HF := Lib.hid hf
    have HVL := Lib.hid hvl
    clear hrw hf hvl
    by_cases hlt : t < N7
    · have hlti : (t : Int) < (N7 : Int) := by omega
      have hkl : (rkey R t).length = 16 := HRO.out.at_ (by rw [HRL.out]; exact hlt)
      have hkb : (bvs (rkey R t)).length = 16 := by rw [bvs_length]; exact hkl
      have hrg : wr.rangeAt gR (t * 16) (bvs (rkey R t)) := fun j v hj => (World.cell?_of_block (a := ⟨gR, t * 16 + j, none⟩) (HF.out.block gR hr1)).trans (HRK.out t hlt j v hj)
      have hgb : RowV (wr.alloc (.cells (bvs (rkey R t)).toArray 80)) 80 wr.heap.size (bvs (rkey R t)) := heap_alloc_new wr _
      have hrow := row_rd hgb
      have hsl := slice_all wr.heap.size
      have hst : R.take (t+1) = R.take t ++ [rkey R t] := take_round (by rw [HRL.out]; exact hlt)
      have HKL := Lib.hid hkl
      have HKB := Lib.hid hkb
      have HRG := Lib.hid hrg
      have HROW := Lib.hid hrow
      have HST := Lib.hid hst
      clear hkl hkb hrg hgb hrow hst
      go_wp2_with (first
        | (with_reducible refine at_slot 16 ?_
           refine wpList_load_mid rfl _ _ rfl gR (t * 16) rfl (bvs (rkey R t)) (.array 16 5) HRG.out Try.underlying80 rfl (by rw [HKB.out]; kernel_rfl) ?_)
        | (with_reducible refine at_store 5 ?_
           refine wpList_store_new rfl _ _ _ rfl _ _ (bvs (rkey R t)) rfl rfl (by rw [HKB.out]; kernel_rfl) (by rw [HKB.out]; rfl) (bvs_one _) ?_))
      refine (bclone_any (some ⟨wr.heap.size, 0, none⟩) 16 16 (rkey R t) _ _ (Nat.le_refl _) HKL.out (by omega) HROW.out).mono ?_
      rintro e w2 ⟨vt, rfl, hO2, hb2⟩
      obtain ⟨At, ct, hvt, _, _⟩ := hO2.form
      rw [HKL.out] at hvt
      subst hvt
      have hfa : Frame (fun k => k < wr.heap.size) wr w2 := Frame.trans ((Frame.refl _ _).alloc (fun b h => h) _) (Frame.of_below hb2 (S := fun k => k < wr.heap.size) (fun k hk => by simp; omega)) (fun k hk => hk)
      have hz2 : wr.heap.size + 1 ≤ w2.heap.size := by have := hb2.size; simpa using this
      have hoa : OwnV (w2.alloc (.cells #[.slice At 16 ct] 22)) 22 w1.heap.size (.slice Ao t co) vs := (HRW.out.own.keep (fun k hk => hfa.block k (HRW.out.own.lt k hk).2)).alloc _
      have hlt2 : ∀ k, Value.ownBlock (.slice At 16 ct) = some k → wr.heap.size + 1 ≤ k ∧ k < w2.heap.size := fun k hk => by have := hO2.lt k hk; simpa using this
      have hs2 : w1.heap.size ≤ (w2.alloc (.cells #[.slice At 16 ct] 22)).heap.size := by have := HF.out.size; simp; omega
      have hsrc : 0 < 1 → ∃ ad, (some ⟨w2.heap.size, 0, none⟩ : Option Addr) = some ad ∧ ∀ j u, ([.slice At 16 ct] : List Value)[j]? = some u → (w2.alloc (.cells #[.slice At 16 ct] 22)).cell? (ad.add j) = some u := fun _ => ⟨_, rfl, fun j u hj => by
        rw [addr_add, Nat.zero_add, cell_of_row _ _ j _ _ (0, 0) (heap_alloc_new w2 _)]; simpa using hj⟩
      have HOA := Lib.hid hoa
      have HLT2 := Lib.hid hlt2
      have HO2 := Lib.hid hO2
      have HFA := Lib.hid hfa
      have HSRC := Lib.hid hsrc
      clear hoa hlt2 hO2 hfa hb2 hsrc
      go_wp2_with (with_reducible refine at_slot 21 ?_
                   refine wpList_append_v eqv rfl (.tmp 17) (.tmp 20) rfl w1.heap.size _ vs _ 1 1 [.slice At 16 ct] rfl rfl HOA.out rfl HSRC.out (by intro u hu; simp only [List.mem_singleton] at hu; subst hu; exact slice_one _ _ _) (by rw [HVL.out]; omega) (by rw [HVL.out]; omega) hs2 ?_
                   intro v4 w4 hO4 hg4 hat4
                   have hF4 : Frame (fun b => b < wr.heap.size ∧ Value.ownBlock (.slice Ao t co) ≠ some b) wr w4 := Frame.trans (HFA.out.mono (T := fun b => b < wr.heap.size ∧ Value.ownBlock (.slice Ao t co) ≠ some b) (fun b hb => hb.1)) (Frame.trans ((Frame.refl (fun b => b < wr.heap.size ∧ Value.ownBlock (.slice Ao t co) ≠ some b) w2).alloc (fun b hb => by have := hb.1; omega) (.cells #[.slice At 16 ct] 22)) (Frame.of_grown (S := fun b => b < wr.heap.size ∧ Value.ownBlock (.slice Ao t co) ≠ some b) hg4 (fun b hb => ⟨by have := hb.1; simp; omega, fun e => hb.2 e.symm⟩)) (fun b hb => hb)) (fun b hb => hb)
                   have hx4 : Own w4 5 w1.heap.size (.slice At 16 ct) (rkey R t) := Own.mono (roww_keep (w := w2) HO2.out (fun b e => (hg4.block b (by have := (HLT2.out b e).2; simp; omega) (fun e2 => by have h1 := (HLT2.out b e).1; have h2 := (HRW.out.own.lt b e2.symm).2; omega)).trans (heap_alloc_old w2 _ (HLT2.out b e).2))) (by have := HF.out.size; simp; omega)
                   have hpush := HRW.out.push hF4 hO4 (by
                     rcases hat4 with h | h
                     · exact .inl h
                     · exact .inr ⟨_, h, by simp; omega⟩) hx4 (fun k hk => ⟨by have := (HLT2.out k hk).1; omega, fun e2 => by
                       rcases hat4 with h | h
                       · rw [h] at e2; have h1 := (HLT2.out k hk).1; have h2 := (HRW.out.own.lt k e2).2; omega
                       · rw [h] at e2; injection e2 with e2; have h1 := (HLT2.out k hk).2; simp at e2; omega⟩)
                   rw [← HST.out] at hpush
                   have hF5 : Frame (fun b => b < w1.heap.size) w1 w4 := Frame.trans HF.out hF4 (fun b hb => ⟨Nat.lt_of_lt_of_le hb HF.out.size, fun e => by have := (HRW.out.own.lt b e).1; omega⟩)
                   have HP := Lib.hid hpush
                   have HF5 := Lib.hid hF5
                   clear hO4 hg4 hat4 hF4 hx4 hpush hF5)
      go_roundw
      case rel => exact ⟨t + 1, by omega, by go_num, ⟨_, HP.out⟩, HF5.out⟩
      case measure => simp [intOf] <;> omega
    · have e1 : t = N7 := by omega
      subst e1
      go_wp2_with fail
      go_ret
      have hw := HRW.out
      rw [List.take_of_length_le (by rw [HRL.out]; exact Nat.le_refl _)] at hw
      rw [HRE.out]
      refine ⟨_, vs, B1, rfl, ⟨hw.own.mono (fun k hk => by have := (hw.own.lt k hk).1; omega), hw.len, fun i x l hx hl => (hw.row i x l hx hl).mono (by omega), hw.off, hw.ord⟩, HK1.out.frame HF.out (fun k hk => (HK1.out.lt k hk).2), Frame.trans HF1.out HF.out (fun k hk => Nat.lt_of_lt_of_le hk.1 HF1.out.size), HB1.out, fun k hk hB => ?_⟩
      have h1 := (hw.inlt k hk).1
      have h2 := (HK1.out.lt k hB).2
      omega
end Go.Proofs.Ytcbihjcnnfohmaa.Aes
