/- The law 'ShaGoes' answers true for every input, and its arguments read afterwards as before; no condition. The frame follows the kit's skeleton; the walk is ours. -/
import Derived.Test.YtoklpohpfoacpaaRows
import Derived.Test.YtoklpohpfoacpaaArgs
import Derived.Test.YtoklpohpfoacpaaArgR
import Derived.Test.YtoklpohpfoacpaaShaHold
import Derived.Test.YtoklpohpfoacpaaDoes
import Derived.Deep.RegionWith
import Derived.Deep.RegionHeld3
import Derived.Deep.DrawnRows
import Derived.WalkKit
import Derived.ProofKit
import Derived.OpenShut
import Derived.ShutString
import Derived.ChangeOld
import Derived.Below
import Derived.SizedLaws
namespace Go.Proofs.Ytoklpohpfoacpaa.shaGoes
open Go.ChangeShapes Go.WideShapes Go.ChangeAt Go.RowKit
set_option linter.unusedVariables false

theorem own : ownKnob Try.prog.godebug = none := by kernel_rfl
theorem laidOut : laidOutB Try.prog = true := by kernel_rfl

open Sha
attribute [local go_sem ↓] Go.wp_at_zero Go.wp_at_succ
set_option linter.unusedSimpArgs false
theorem snoc_part (ps : List Part) {k : Nat} (hk : k < ps.length) {A : Option Addr} {n c : Nat} {l : List UInt8} (h : ps[k] = ⟨A, n, c, l⟩) : bytesOf (ps.take (k + 1)) = bytesOf (ps.take k) ++ l := by
  rw [bytesOf_step ps k hk, h]

set_option maxRecDepth 100000 in
set_option maxHeartbeats 4000000 in
theorem walk (a0 : Option Addr) (len0 cap0 : Nat) (ps0 : List Part) (w : World) (w0 : ArgR w a0 len0 cap0 ps0) :
    Calls Try.prog 6 #[.slice a0 len0 cap0] w fun e w' => e = .returned (.bool true) ∧ Below w.heap.size w w' := by
  obtain ⟨hl0, hf0, hm0, hr0⟩ := w0
  have HL := Lib.hid hl0
  have HR := Lib.hid hr0
  clear hl0 hr0
  go_enter Try.func6, Try.ntmps6
  go_wp2_with (first
    | (go_at_call 10; refine (small_any _).mono ?_; rintro e w1 ⟨rfl, hb1⟩; have hz1 := hb1.size)
    | (go_at_call 16
       refine (new_any _).mono ?_
       rintro e w2 ⟨g, rfl, hgb, hr2, hb2⟩
       have hK2 : Held w w2 g (.slice none 0 0) (.slice none 0 0) (bytesOf (ps0.take 0)) (bytesOf (ps0.take 0)) := Held.new hr2 (Nat.le_trans hz1 hgb)
       have hbw2 := hb1.trans (hb2.mono hz1)
       clear hr2 hb2))
  have e0 : (bytesOf (ps0.take 0)).length ≤ 4096 * 0 := Nat.le_refl _
  go_loopw [5, 6] (fun v i wr => ∃ k : Nat, k ≤ len0 ∧ k ≤ 12 ∧ i = .int .i64 k ∧ (∃ rv, Held w wr g rv v (bytesOf (ps0.take k)) (bytesOf (ps0.take k))) ∧ (bytesOf (ps0.take k)).length ≤ 4096 * k ∧ Below w.heap.size w wr) (fun _ i _ => len0 - (intOf i).toNat)
  case atStart => exact ⟨0, by omega, by omega, rfl, ⟨_, hK2⟩, e0, hbw2⟩
  case round =>
    obtain ⟨k, hk, hk12, rfl, ⟨rv, hK⟩, hlen, hbr⟩ := hrel
    clear hK2 hbw2 e0
    have hzr := hbr.size
    by_cases hgo : k < len0 ∧ k < 12
    · obtain ⟨hlt, hlt12⟩ := hgo
      have hkl : k < ps0.length := by rw [HL.out]; exact hlt
      obtain ⟨ad, hA, hS, hc⟩ := HR.out.at_ (by omega)
      subst hA
      have hpart := HR.out.part ps0[k] (List.getElem_mem hkl)
      have hcell := hc k hkl
      have hsn := fun A n c l h => snoc_part ps0 hkl (A := A) (n := n) (c := c) (l := l) h
      generalize hpk : ps0[k] = p at *
      obtain ⟨pA, pn, pc, pl⟩ := p
      obtain ⟨hp1, hp2, hp3, hp4⟩ := hpart
      simp only at hp1 hp2 hp3 hp4
      have hsn' := hsn pA pn pc pl rfl
      have hcell' : w.cell? (ad.add k) = some (.slice pA pn pc) := hcell
      have cr : wr.cell? (ad.add k) = some (.slice pA pn pc) := (hbr.cell (by rw [add_block]; exact hS)).trans hcell'
      clear hsn hpk hc hcell
      by_cases hbig : 4096 < pn
      · have HK := Lib.hid hK
        clear hK hlen hp1 hp4 hsn' hcell'
        go_wp2_with fail
        go_ret
        exact ⟨rfl, hbr⟩
      · have hpn : pn ≤ 4096 := by omega
        have HP1 := Lib.hid hp1
        have HRD := Lib.hid (hp4.rd (B := w.heap.size) (fun k hk => hk))
        have HSN := Lib.hid hsn'
        have HK := Lib.hid hK
        have HLEN := Lib.hid hlen
        have HBR := Lib.hid hbr
        have HC := Lib.hid hcell'
        have HS := Lib.hid hS
        generalize bytesOf (ps0.take k) = L at *
        clear hp1 hp4 hsn' hK hlen hbr hcell' hbig hS
        go_wp2_with fail
        refine (lent_any pA pn pc pl wr w.heap.size hzr HP1.out (by omega) (HRD.out.below HBR.out)).mono ?_
        rintro e w1 ⟨rfl, hrow1, hbr1⟩
        have hb1 := HBR.out.trans (hbr1.mono hzr)
        have hz1 := hb1.size
        have hlt1 := hrow1.lt
        have hgl := HK.out.hst.row.lt
        have hrl := HK.out.hst.own.lt
        have HK1 := Lib.hid (HK.out.below_ hbr1)
        have HB1 := Lib.hid hb1
        have hne1 : wr.heap.size ≠ g := by omega
        have hnr1 : rv.ownBlock ≠ some wr.heap.size := fun e => by have := (hrl _ e).2; omega
        clear hbr1 hb1
        go_wp2_with fail
        have hO1 := Held.below_ (w' := w1.alloc (.cells #[.slice (some ⟨wr.heap.size, 0, none⟩) pn (pn + 1)] 22)) HK1.out ((Below.refl _ _).alloc (Nat.le_refl _) _)
        refine (write_any g w.heap.size rv L _ 1 1 [(⟨some ⟨wr.heap.size, 0, none⟩, pn, pn + 1, pl⟩ : Part)] _ L.length hO1.hst (one_far hrow1 HP1.out rfl (by omega) hne1 hnr1 (by omega) (fun k hk => by have := (hrl k hk).2; omega)) rfl (by omega) (by simp [bytesOf]; have := HLEN.out; have := HP1.out; omega) (by simp [bytesOf]; have := HLEN.out; have := HP1.out; omega) (by simp; omega)).mono ?_
        rintro e w2 ⟨rv2, rfl, hH2, hn2, hF2⟩
        have hbl : bytesOf [(⟨some ⟨wr.heap.size, 0, none⟩, pn, pn + 1, pl⟩ : Part)] = pl := by simp [bytesOf]
        rw [hbl, ← List.length_append] at hH2
        have hK2 := hO1.write hH2 hn2 hF2
        have hb2 : Below w.heap.size w w2 := (HB1.out.alloc hz1 _).trans (hF2.toBelow (fun k hk => ⟨by simp; omega, fun e => by have := HK.out.hst.hb; omega, fun e => by have := (hrl k e).1; omega⟩))
        have hrow2 : Row w2 5 wr.heap.size (pl ++ [77]) := hF2.row ⟨by simp; omega, hne1, hnr1⟩ (hrow1.alloc (.cells #[.slice (some ⟨wr.heap.size, 0, none⟩) pn (pn + 1)] 22))
        have hz12 : w1.heap.size + 1 ≤ w2.heap.size := by have := hF2.size; simpa using this
        have hr2b : ∀ x, rv2.ownBlock = some x → w1.heap.size < x := fun x hx => by have := hn2 x hx; simp at this; omega
        have hz2 := hb2.size
        have HK2 := Lib.hid hK2
        have HB2 := Lib.hid hb2
        have HR2B := Lib.hid hr2b
        have c2 : w2.cell? (ad.add k) = some (.slice pA pn pc) := (hb2.cell (by rw [add_block]; exact HS.out)).trans HC.out
        clear hO1 hH2 hn2 hF2 hbl hK2 hb2 hr2b cr hrow1
        go_wp2_with fail
        refine (kept_any pA pn pc wr.heap.size pl w2 w.heap.size HP1.out (by omega) (HRD.out.below HB2.out) hrow2).mono ?_
        rintro e w2' ⟨rfl, rfl⟩
        go_wp2_with fail
        have hq := orow_row hrow2 (n := pn) (m := pn + 1) (by omega) (by simp [HP1.out]) (by omega)
        have hown := owns_one 22 hq (by omega)
        refine (owned_any _ 1 1 _ _ rfl (by omega) hown).mono ?_
        rintro e w3 ⟨rfl, hI⟩
        have hF3 := inv_frame hI
        have hb3 : Below w.heap.size w w3 := (HB2.out.alloc hz2 _).trans (hF3.toBelow (fun k hk => ⟨by simp; omega, fun r hr e => by simp only [List.mem_singleton] at hr; subst hr; injection e with e; omega⟩))
        have hK3 : Held w w3 g rv2 _ (L ++ pl) L := (HK2.out.below_ ((Below.refl _ _).alloc (Nat.le_refl _) (.cells #[.slice (some ⟨wr.heap.size, 0, none⟩) pn (pn + 1)] 22))).frame hF3 (fun k hk => ⟨by have := (HK2.out.lt hk).2; simp; omega, fun r hr e => by
          simp only [List.mem_singleton] at hr; subst hr; injection e with e
          rcases hk with h | h | h
          · omega
          · have := HR2B.out k h; omega
          · have := (HK.out.own.lt k h).2; omega⟩)
        have hz3 := hb3.size
        have c3 : w3.cell? (ad.add k) = some (.slice pA pn pc) := (hb3.cell (by rw [add_block]; exact HS.out)).trans HC.out
        have HB3 := Lib.hid hb3
        have HK3 := Lib.hid hK3
        have hsrc := (HRD.out.below hb3).news pn HP1.out
        have HSRC := Lib.hid hsrc
        clear hq hown hI hF3 hb3 hK3 c2 hrow2 hsrc
        go_wp2_with (with_reducible refine at_slot 58 ?_
                     refine wpList_append_v Go.Proofs.Ytoklpohpfoacpaa.u8.el rfl (.tmp 53) (.tmp 57) rfl w.heap.size _ (bvs L) _ pn pc (bvs pl) rfl rfl HK3.out.own (by rw [bvs_length]; exact HP1.out) HSRC.out (bvs_one _) (by rw [bvs_length]; have := HLEN.out; omega) (by rw [bvs_length]; have := HLEN.out; omega) hz3 ?_
                     intro v4 w4 hO4 hg4 hat4
                     have hO4' : OwnV w4 5 w.heap.size v4 (bvs (L ++ pl)) := by rw [bvs_append]; exact hO4
                     have hK4 := HK3.out.app hO4' hg4 hat4
                     have hb4 := HB3.out.grown hg4 hz3 (fun x hx => (HK3.out.own.lt x hx).1)
                     have hz4 := hb4.size
                     have hlp : (L ++ pl).length ≤ 4096 * (k + 1) := by rw [List.length_append]; have := HLEN.out; have := HP1.out; omega
                     have HLP := Lib.hid hlp
                     rw [← HSN.out] at hlp
                     generalize hL4 : L ++ pl = L4 at *
                     obtain ⟨A4, n4, c4, hv4, hR4, hnl4⟩ : ∃ A n c, v4 = .slice A n c ∧ Rd w4 w4.heap.size A L4 ∧ L4.length = n := by
                       obtain ⟨A, c, h1, h2, _⟩ := OwnB.form hO4'
                       exact ⟨A, _, c, h1, h2, rfl⟩
                     subst hv4
                     have HK4 := Lib.hid hK4
                     have HB4 := Lib.hid hb4
                     have HN4 := Lib.hid hnl4
                     have HE := Lib.hid (sha_len L4)
                     have HL4 := Lib.hid hL4
                     clear hO4 hg4 hat4 hO4' hK4 hb4 hR4 hnl4 c3 hL4)
        have hn4 : n4 ≤ 4096 * 12 := by have := HN4.out; have := HLP.out; omega
        refine (hsum_any g w.heap.size rv2 L4 w4 HK4.out.hst (by have := HLP.out; omega)).mono ?_
        rintro e w5 ⟨v5, rfl, hO5, hb5⟩
        obtain ⟨r5, hv5, hq5⟩ := orow hO5
        obtain ⟨A5, c5, hv5', hR5, _⟩ := hO5.form
        have HV5 := Lib.hid (hv5'.symm.trans hv5)
        subst hv5'
        clear hv5
        rw [HE.out] at HV5 ⊢
        have hz45 := hb5.size
        have HB5 := Lib.hid (HB4.out.trans (hb5.mono hz4))
        have HK5 := Lib.hid (HK4.out.below_ hb5)
        have HQ5 := Lib.hid hq5
        have HS5 := Lib.hid (fun W (hb : Below w5.heap.size w5 W) => (show (convert 22 9 (.slice A5 32 c5)).run Try.prog W = .ok (.string (str (sha L4))) W from by
          have := Rd.str Go.Proofs.Ytoklpohpfoacpaa.u8 9 Try.underlying9 (hR5.below hb) c5
          rw [HE.out] at this; exact this))
        clear hO5 hb5 hq5 hR5
        go_wp2_with fail
        refine wp_region_held_drew (S := fun w' => (convert 22 9 (.slice A5 32 c5)).run Try.prog w' = .ok (.string (str (sha L4))) w') (by kernel_rfl) (HS5.out _ ((Below.refl _ _).drew)) (fun hHeld => ?_)
        refine wpAnyH_take (i := 0) (v := ?_) rfl (by kernel_rfl) (by kernel_rfl) (by kernel_rfl) (fun _ _ _ h => h) (Or.inl ⟨by kernel_rfl, ?_⟩) (by assumption) ?_
        rotate_left
        · (intro w hSw; (try dsimp only at hSw); go_simp; first | done | with_reducible rfl)
        (try simp only [Act.put, List.setIfInBounds_toArray, List.set_cons_zero, List.set_cons_succ])
        refine wpAnyH_take (i := 1) (v := ?_) rfl (by kernel_rfl) (by kernel_rfl) (by kernel_rfl) (fun _ _ _ h => h) (Or.inl ⟨by kernel_rfl, ?_⟩) (by assumption) ?_
        rotate_left
        · (intro w hSw; (try dsimp only at hSw); go_simp; first | done | with_reducible rfl)
        (try simp only [Act.put, List.setIfInBounds_toArray, List.set_cons_zero, List.set_cons_succ])
        refine wpAnyH_take (i := 2) (v := ?_) rfl (by kernel_rfl) (by kernel_rfl) (by kernel_rfl) (fun _ _ _ h => h) (Or.inl ⟨by kernel_rfl, ?_⟩) (by assumption) ?_
        rotate_left
        · (intro w hSw; (try dsimp only at hSw); go_simp; first | done | with_reducible rfl)
        (try simp only [Act.put, List.setIfInBounds_toArray, List.set_cons_zero, List.set_cons_succ])
        refine wpAnyH_ready (rs := [3]) (by kernel_rfl) (by simp) ?_
        refine AllReadyH.cons rfl (fun KK hKK => ?_) AllReadyH.nil
        go_simp
        obtain ⟨A4', c4', hv4', hR4, _⟩ := OwnB.form (HK5.out.own)
        injection hv4' with h1 h2 h3
        subst h1 h3
        refine (refsum_any A4 n4 c4 L4 w5.drew w5.heap.size (Nat.le_refl _) HN4.out (by omega) hR4).mono ?_
        rintro e w6 ⟨v6, rfl, hO6, hb6⟩
        obtain ⟨A6, c6, rfl, hR6, _⟩ := OwnB.form hO6
        have hb56 : Below w5.heap.size w5 w6 := (Below.refl _ _).drew.trans hb6
        have hs6 := hR6.str Go.Proofs.Ytoklpohpfoacpaa.u8 9 Try.underlying9 c6
        rw [HE.out] at hs6 ⊢
        have HB56 := Lib.hid hb56
        have hs56 := HS5.out _ hb56
        clear hO6 hR6 hb6 hb56 hR4 h2
        go_wp2_with fail
        refine hKK.out _ _ ?_ (fun hHeld => ?_)
        · (exact HS5.out _ HB56.out)
        clear hKK KK
        (try simp only [Act.put, List.setIfInBounds_toArray, List.set_cons_zero, List.set_cons_succ])
        refine wpAnyH_ready (rs := [4]) (by kernel_rfl) (by simp) ?_
        refine AllReadyH.cons rfl (fun KK hKK => ?_) AllReadyH.nil
        go_simp
        refine hKK.out _ _ ?_ (fun hHeld => ?_)
        · (first | assumption | exact HS5.out _ HB56.out)
        clear hKK KK
        (try simp only [Act.put, List.setIfInBounds_toArray, List.set_cons_zero, List.set_cons_succ])
        refine wpAnyH_ready (rs := [5]) (by kernel_rfl) (by simp) ?_
        refine AllReadyH.cons rfl (fun KK hKK => ?_) AllReadyH.nil
        go_simp
        refine hKK.out _ _ ?_ (fun hHeld => ?_)
        · (first | assumption | exact HS5.out _ HB56.out)
        clear hKK KK
        (try simp only [Act.put, List.setIfInBounds_toArray, List.set_cons_zero, List.set_cons_succ])
        refine wpAnyH_ready (rs := [6]) (by kernel_rfl) (by simp) ?_
        refine AllReadyH.cons rfl (fun KK hKK => ?_) AllReadyH.nil
        go_simp
        refine hKK.out _ _ ?_ (fun hHeld => ?_)
        · (first | assumption | exact HS5.out _ HB56.out)
        clear hKK KK
        (try simp only [Act.put, List.setIfInBounds_toArray, List.set_cons_zero, List.set_cons_succ])
        refine wpAnyH_done (by kernel_rfl) ?_ _
        have hz5 := HB5.out.size
        have hz56 := HB56.out.size
        have hb6 := HB5.out.trans (HB56.out.mono hz5)
        have hK6 := HK5.out.below_ HB56.out
        have hz6 := hb6.size
        have HB6 := Lib.hid hb6
        have HK6 := Lib.hid hK6
        clear hb6 hK6 hs6 hs56
        go_wp2_with fail
        have hq6 := HQ5.out.below HB56.out (Nat.le_refl _)
        have hown := owns_one 22 hq6 hz56
        rw [← HV5.out] at hown
        refine (owned_any _ 1 1 _ _ rfl (by omega) hown).mono ?_
        rintro e w7 ⟨rfl, hI⟩
        have hF7 := inv_frame hI
        have hb7 : Below w.heap.size w w7 := (HB6.out.alloc hz6 _).trans (hF7.toBelow (fun k hk => ⟨by simp; omega, fun r hr e => by simp only [List.mem_singleton] at hr; subst hr; have := (HQ5.out.own k e).1; omega⟩))
        have hK7 : Held w w7 g rv2 _ L4 L4 := (HK6.out.below_ ((Below.refl _ _).alloc (Nat.le_refl _) (.cells #[.slice A5 32 c5] 22))).frame hF7 (fun k hk => ⟨by have := (HK6.out.lt hk).2; simp; omega, fun r hr e => by
          simp only [List.mem_singleton] at hr; subst hr
          have h1 := (HQ5.out.own k e).1
          have h2 := (HK4.out.lt hk).2
          omega⟩)
        have HK7 := Lib.hid hK7
        clear hq6 hown hI hF7 hK7
        go_wp2_with fail
        refine (count_any g w.heap.size rv2 L4 _ L4.length w7 HK7.out.hst).mono ?_
        rintro e w8 ⟨rfl, rfl⟩
        rw [HN4.out]
        go_wp2_with fail
        go_roundw
        case rel => exact ⟨k + 1, by omega, by omega, by go_num, ⟨rv2, by rw [HSN.out]; exact HK7.out⟩, hlp, hb7⟩
        case measure => simp [intOf]; omega
    · have HK := Lib.hid hK
      have HE := Lib.hid (sha_len (bytesOf (ps0.take k)))
      have hlL : (bytesOf (ps0.take k)).length ≤ 49152 := by omega
      generalize bytesOf (ps0.take k) = L at *
      obtain ⟨A4, n4, c4, hv4, hnl4⟩ : ∃ A n c, u5 = .slice A n c ∧ L.length = n := by
        obtain ⟨A, c, h1, h2, _⟩ := OwnB.form hK.own
        exact ⟨A, _, c, h1, rfl⟩
      subst hv4
      have HN4 := Lib.hid hnl4
      have HBR := Lib.hid hbr
      clear hK hnl4 hlen hbr
      have hexit : ¬ k < len0 ∨ (k = 12 ∧ 12 < len0) := by omega
      obtain ⟨w1, rfl⟩ : ∃ w1 : World, w1 = wr := ⟨_, rfl⟩
      rcases hexit with hx | ⟨hx, hx12⟩
      all_goals
        (try subst hx)
        (try rw [show ((12 : Nat) : Int) = 12 from rfl])
        (try clear hgo)
        go_wp2_with fail
        refine wp_region_facts [FVal (.pointer (some ⟨g, 0, none⟩)), FRd 32 (sha L), FVal (.string (str (sha L))), FVal (.slice A4 n4 c4), FRd 32 (sha L), FVal (.string (str (sha L))), FVal (.bool true), FVal (.bool true)] [0, 1, 2, 3, 4, 5, 6, 7] [(0, some 83), (1, some 84), (2, some 85), (3, some 86), (4, some 87), (5, some 88), (6, some 89), (7, some 2)] (by kernel_rfl) (by kernel_rfl) (by kernel_rfl) (by kernel_rfl) ?_ ?_ ?_
        · simp only [List.forall_mem_cons, List.not_mem_nil, false_implies, implies_true, and_true]
          exact ⟨stable_val _, stable_rd _ _, stable_val _, stable_val _, stable_rd _ _, stable_val _, stable_val _, stable_val _⟩
        · simp only [List.forall_mem_cons, List.not_mem_nil, false_implies, implies_true, and_true]
          refine ⟨?_, ?_, ?_, ?_, ?_, ?_, ?_, ?_⟩
          · refine does_mk [] rfl (by kernel_rfl) (fun u wi hR hf => ?_)
            simp only [putPs, Act.put, List.setIfInBounds_toArray, List.set_cons_zero, List.set_cons_succ, List.getElem_toArray, List.getElem_cons_zero, List.getElem_cons_succ]
            rw [if_pos (by rfl)]
            intro K hK
            go_simp
            exact hK.out _ _ _ (by simp only [Act.put, List.setIfInBounds_toArray, List.set_cons_zero, List.set_cons_succ]) rfl (Grows.refl _)
          · refine does_mk [(0, some 83)] rfl (by kernel_rfl) (fun u wi hR hf => ?_)
            simp only [putPs, Act.put, List.setIfInBounds_toArray, List.set_cons_zero, List.set_cons_succ, List.getElem_toArray, List.getElem_cons_zero, List.getElem_cons_succ]
            obtain ⟨h0, _⟩ := hf
            have e0 : u 0 = .pointer (some ⟨g, 0, none⟩) := h0
            try rw [e0]
            clear h0 e0
            rw [if_pos (by rfl)]
            intro K hK
            go_simp
            refine (hsum_any g w.heap.size rv L _ (HK.out.below_ ((Below.refl _ _).drew.trans (hR.mono (by simp)))).hst (by omega)).mono ?_
            rintro e w5 ⟨v5, rfl, hO5, hb5⟩
            obtain ⟨A5, c5, rfl, hR5, hc5⟩ := hO5.form
            rw [HE.out] at hc5 ⊢
            exact hK.out _ _ _ (by simp only [Act.put, List.setIfInBounds_toArray, List.set_cons_zero, List.set_cons_succ]) ⟨A5, c5, rfl, HE.out, hc5, hR5⟩ hb5
          · refine does_mk [(1, some 84)] rfl (by kernel_rfl) (fun u wi hR hf => ?_)
            simp only [putPs, Act.put, List.setIfInBounds_toArray, List.set_cons_zero, List.set_cons_succ, List.getElem_toArray, List.getElem_cons_zero, List.getElem_cons_succ]
            obtain ⟨h1, _⟩ := hf
            obtain ⟨A1, c1, e1, hl1, hc1, hr1⟩ := h1
            try rw [e1]
            clear e1
            rw [if_pos (by rfl)]
            intro K hK
            have hs := hr1.str Go.Proofs.Ytoklpohpfoacpaa.u8 9 Try.underlying9 c1
            rw [hl1] at hs
            go_simp
            exact hK.out _ _ _ (by simp only [Act.put, List.setIfInBounds_toArray, List.set_cons_zero, List.set_cons_succ]) rfl (Grows.refl _)
          · refine does_mk [] rfl (by kernel_rfl) (fun u wi hR hf => ?_)
            simp only [putPs, Act.put, List.setIfInBounds_toArray, List.set_cons_zero, List.set_cons_succ, List.getElem_toArray, List.getElem_cons_zero, List.getElem_cons_succ]
            rw [if_pos (by rfl)]
            intro K hK
            go_simp
            exact hK.out _ _ _ (by simp only [Act.put, List.setIfInBounds_toArray, List.set_cons_zero, List.set_cons_succ]) rfl (Grows.refl _)
          · refine does_mk [(1, some 84), (3, some 86)] rfl (by kernel_rfl) (fun u wi hR hf => ?_)
            simp only [putPs, Act.put, List.setIfInBounds_toArray, List.set_cons_zero, List.set_cons_succ, List.getElem_toArray, List.getElem_cons_zero, List.getElem_cons_succ]
            obtain ⟨h1, h3, _⟩ := hf
            obtain ⟨A1, c1, e1, hl1, hc1, hr1⟩ := h1
            try rw [e1]
            clear e1
            have e3 : u 3 = .slice A4 n4 c4 := h3
            try rw [e3]
            clear h3 e3
            rw [if_pos (by rfl)]
            intro K hK
            go_simp
            obtain ⟨A4', c4', hv4', hR4, _⟩ := OwnB.form ((HK.out.below_ ((Below.refl _ _).drew.trans (hR.mono (by simp)))).own)
            injection hv4' with q1 q2 q3
            subst q1 q3
            refine (refsum_any A4 n4 c4 L wi wi.heap.size (Nat.le_refl _) HN4.out (by omega) hR4).mono ?_
            rintro e w6 ⟨v6, rfl, hO6, hb6⟩
            obtain ⟨A6, c6, rfl, hR6, hc6⟩ := OwnB.form hO6
            rw [HE.out] at hc6 ⊢
            exact hK.out _ _ _ (by simp only [Act.put, List.setIfInBounds_toArray, List.set_cons_zero, List.set_cons_succ]) ⟨A6, c6, rfl, HE.out, hc6, hR6⟩ hb6
          · refine does_mk [(4, some 87)] rfl (by kernel_rfl) (fun u wi hR hf => ?_)
            simp only [putPs, Act.put, List.setIfInBounds_toArray, List.set_cons_zero, List.set_cons_succ, List.getElem_toArray, List.getElem_cons_zero, List.getElem_cons_succ]
            obtain ⟨h4, _⟩ := hf
            obtain ⟨A4, c4, e4, hl4, hc4, hr4⟩ := h4
            try rw [e4]
            clear e4
            rw [if_pos (by rfl)]
            intro K hK
            have hs := hr4.str Go.Proofs.Ytoklpohpfoacpaa.u8 9 Try.underlying9 c4
            rw [hl4] at hs
            go_simp
            exact hK.out _ _ _ (by simp only [Act.put, List.setIfInBounds_toArray, List.set_cons_zero, List.set_cons_succ]) rfl (Grows.refl _)
          · refine does_mk [(2, some 85), (5, some 88)] rfl (by kernel_rfl) (fun u wi hR hf => ?_)
            simp only [putPs, Act.put, List.setIfInBounds_toArray, List.set_cons_zero, List.set_cons_succ, List.getElem_toArray, List.getElem_cons_zero, List.getElem_cons_succ]
            obtain ⟨h2, h5, _⟩ := hf
            have e2 : u 2 = .string (str (sha L)) := h2
            try rw [e2]
            clear h2 e2
            have e5 : u 5 = .string (str (sha L)) := h5
            try rw [e5]
            clear h5 e5
            rw [if_pos (by rfl)]
            intro K hK
            go_simp
            exact hK.out _ _ _ (by simp only [Act.put, List.setIfInBounds_toArray, List.set_cons_zero, List.set_cons_succ]) rfl (Grows.refl _)
          · refine does_mk [(0, some 83), (1, some 84), (2, some 85), (3, some 86), (4, some 87), (5, some 88), (6, some 89)] rfl (by kernel_rfl) (fun u wi hR hf => ?_)
            simp only [putPs, Act.put, List.setIfInBounds_toArray, List.set_cons_zero, List.set_cons_succ, List.getElem_toArray, List.getElem_cons_zero, List.getElem_cons_succ]
            obtain ⟨h0, h1, h2, h3, h4, h5, h6, _⟩ := hf
            have e0 : u 0 = .pointer (some ⟨g, 0, none⟩) := h0
            try rw [e0]
            clear h0 e0
            obtain ⟨A1, c1, e1, hl1, hc1, hr1⟩ := h1
            try rw [e1]
            clear e1
            have e2 : u 2 = .string (str (sha L)) := h2
            try rw [e2]
            clear h2 e2
            have e3 : u 3 = .slice A4 n4 c4 := h3
            try rw [e3]
            clear h3 e3
            obtain ⟨A4, c4, e4, hl4, hc4, hr4⟩ := h4
            try rw [e4]
            clear e4
            have e5 : u 5 = .string (str (sha L)) := h5
            try rw [e5]
            clear h5 e5
            have e6 : u 6 = .bool true := h6
            try rw [e6]
            clear h6 e6
            rw [if_pos (by rfl)]
            intro K hK
            go_simp
            exact hK.out _ _ _ (by simp only [Act.put, List.setIfInBounds_toArray, List.set_cons_zero, List.set_cons_succ]) rfl (Grows.refl _)
        · intro u wi hR hf
          simp only [putPs, Act.put, List.setIfInBounds_toArray, List.set_cons_zero, List.set_cons_succ, List.getElem_toArray, List.getElem_cons_zero, List.getElem_cons_succ]
          obtain ⟨h0, h1, h2, h3, h4, h5, h6, h7, _⟩ := hf
          have e0 : u 0 = .pointer (some ⟨g, 0, none⟩) := h0
          try rw [e0]
          clear h0 e0
          obtain ⟨A1, c1, e1, hl1, hc1, hr1⟩ := h1
          try rw [e1]
          clear e1
          have e2 : u 2 = .string (str (sha L)) := h2
          try rw [e2]
          clear h2 e2
          have e3 : u 3 = .slice A4 n4 c4 := h3
          try rw [e3]
          clear h3 e3
          obtain ⟨A4, c4, e4, hl4, hc4, hr4⟩ := h4
          try rw [e4]
          clear e4
          have e5 : u 5 = .string (str (sha L)) := h5
          try rw [e5]
          clear h5 e5
          have e6 : u 6 = .bool true := h6
          try rw [e6]
          clear h6 e6
          have e7 : u 7 = .bool true := h7
          try rw [e7]
          clear h7 e7
          go_wp2
          go_ret
          exact ⟨rfl, HBR.out.trans (((Below.refl _ _).drew.trans (hR.mono (by simp))).mono hzr)⟩

set_option maxRecDepth 100000 in
theorem lifted (os : Os) (started : os.Started) (H : Type) (enc : TypeId × Value → H) :
    ReturnsInHanded {} Try.checked os 6 .any (Rows.shaGoesSpec.pre6 enc Try.prog Try.f6 Rows.shaGoesRow.domain false) (Rows.shaGoesSpec.post enc Try.prog Try.f6 false true false false) := by
  refine returnsInHanded_of_change_sized (C := Try.checked) own started (by kernel_rfl) Try.func6
    (ChangeSpec.witness6 (enc := enc) (C := Try.checked) false ⟨#[], #[.slice none 0 0], []⟩ 8 (by kernel_rfl) (by kernel_rfl) (by kernel_rfl) (by kernel_rfl)) ?_
  intro W base args ds gs before hval0 hW hcnd hsz0 _
  have hval : ∀ (j : Nat) t v, Try.f6.params[j]? = some t → args[j]? = some v → Value.okWide Try.prog W .any base t v := hval0
  have hsz : (DataW.weightsEach Try.prog (Try.f6.params.toList ++ Rows.shaGoesSpec.plain.varTypes Try.prog) (ds ++ gs)).all (· ≤ reachBytes) = true := hsz0
  clear hsz0
  have hW' := hW
  obtain ⟨p, q, hA0, hV, rfl, hfz, hnd⟩ := hW
  have hA : DataW.TrodAll enc Try.prog W 0 (fun _ => true) true Try.f6.params.toList args.toList ds p := hA0
  rw [Try.params6] at hA hval hsz
  obtain ⟨v0, vs0, d0, ds0, p0, q0, hargs, rfl, rfl, h0, r0⟩ := trodAll_cons hA
  obtain ⟨rfl, rfl, rfl⟩ := trodAll_nil r0
  obtain rfl : args = #[v0] := by cases args; simp_all
  obtain ⟨rfl, rfl⟩ := trodVars_none hV
  obtain ⟨a0, len0, cap0, rfl⟩ := okWide_slice Try.underlying28 (hval 0 28 v0 rfl rfl)
  have k0 := h0
  have lt0 : ∀ x ∈ p0, x.block < W.heap.size := by obtain ⟨m, hm⟩ := k0; exact DataW.trod_lt m _ _ _ hm
  obtain ⟨ps0, w0⟩ := open_rows Try.underlying28 Try.underlying22 Try.underlying5 (by kernel_rfl) (by kernel_rfl) h0
  clear hsz
  clear hA0 hval0
  simp only [List.append_nil] at hW'
  refine (walk a0 len0 cap0 ps0 W w0).mono fun e W' ⟨he, bel⟩ => ?_
  subst he
  exact ⟨_, rfl, _, _, _, [], _, [], hW', trodAll_mk1 (shut_bool Try.underlying4 _), (trodAll_cons_mk (Below.trod laidOut (by kernel_rfl) (of_decide_eq_true (by kernel_rfl)) k0 bel lt0) trodAll_mk0), rfl, bel.frame _, fun h => by cases h⟩

theorem over : Rows.shaGoesRow.holds Try.pinned (OpenSpec.ofChange Rows.shaGoesSpec) :=
  OpenClaim.holds_of_wide 6 Try.f6 rfl rfl rfl rfl rfl rfl rfl ⟨rfl, rfl, rfl, rfl, rfl⟩ rfl rfl rfl rfl rfl (by kernel_rfl) Try.func6 (by kernel_rfl)
    (of_decide_eq_true (by kernel_rfl)) (by unfold Func.isWrapper; first | (rw [if_pos (by decide +kernel)]; kernel_rfl) | (rw [if_neg (by decide +kernel)]; exact ⟨rfl, rfl⟩))
    (fun os started H enc _ => lifted os started H enc)

theorem proved : Rows.ShaGoesSaid := over
end Go.Proofs.Ytoklpohpfoacpaa.shaGoes
