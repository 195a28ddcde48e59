/- The law 'ShaPairs' answers true for every input, and its arguments read afterwards as before; no condition. The frame follows the kit's skeleton; the walk is ours. -/
import Derived.Test.YtoklpohpfoacpaaRows
import Derived.Test.YtoklpohpfoacpaaArgs
import Derived.Test.YtoklpohpfoacpaaArgR
import Derived.Test.YtoklpohpfoacpaaShaHold
import Derived.Test.YtoklpohpfoacpaaDoes
import Derived.Deep.RegionWith
import Derived.Deep.RegionHeld3
import Derived.Deep.DrawnRows
import Derived.WalkKit
import Derived.ProofKit
import Derived.OpenShut
import Derived.ShutString
import Derived.ChangeOld
import Derived.Below
import Derived.SizedLaws
namespace Go.Proofs.Ytoklpohpfoacpaa.shaPairs
open Go.ChangeShapes Go.WideShapes Go.ChangeAt Go.RowKit
set_option linter.unusedVariables false

theorem own : ownKnob Try.prog.godebug = none := by kernel_rfl
theorem laidOut : laidOutB Try.prog = true := by kernel_rfl

open Sha
attribute [local go_sem ↓] Go.wp_at_zero Go.wp_at_succ
set_option linter.unusedSimpArgs false

set_option maxRecDepth 100000 in
set_option maxHeartbeats 8000000 in
theorem walk (a0 : Option Addr) (len0 cap0 : Nat) (ps0 : List Part) (a1 : Option Addr) (len1 cap1 : Nat) (ps1 : List Part) (w : World) (w0 : ArgR w a0 len0 cap0 ps0) (w1 : ArgR w a1 len1 cap1 ps1) :
    Calls Try.prog 7 #[.slice a0 len0 cap0, .slice a1 len1 cap1] w fun e w' => e = .returned (.bool true) ∧ Below w.heap.size w w' := by
  obtain ⟨hl0, hf0, hm0, hr0⟩ := w0
  obtain ⟨hl1, hf1, hm1, hr1⟩ := w1
  have HL0 := Lib.hid hl0
  have HR0 := Lib.hid hr0
  have HL1 := Lib.hid hl1
  have HR1 := Lib.hid hr1
  clear hl0 hr0 hl1 hr1
  go_enter Try.func7, Try.ntmps7
  go_wp2_with fail
  refine (small_any _).mono ?_
  rintro e w1 ⟨rfl, hb1⟩
  have hz1 := hb1.size
  go_wp2_with fail
  refine (new_any _).mono ?_
  rintro e w2 ⟨g, rfl, hgb, hr2, hb2⟩
  have hK2 := Lib.hid (Held.new (w0 := w) hr2 (Nat.le_trans hz1 hgb))
  have hbw2 := hb1.trans (hb2.mono hz1)
  have hz2 := hbw2.size
  clear hr2 hb2
  go_wp2_with fail
  refine (new_any _).mono ?_
  rintro e w3 ⟨h, rfl, hhb, hr3, hb3⟩
  have hT3 : Two w w3 g (.slice none 0 0) (.slice none 0 0) (some4 ps0 0) (some4 ps0 0) h (.slice none 0 0) (.slice none 0 0) (some4 ps1 0) (some4 ps1 0) := Two.new hK2.out hr3 hhb hb3
  have hbw3 := hbw2.trans (hb3.mono hz2)
  have e0 : (some4 ps0 0).length ≤ 4096 * 0 := Nat.le_refl _
  have e1 : (some4 ps1 0).length ≤ 4096 * 0 := Nat.le_refl _
  have hT3' := Lib.hid hT3
  clear hr3 hb3 hT3 hK2
  go_wp2_with fail
  go_loopw [8, 9, 10] (fun x y i wr => ∃ k : Nat, k ≤ 8 ∧ i = .int .i64 k ∧ (∃ rg rh, Two w wr g rg x (some4 ps0 k) (some4 ps0 k) h rh y (some4 ps1 k) (some4 ps1 k)) ∧ (some4 ps0 k).length ≤ 4096 * k ∧ (some4 ps1 k).length ≤ 4096 * k ∧ Below w.heap.size w wr) (fun _ _ i _ => 8 - (intOf i).toNat)
  case atStart => exact ⟨0, by omega, rfl, ⟨_, _, hT3'.out⟩, e0, e1, hbw3⟩
  case round =>
    obtain ⟨k, hk, rfl, ⟨rg, rh, hT⟩, hlena, hlenb, hbr⟩ := hrel
    clear hT3' hbw3 e0 e1
    have hzr := hbr.size
    have HT := Lib.hid hT
    have HLENa := Lib.hid hlena
    have HLENb := Lib.hid hlenb
    have HB := Lib.hid hbr
    clear hT hlena hlenb hbr
    obtain ⟨wq, rfl⟩ : ∃ wq : World, wq = wr := ⟨_, rfl⟩
    by_cases hlt : k < 8
    · by_cases hlta : k < len0
      · have hkla : k < ps0.length := by rw [HL0.out]; exact hlta
        obtain ⟨ada, hAa, hSa, hca⟩ := HR0.out.at_ (by omega)
        subst hAa
        have hparta := HR0.out.part ps0[k] (List.getElem_mem hkla)
        have hcella := hca k hkla
        have hsya := fun A n c l h hn => some4_yes hkla (A := A) (n := n) (c := c) (l := l) h hn
        have hsma := fun A n c l h hn => some4_no hkla (A := A) (n := n) (c := c) (l := l) h hn
        generalize hpka : ps0[k] = p at *
        obtain ⟨pAa, pna, pca, pla⟩ := p
        obtain ⟨hp1a, hp2a, hp3a, hp4a⟩ := hparta
        simp only at hp1a hp2a hp3a hp4a
        have HSYa := Lib.hid (hsya pAa pna pca pla rfl)
        have HSMa := Lib.hid (hsma pAa pna pca pla rfl)
        have HCa := Lib.hid (show w.cell? (ada.add k) = some (.slice pAa pna pca) from hcella)
        have HPa := Lib.hid hp1a
        have HRDa := Lib.hid (hp4a.rd (B := w.heap.size) (fun k hk => hk))
        have HSa := Lib.hid hSa
        have HPPa := Lib.hid (show ∀ p ∈ [(⟨pAa, pna, pca, pla⟩ : Part)], p.l.length = p.n ∧ p.n ≤ p.c ∧ p.c ≤ 9223372036854775807 ∧ Rd w w.heap.size p.A p.l from by
          intro p hp; simp only [List.mem_singleton] at hp; subst hp; exact ⟨HPa.out, hp2a, hp3a, HRDa.out⟩)
        clear hsya hsma hpka hca hcella hp1a hp4a hSa hkla
        by_cases lt4a : pna < 4096
        · skip
          by_cases hltb : k < len1
          · have hklb : k < ps1.length := by rw [HL1.out]; exact hltb
            obtain ⟨adb, hAb, hSb, hcb⟩ := HR1.out.at_ (by omega)
            subst hAb
            have hpartb := HR1.out.part ps1[k] (List.getElem_mem hklb)
            have hcellb := hcb k hklb
            have hsyb := fun A n c l h hn => some4_yes hklb (A := A) (n := n) (c := c) (l := l) h hn
            have hsmb := fun A n c l h hn => some4_no hklb (A := A) (n := n) (c := c) (l := l) h hn
            generalize hpkb : ps1[k] = p at *
            obtain ⟨pAb, pnb, pcb, plb⟩ := p
            obtain ⟨hp1b, hp2b, hp3b, hp4b⟩ := hpartb
            simp only at hp1b hp2b hp3b hp4b
            have HSYb := Lib.hid (hsyb pAb pnb pcb plb rfl)
            have HSMb := Lib.hid (hsmb pAb pnb pcb plb rfl)
            have HCb := Lib.hid (show w.cell? (adb.add k) = some (.slice pAb pnb pcb) from hcellb)
            have HPb := Lib.hid hp1b
            have HRDb := Lib.hid (hp4b.rd (B := w.heap.size) (fun k hk => hk))
            have HSb := Lib.hid hSb
            have HPPb := Lib.hid (show ∀ p ∈ [(⟨pAb, pnb, pcb, plb⟩ : Part)], p.l.length = p.n ∧ p.n ≤ p.c ∧ p.c ≤ 9223372036854775807 ∧ Rd w w.heap.size p.A p.l from by
              intro p hp; simp only [List.mem_singleton] at hp; subst hp; exact ⟨HPb.out, hp2b, hp3b, HRDb.out⟩)
            clear hsyb hsmb hpkb hcb hcellb hp1b hp4b hSb hklb
            by_cases lt4b : pnb < 4096
            · have crawq : wq.cell? (ada.add k) = some (.slice pAa pna pca) := (HB.out.cell (by rw [add_block]; exact HSa.out)).trans HCa.out
              have crbwq : wq.cell? (adb.add k) = some (.slice pAb pnb pcb) := (HB.out.cell (by rw [add_block]; exact HSb.out)).trans HCb.out
              go_wp2_with fail
              have hOa := (HT.out).below_ (w' := wq.alloc (.cells #[.slice pAa pna pca] 22)) ((Below.refl _ _).alloc (Nat.le_refl _) _)
              refine (write_any g w.heap.size rg (some4 ps0 k) _ 1 1 [(⟨pAa, pna, pca, pla⟩ : Part)] _ (some4 ps0 k).length hOa.one.hst (farP HB.out ((HT.out).one.lt (.inl rfl)).1 ((HT.out).one.lt (.inl rfl)).2 (fun k hk => (HT.out).one.lt (.inr (.inl hk))) HPPa.out) rfl (by omega) (by simp [bytesOf]; have := HLENa.out; have := HPa.out; omega) (by simp [bytesOf]; have := HLENa.out; have := HPa.out; omega) (by simp; omega)).mono ?_
              rintro e wma ⟨rg2, rfl, hH2, hn2, hF2⟩
              rw [show bytesOf [(⟨pAa, pna, pca, pla⟩ : Part)] = pla by simp [bytesOf], ← List.length_append] at hH2
              have hT2 := hOa.write hH2 hn2 hF2
              have hb2 : Below w.heap.size w wma := (HB.out.alloc hzr _).trans (hF2.toBelow (fun k hk => ⟨by simp; omega, fun e => by have := ((HT.out).one.lt (.inl rfl)).1; omega, fun e => by have := ((HT.out).one.lt (.inr (.inl e))).1; omega⟩))
              have hzma := hb2.size
              have HTma := Lib.hid hT2
              have HBma := Lib.hid hb2
              have hsrc := (HRDa.out.below hb2).news pna HPa.out
              have HSRCa := Lib.hid hsrc
              have cma : wma.cell? (ada.add k) = some (.slice pAa pna pca) := (hb2.cell (by rw [add_block]; exact HSa.out)).trans HCa.out
              clear hOa hH2 hn2 hF2 hT2 hb2 hsrc
              go_wp2_with (with_reducible refine at_slot 52 ?_
                           refine wpList_append_v Go.Proofs.Ytoklpohpfoacpaa.u8.el rfl (.tmp 47) (.tmp 51) rfl w.heap.size _ (bvs (some4 ps0 k)) _ pna pca (bvs pla) rfl rfl HTma.out.one.own (by rw [bvs_length]; exact HPa.out) HSRCa.out (bvs_one _) (by rw [bvs_length]; have := HLENa.out; omega) (by rw [bvs_length]; have := HLENa.out; omega) hzma ?_
                           intro v4a w4a hO4 hg4 hat4
                           have hT4 := HTma.out.app (by rw [← bvs_append] at hO4; exact hO4) hg4 hat4
                           have hb4 := HBma.out.grown hg4 hzma (fun x hx => (HTma.out.one.own.lt x hx).1)
                           have hz4a := hb4.size
                           rw [← HSYa.out lt4a] at hT4
                           have HT4a := Lib.hid (hT4)
                           have HB4a := Lib.hid hb4
                           clear hO4 hg4 hat4 hT4 hb4 cma
                           have crbn : w4a.cell? (adb.add k) = some (.slice pAb pnb pcb) := (HB4a.out.cell (by rw [add_block]; exact HSb.out)).trans HCb.out)
              go_wp2_with fail
              have hOb := (HT4a.out.swap).below_ (w' := w4a.alloc (.cells #[.slice pAb pnb pcb] 22)) ((Below.refl _ _).alloc (Nat.le_refl _) _)
              refine (write_any h w.heap.size rh (some4 ps1 k) _ 1 1 [(⟨pAb, pnb, pcb, plb⟩ : Part)] _ (some4 ps1 k).length hOb.one.hst (farP HB4a.out ((HT4a.out.swap).one.lt (.inl rfl)).1 ((HT4a.out.swap).one.lt (.inl rfl)).2 (fun k hk => (HT4a.out.swap).one.lt (.inr (.inl hk))) HPPb.out) rfl (by omega) (by simp [bytesOf]; have := HLENb.out; have := HPb.out; omega) (by simp [bytesOf]; have := HLENb.out; have := HPb.out; omega) (by simp; omega)).mono ?_
              rintro e wmb ⟨rh2, rfl, hH2, hn2, hF2⟩
              rw [show bytesOf [(⟨pAb, pnb, pcb, plb⟩ : Part)] = plb by simp [bytesOf], ← List.length_append] at hH2
              have hT2 := hOb.write hH2 hn2 hF2
              have hb2 : Below w.heap.size w wmb := (HB4a.out.alloc hz4a _).trans (hF2.toBelow (fun k hk => ⟨by simp; omega, fun e => by have := ((HT4a.out.swap).one.lt (.inl rfl)).1; omega, fun e => by have := ((HT4a.out.swap).one.lt (.inr (.inl e))).1; omega⟩))
              have hzmb := hb2.size
              have HTmb := Lib.hid hT2
              have HBmb := Lib.hid hb2
              have hsrc := (HRDb.out.below hb2).news pnb HPb.out
              have HSRCb := Lib.hid hsrc
              have cmb : wmb.cell? (adb.add k) = some (.slice pAb pnb pcb) := (hb2.cell (by rw [add_block]; exact HSb.out)).trans HCb.out
              clear hOb hH2 hn2 hF2 hT2 hb2 hsrc
              go_wp2_with (with_reducible refine at_slot 77 ?_
                           refine wpList_append_v Go.Proofs.Ytoklpohpfoacpaa.u8.el rfl (.tmp 72) (.tmp 76) rfl w.heap.size _ (bvs (some4 ps1 k)) _ pnb pcb (bvs plb) rfl rfl HTmb.out.one.own (by rw [bvs_length]; exact HPb.out) HSRCb.out (bvs_one _) (by rw [bvs_length]; have := HLENb.out; omega) (by rw [bvs_length]; have := HLENb.out; omega) hzmb ?_
                           intro v4b w4b hO4 hg4 hat4
                           have hT4 := HTmb.out.app (by rw [← bvs_append] at hO4; exact hO4) hg4 hat4
                           have hb4 := HBmb.out.grown hg4 hzmb (fun x hx => (HTmb.out.one.own.lt x hx).1)
                           have hz4b := hb4.size
                           rw [← HSYb.out lt4b] at hT4
                           have HT4b := Lib.hid (hT4.swap)
                           have HB4b := Lib.hid hb4
                           clear hO4 hg4 hat4 hT4 hb4 cmb
                           skip)
              go_roundw
              case rel => exact ⟨k + 1, by omega, by go_num, ⟨_, _, HT4b.out⟩, by rw [HSYa.out lt4a, List.length_append]; have := HLENa.out; have := HPa.out; omega, by rw [HSYb.out lt4b, List.length_append]; have := HLENb.out; have := HPb.out; omega, HB4b.out⟩
              case measure => simp [intOf]; omega
            · have hsb := HSMb.out lt4b
              have HS4b := Lib.hid hsb
              clear hsb
              have crawq : wq.cell? (ada.add k) = some (.slice pAa pna pca) := (HB.out.cell (by rw [add_block]; exact HSa.out)).trans HCa.out
              have crbwq : wq.cell? (adb.add k) = some (.slice pAb pnb pcb) := (HB.out.cell (by rw [add_block]; exact HSb.out)).trans HCb.out
              go_wp2_with fail
              have hOa := (HT.out).below_ (w' := wq.alloc (.cells #[.slice pAa pna pca] 22)) ((Below.refl _ _).alloc (Nat.le_refl _) _)
              refine (write_any g w.heap.size rg (some4 ps0 k) _ 1 1 [(⟨pAa, pna, pca, pla⟩ : Part)] _ (some4 ps0 k).length hOa.one.hst (farP HB.out ((HT.out).one.lt (.inl rfl)).1 ((HT.out).one.lt (.inl rfl)).2 (fun k hk => (HT.out).one.lt (.inr (.inl hk))) HPPa.out) rfl (by omega) (by simp [bytesOf]; have := HLENa.out; have := HPa.out; omega) (by simp [bytesOf]; have := HLENa.out; have := HPa.out; omega) (by simp; omega)).mono ?_
              rintro e wma ⟨rg2, rfl, hH2, hn2, hF2⟩
              rw [show bytesOf [(⟨pAa, pna, pca, pla⟩ : Part)] = pla by simp [bytesOf], ← List.length_append] at hH2
              have hT2 := hOa.write hH2 hn2 hF2
              have hb2 : Below w.heap.size w wma := (HB.out.alloc hzr _).trans (hF2.toBelow (fun k hk => ⟨by simp; omega, fun e => by have := ((HT.out).one.lt (.inl rfl)).1; omega, fun e => by have := ((HT.out).one.lt (.inr (.inl e))).1; omega⟩))
              have hzma := hb2.size
              have HTma := Lib.hid hT2
              have HBma := Lib.hid hb2
              have hsrc := (HRDa.out.below hb2).news pna HPa.out
              have HSRCa := Lib.hid hsrc
              have cma : wma.cell? (ada.add k) = some (.slice pAa pna pca) := (hb2.cell (by rw [add_block]; exact HSa.out)).trans HCa.out
              clear hOa hH2 hn2 hF2 hT2 hb2 hsrc
              go_wp2_with (with_reducible refine at_slot 52 ?_
                           refine wpList_append_v Go.Proofs.Ytoklpohpfoacpaa.u8.el rfl (.tmp 47) (.tmp 51) rfl w.heap.size _ (bvs (some4 ps0 k)) _ pna pca (bvs pla) rfl rfl HTma.out.one.own (by rw [bvs_length]; exact HPa.out) HSRCa.out (bvs_one _) (by rw [bvs_length]; have := HLENa.out; omega) (by rw [bvs_length]; have := HLENa.out; omega) hzma ?_
                           intro v4a w4a hO4 hg4 hat4
                           have hT4 := HTma.out.app (by rw [← bvs_append] at hO4; exact hO4) hg4 hat4
                           have hb4 := HBma.out.grown hg4 hzma (fun x hx => (HTma.out.one.own.lt x hx).1)
                           have hz4a := hb4.size
                           rw [← HSYa.out lt4a] at hT4
                           have HT4a := Lib.hid (hT4)
                           have HB4a := Lib.hid hb4
                           clear hO4 hg4 hat4 hT4 hb4 cma
                           have crbn : w4a.cell? (adb.add k) = some (.slice pAb pnb pcb) := (HB4a.out.cell (by rw [add_block]; exact HSb.out)).trans HCb.out)
              go_roundw
              case rel => exact ⟨k + 1, by omega, by go_num, ⟨_, _, by rw [HS4b.out]; exact HT4a.out⟩, by rw [HSYa.out lt4a, List.length_append]; have := HLENa.out; have := HPa.out; omega, by rw [HS4b.out]; have := HLENb.out; omega, HB4a.out⟩
              case measure => simp [intOf]; omega
          · have hsb := some4_end (ps := ps1) (k := k) (by rw [HL1.out]; exact hltb)
            have HS4b := Lib.hid hsb
            clear hsb
            have crawq : wq.cell? (ada.add k) = some (.slice pAa pna pca) := (HB.out.cell (by rw [add_block]; exact HSa.out)).trans HCa.out
            go_wp2_with fail
            have hOa := (HT.out).below_ (w' := wq.alloc (.cells #[.slice pAa pna pca] 22)) ((Below.refl _ _).alloc (Nat.le_refl _) _)
            refine (write_any g w.heap.size rg (some4 ps0 k) _ 1 1 [(⟨pAa, pna, pca, pla⟩ : Part)] _ (some4 ps0 k).length hOa.one.hst (farP HB.out ((HT.out).one.lt (.inl rfl)).1 ((HT.out).one.lt (.inl rfl)).2 (fun k hk => (HT.out).one.lt (.inr (.inl hk))) HPPa.out) rfl (by omega) (by simp [bytesOf]; have := HLENa.out; have := HPa.out; omega) (by simp [bytesOf]; have := HLENa.out; have := HPa.out; omega) (by simp; omega)).mono ?_
            rintro e wma ⟨rg2, rfl, hH2, hn2, hF2⟩
            rw [show bytesOf [(⟨pAa, pna, pca, pla⟩ : Part)] = pla by simp [bytesOf], ← List.length_append] at hH2
            have hT2 := hOa.write hH2 hn2 hF2
            have hb2 : Below w.heap.size w wma := (HB.out.alloc hzr _).trans (hF2.toBelow (fun k hk => ⟨by simp; omega, fun e => by have := ((HT.out).one.lt (.inl rfl)).1; omega, fun e => by have := ((HT.out).one.lt (.inr (.inl e))).1; omega⟩))
            have hzma := hb2.size
            have HTma := Lib.hid hT2
            have HBma := Lib.hid hb2
            have hsrc := (HRDa.out.below hb2).news pna HPa.out
            have HSRCa := Lib.hid hsrc
            have cma : wma.cell? (ada.add k) = some (.slice pAa pna pca) := (hb2.cell (by rw [add_block]; exact HSa.out)).trans HCa.out
            clear hOa hH2 hn2 hF2 hT2 hb2 hsrc
            go_wp2_with (with_reducible refine at_slot 52 ?_
                         refine wpList_append_v Go.Proofs.Ytoklpohpfoacpaa.u8.el rfl (.tmp 47) (.tmp 51) rfl w.heap.size _ (bvs (some4 ps0 k)) _ pna pca (bvs pla) rfl rfl HTma.out.one.own (by rw [bvs_length]; exact HPa.out) HSRCa.out (bvs_one _) (by rw [bvs_length]; have := HLENa.out; omega) (by rw [bvs_length]; have := HLENa.out; omega) hzma ?_
                         intro v4a w4a hO4 hg4 hat4
                         have hT4 := HTma.out.app (by rw [← bvs_append] at hO4; exact hO4) hg4 hat4
                         have hb4 := HBma.out.grown hg4 hzma (fun x hx => (HTma.out.one.own.lt x hx).1)
                         have hz4a := hb4.size
                         rw [← HSYa.out lt4a] at hT4
                         have HT4a := Lib.hid (hT4)
                         have HB4a := Lib.hid hb4
                         clear hO4 hg4 hat4 hT4 hb4 cma
                         skip)
            go_roundw
            case rel => exact ⟨k + 1, by omega, by go_num, ⟨_, _, by rw [HS4b.out]; exact HT4a.out⟩, by rw [HSYa.out lt4a, List.length_append]; have := HLENa.out; have := HPa.out; omega, by rw [HS4b.out]; have := HLENb.out; omega, HB4a.out⟩
            case measure => simp [intOf]; omega
        · skip
          by_cases hltb : k < len1
          · have hklb : k < ps1.length := by rw [HL1.out]; exact hltb
            obtain ⟨adb, hAb, hSb, hcb⟩ := HR1.out.at_ (by omega)
            subst hAb
            have hpartb := HR1.out.part ps1[k] (List.getElem_mem hklb)
            have hcellb := hcb k hklb
            have hsyb := fun A n c l h hn => some4_yes hklb (A := A) (n := n) (c := c) (l := l) h hn
            have hsmb := fun A n c l h hn => some4_no hklb (A := A) (n := n) (c := c) (l := l) h hn
            generalize hpkb : ps1[k] = p at *
            obtain ⟨pAb, pnb, pcb, plb⟩ := p
            obtain ⟨hp1b, hp2b, hp3b, hp4b⟩ := hpartb
            simp only at hp1b hp2b hp3b hp4b
            have HSYb := Lib.hid (hsyb pAb pnb pcb plb rfl)
            have HSMb := Lib.hid (hsmb pAb pnb pcb plb rfl)
            have HCb := Lib.hid (show w.cell? (adb.add k) = some (.slice pAb pnb pcb) from hcellb)
            have HPb := Lib.hid hp1b
            have HRDb := Lib.hid (hp4b.rd (B := w.heap.size) (fun k hk => hk))
            have HSb := Lib.hid hSb
            have HPPb := Lib.hid (show ∀ p ∈ [(⟨pAb, pnb, pcb, plb⟩ : Part)], p.l.length = p.n ∧ p.n ≤ p.c ∧ p.c ≤ 9223372036854775807 ∧ Rd w w.heap.size p.A p.l from by
              intro p hp; simp only [List.mem_singleton] at hp; subst hp; exact ⟨HPb.out, hp2b, hp3b, HRDb.out⟩)
            clear hsyb hsmb hpkb hcb hcellb hp1b hp4b hSb hklb
            by_cases lt4b : pnb < 4096
            · have hsa := HSMa.out lt4a
              have HS4a := Lib.hid hsa
              clear hsa
              have crawq : wq.cell? (ada.add k) = some (.slice pAa pna pca) := (HB.out.cell (by rw [add_block]; exact HSa.out)).trans HCa.out
              have crbwq : wq.cell? (adb.add k) = some (.slice pAb pnb pcb) := (HB.out.cell (by rw [add_block]; exact HSb.out)).trans HCb.out
              go_wp2_with fail
              have hOb := (HT.out.swap).below_ (w' := wq.alloc (.cells #[.slice pAb pnb pcb] 22)) ((Below.refl _ _).alloc (Nat.le_refl _) _)
              refine (write_any h w.heap.size rh (some4 ps1 k) _ 1 1 [(⟨pAb, pnb, pcb, plb⟩ : Part)] _ (some4 ps1 k).length hOb.one.hst (farP HB.out ((HT.out.swap).one.lt (.inl rfl)).1 ((HT.out.swap).one.lt (.inl rfl)).2 (fun k hk => (HT.out.swap).one.lt (.inr (.inl hk))) HPPb.out) rfl (by omega) (by simp [bytesOf]; have := HLENb.out; have := HPb.out; omega) (by simp [bytesOf]; have := HLENb.out; have := HPb.out; omega) (by simp; omega)).mono ?_
              rintro e wmb ⟨rh2, rfl, hH2, hn2, hF2⟩
              rw [show bytesOf [(⟨pAb, pnb, pcb, plb⟩ : Part)] = plb by simp [bytesOf], ← List.length_append] at hH2
              have hT2 := hOb.write hH2 hn2 hF2
              have hb2 : Below w.heap.size w wmb := (HB.out.alloc hzr _).trans (hF2.toBelow (fun k hk => ⟨by simp; omega, fun e => by have := ((HT.out.swap).one.lt (.inl rfl)).1; omega, fun e => by have := ((HT.out.swap).one.lt (.inr (.inl e))).1; omega⟩))
              have hzmb := hb2.size
              have HTmb := Lib.hid hT2
              have HBmb := Lib.hid hb2
              have hsrc := (HRDb.out.below hb2).news pnb HPb.out
              have HSRCb := Lib.hid hsrc
              have cmb : wmb.cell? (adb.add k) = some (.slice pAb pnb pcb) := (hb2.cell (by rw [add_block]; exact HSb.out)).trans HCb.out
              clear hOb hH2 hn2 hF2 hT2 hb2 hsrc
              go_wp2_with (with_reducible refine at_slot 77 ?_
                           refine wpList_append_v Go.Proofs.Ytoklpohpfoacpaa.u8.el rfl (.tmp 72) (.tmp 76) rfl w.heap.size _ (bvs (some4 ps1 k)) _ pnb pcb (bvs plb) rfl rfl HTmb.out.one.own (by rw [bvs_length]; exact HPb.out) HSRCb.out (bvs_one _) (by rw [bvs_length]; have := HLENb.out; omega) (by rw [bvs_length]; have := HLENb.out; omega) hzmb ?_
                           intro v4b w4b hO4 hg4 hat4
                           have hT4 := HTmb.out.app (by rw [← bvs_append] at hO4; exact hO4) hg4 hat4
                           have hb4 := HBmb.out.grown hg4 hzmb (fun x hx => (HTmb.out.one.own.lt x hx).1)
                           have hz4b := hb4.size
                           rw [← HSYb.out lt4b] at hT4
                           have HT4b := Lib.hid (hT4.swap)
                           have HB4b := Lib.hid hb4
                           clear hO4 hg4 hat4 hT4 hb4 cmb
                           skip)
              go_roundw
              case rel => exact ⟨k + 1, by omega, by go_num, ⟨_, _, by rw [HS4a.out]; exact HT4b.out⟩, by rw [HS4a.out]; have := HLENa.out; omega, by rw [HSYb.out lt4b, List.length_append]; have := HLENb.out; have := HPb.out; omega, HB4b.out⟩
              case measure => simp [intOf]; omega
            · have hsa := HSMa.out lt4a
              have HS4a := Lib.hid hsa
              clear hsa
              have hsb := HSMb.out lt4b
              have HS4b := Lib.hid hsb
              clear hsb
              have crawq : wq.cell? (ada.add k) = some (.slice pAa pna pca) := (HB.out.cell (by rw [add_block]; exact HSa.out)).trans HCa.out
              have crbwq : wq.cell? (adb.add k) = some (.slice pAb pnb pcb) := (HB.out.cell (by rw [add_block]; exact HSb.out)).trans HCb.out
              go_wp2_with fail
              go_roundw
              case rel => exact ⟨k + 1, by omega, by go_num, ⟨_, _, by rw [HS4a.out, HS4b.out]; exact HT.out⟩, by rw [HS4a.out]; have := HLENa.out; omega, by rw [HS4b.out]; have := HLENb.out; omega, HB.out⟩
              case measure => simp [intOf]; omega
          · have hsa := HSMa.out lt4a
            have HS4a := Lib.hid hsa
            clear hsa
            have hsb := some4_end (ps := ps1) (k := k) (by rw [HL1.out]; exact hltb)
            have HS4b := Lib.hid hsb
            clear hsb
            have crawq : wq.cell? (ada.add k) = some (.slice pAa pna pca) := (HB.out.cell (by rw [add_block]; exact HSa.out)).trans HCa.out
            go_wp2_with fail
            go_roundw
            case rel => exact ⟨k + 1, by omega, by go_num, ⟨_, _, by rw [HS4a.out, HS4b.out]; exact HT.out⟩, by rw [HS4a.out]; have := HLENa.out; omega, by rw [HS4b.out]; have := HLENb.out; omega, HB.out⟩
            case measure => simp [intOf]; omega
      · skip
        by_cases hltb : k < len1
        · have hklb : k < ps1.length := by rw [HL1.out]; exact hltb
          obtain ⟨adb, hAb, hSb, hcb⟩ := HR1.out.at_ (by omega)
          subst hAb
          have hpartb := HR1.out.part ps1[k] (List.getElem_mem hklb)
          have hcellb := hcb k hklb
          have hsyb := fun A n c l h hn => some4_yes hklb (A := A) (n := n) (c := c) (l := l) h hn
          have hsmb := fun A n c l h hn => some4_no hklb (A := A) (n := n) (c := c) (l := l) h hn
          generalize hpkb : ps1[k] = p at *
          obtain ⟨pAb, pnb, pcb, plb⟩ := p
          obtain ⟨hp1b, hp2b, hp3b, hp4b⟩ := hpartb
          simp only at hp1b hp2b hp3b hp4b
          have HSYb := Lib.hid (hsyb pAb pnb pcb plb rfl)
          have HSMb := Lib.hid (hsmb pAb pnb pcb plb rfl)
          have HCb := Lib.hid (show w.cell? (adb.add k) = some (.slice pAb pnb pcb) from hcellb)
          have HPb := Lib.hid hp1b
          have HRDb := Lib.hid (hp4b.rd (B := w.heap.size) (fun k hk => hk))
          have HSb := Lib.hid hSb
          have HPPb := Lib.hid (show ∀ p ∈ [(⟨pAb, pnb, pcb, plb⟩ : Part)], p.l.length = p.n ∧ p.n ≤ p.c ∧ p.c ≤ 9223372036854775807 ∧ Rd w w.heap.size p.A p.l from by
            intro p hp; simp only [List.mem_singleton] at hp; subst hp; exact ⟨HPb.out, hp2b, hp3b, HRDb.out⟩)
          clear hsyb hsmb hpkb hcb hcellb hp1b hp4b hSb hklb
          by_cases lt4b : pnb < 4096
          · have hsa := some4_end (ps := ps0) (k := k) (by rw [HL0.out]; exact hlta)
            have HS4a := Lib.hid hsa
            clear hsa
            have crbwq : wq.cell? (adb.add k) = some (.slice pAb pnb pcb) := (HB.out.cell (by rw [add_block]; exact HSb.out)).trans HCb.out
            go_wp2_with fail
            have hOb := (HT.out.swap).below_ (w' := wq.alloc (.cells #[.slice pAb pnb pcb] 22)) ((Below.refl _ _).alloc (Nat.le_refl _) _)
            refine (write_any h w.heap.size rh (some4 ps1 k) _ 1 1 [(⟨pAb, pnb, pcb, plb⟩ : Part)] _ (some4 ps1 k).length hOb.one.hst (farP HB.out ((HT.out.swap).one.lt (.inl rfl)).1 ((HT.out.swap).one.lt (.inl rfl)).2 (fun k hk => (HT.out.swap).one.lt (.inr (.inl hk))) HPPb.out) rfl (by omega) (by simp [bytesOf]; have := HLENb.out; have := HPb.out; omega) (by simp [bytesOf]; have := HLENb.out; have := HPb.out; omega) (by simp; omega)).mono ?_
            rintro e wmb ⟨rh2, rfl, hH2, hn2, hF2⟩
            rw [show bytesOf [(⟨pAb, pnb, pcb, plb⟩ : Part)] = plb by simp [bytesOf], ← List.length_append] at hH2
            have hT2 := hOb.write hH2 hn2 hF2
            have hb2 : Below w.heap.size w wmb := (HB.out.alloc hzr _).trans (hF2.toBelow (fun k hk => ⟨by simp; omega, fun e => by have := ((HT.out.swap).one.lt (.inl rfl)).1; omega, fun e => by have := ((HT.out.swap).one.lt (.inr (.inl e))).1; omega⟩))
            have hzmb := hb2.size
            have HTmb := Lib.hid hT2
            have HBmb := Lib.hid hb2
            have hsrc := (HRDb.out.below hb2).news pnb HPb.out
            have HSRCb := Lib.hid hsrc
            have cmb : wmb.cell? (adb.add k) = some (.slice pAb pnb pcb) := (hb2.cell (by rw [add_block]; exact HSb.out)).trans HCb.out
            clear hOb hH2 hn2 hF2 hT2 hb2 hsrc
            go_wp2_with (with_reducible refine at_slot 77 ?_
                         refine wpList_append_v Go.Proofs.Ytoklpohpfoacpaa.u8.el rfl (.tmp 72) (.tmp 76) rfl w.heap.size _ (bvs (some4 ps1 k)) _ pnb pcb (bvs plb) rfl rfl HTmb.out.one.own (by rw [bvs_length]; exact HPb.out) HSRCb.out (bvs_one _) (by rw [bvs_length]; have := HLENb.out; omega) (by rw [bvs_length]; have := HLENb.out; omega) hzmb ?_
                         intro v4b w4b hO4 hg4 hat4
                         have hT4 := HTmb.out.app (by rw [← bvs_append] at hO4; exact hO4) hg4 hat4
                         have hb4 := HBmb.out.grown hg4 hzmb (fun x hx => (HTmb.out.one.own.lt x hx).1)
                         have hz4b := hb4.size
                         rw [← HSYb.out lt4b] at hT4
                         have HT4b := Lib.hid (hT4.swap)
                         have HB4b := Lib.hid hb4
                         clear hO4 hg4 hat4 hT4 hb4 cmb
                         skip)
            go_roundw
            case rel => exact ⟨k + 1, by omega, by go_num, ⟨_, _, by rw [HS4a.out]; exact HT4b.out⟩, by rw [HS4a.out]; have := HLENa.out; omega, by rw [HSYb.out lt4b, List.length_append]; have := HLENb.out; have := HPb.out; omega, HB4b.out⟩
            case measure => simp [intOf]; omega
          · have hsa := some4_end (ps := ps0) (k := k) (by rw [HL0.out]; exact hlta)
            have HS4a := Lib.hid hsa
            clear hsa
            have hsb := HSMb.out lt4b
            have HS4b := Lib.hid hsb
            clear hsb
            have crbwq : wq.cell? (adb.add k) = some (.slice pAb pnb pcb) := (HB.out.cell (by rw [add_block]; exact HSb.out)).trans HCb.out
            go_wp2_with fail
            go_roundw
            case rel => exact ⟨k + 1, by omega, by go_num, ⟨_, _, by rw [HS4a.out, HS4b.out]; exact HT.out⟩, by rw [HS4a.out]; have := HLENa.out; omega, by rw [HS4b.out]; have := HLENb.out; omega, HB.out⟩
            case measure => simp [intOf]; omega
        · have hsa := some4_end (ps := ps0) (k := k) (by rw [HL0.out]; exact hlta)
          have HS4a := Lib.hid hsa
          clear hsa
          have hsb := some4_end (ps := ps1) (k := k) (by rw [HL1.out]; exact hltb)
          have HS4b := Lib.hid hsb
          clear hsb
          go_wp2_with fail
          go_roundw
          case rel => exact ⟨k + 1, by omega, by go_num, ⟨_, _, by rw [HS4a.out, HS4b.out]; exact HT.out⟩, by rw [HS4a.out]; have := HLENa.out; omega, by rw [HS4b.out]; have := HLENb.out; omega, HB.out⟩
          case measure => simp [intOf]; omega
    · have hk8 : k = 8 := by omega
      subst hk8
      have hl1 := HLENa.out
      have hl2 := HLENb.out
      have HE1 := Lib.hid (sha_len (some4 ps0 8))
      have HE2 := Lib.hid (sha_len (some4 ps1 8))
      generalize some4 ps0 8 = L1 at *
      generalize some4 ps1 8 = L2 at *
      obtain ⟨B1, n1, cB1, hv1, hn1, hcB1⟩ : ∃ A n c, u8 = .slice A n c ∧ L1.length = n ∧ c ≤ 9223372036854775807 := by
        obtain ⟨A, c, h1, h2, h3, _⟩ := HT.out.one.own.len
        rw [bvs_length] at h1
        exact ⟨A, _, c, h1, rfl, h3⟩
      obtain ⟨B2, n2, cB2, hv2, hn2, hcB2⟩ : ∃ A n c, u9 = .slice A n c ∧ L2.length = n ∧ c ≤ 9223372036854775807 := by
        obtain ⟨A, c, h1, h2, h3, _⟩ := HT.out.two.own.len
        rw [bvs_length] at h1
        exact ⟨A, _, c, h1, rfl, h3⟩
      subst hv1 hv2
      have HN1 := Lib.hid hn1
      have HN2 := Lib.hid hn2
      have hn1' : n1 ≤ 32768 := by omega
      have hn2' : n2 ≤ 32768 := by omega
      clear hn1 hn2 hlt hk HLENa HLENb
      rw [show ((8 : Nat) : Int) = 8 from rfl]
      go_wp2_with fail
      refine wp_region_facts [FVal (.pointer (some ⟨g, 0, none⟩)), FRd 32 (sha L1), FVal (.string (str (sha L1))), FVal (.slice B1 n1 cB1), FParts 1 1 [(⟨B1, n1, cB1, L1⟩ : Part)], FRd 32 (sha L1), FVal (.string (str (sha L1))), FVal (.bool true), FVal (.bool true), FVal (.pointer (some ⟨h, 0, none⟩)), FRd 32 (sha L2), FVal (.string (str (sha L2))), FVal (.slice B2 n2 cB2), FParts 1 1 [(⟨B2, n2, cB2, L2⟩ : Part)], FRd 32 (sha L2), FVal (.string (str (sha L2))), FVal (.bool true), FVal (.bool true), FVal (.bool true), FVal (.pointer (some ⟨g, 0, none⟩)), FVal (.int .i64 (n1 : Int)), FVal (.slice B1 n1 cB1), FVal (.int .i64 (n1 : Int)), FVal (.bool true), FVal (.bool true), FVal (.bool true), FVal (.pointer (some ⟨h, 0, none⟩)), FVal (.int .i64 (n2 : Int)), FVal (.slice B2 n2 cB2), FVal (.int .i64 (n2 : Int)), FVal (.bool true), FVal (.bool true), FVal (.bool true)] [0, 1, 2, 3, 4, 5, 6, 7, 8, 9, 10, 11, 12, 13, 14, 15, 16, 17, 18, 19, 20, 21, 22, 23, 24, 25, 26, 27, 28, 29, 30, 31, 32] [(0, some 78), (1, some 79), (2, some 80), (3, some 81), (4, some 82), (5, some 83), (6, some 84), (7, some 85), (8, some 86), (9, some 87), (10, some 88), (11, some 89), (12, some 90), (13, some 91), (14, some 92), (15, some 93), (16, some 94), (17, some 95), (18, some 96), (19, some 97), (20, some 98), (21, some 99), (22, some 100), (23, some 101), (24, some 102), (25, some 103), (26, some 104), (27, some 105), (28, some 106), (29, some 107), (30, some 108), (31, some 109), (32, some 4)] (by kernel_rfl) (by kernel_rfl) (by kernel_rfl) (by kernel_rfl) ?_ ?_ ?_
      · simp only [List.forall_mem_cons, List.not_mem_nil, false_implies, implies_true, and_true]
        exact ⟨stable_val _, stable_rd _ _, stable_val _, stable_val _, stable_parts _ _ _, stable_rd _ _, stable_val _, stable_val _, stable_val _, stable_val _, stable_rd _ _, stable_val _, stable_val _, stable_parts _ _ _, stable_rd _ _, stable_val _, stable_val _, stable_val _, stable_val _, stable_val _, stable_val _, stable_val _, stable_val _, stable_val _, stable_val _, stable_val _, stable_val _, stable_val _, stable_val _, stable_val _, stable_val _, stable_val _, stable_val _⟩
      · simp only [List.forall_mem_cons, List.not_mem_nil, false_implies, implies_true, and_true]
        refine ⟨?_, ?_, ?_, ?_, ?_, ?_, ?_, ?_, ?_, ?_, ?_, ?_, ?_, ?_, ?_, ?_, ?_, ?_, ?_, ?_, ?_, ?_, ?_, ?_, ?_, ?_, ?_, ?_, ?_, ?_, ?_, ?_, ?_⟩
        · refine does_mk [] rfl (by kernel_rfl) (fun u wi hR hf => ?_)
          simp only [putPs, Act.put, List.setIfInBounds_toArray, List.set_cons_zero, List.set_cons_succ, List.getElem_toArray, List.getElem_cons_zero, List.getElem_cons_succ]
          rw [if_pos (by rfl)]
          intro K hK
          go_simp
          exact hK.out _ _ _ (by simp only [Act.put, List.setIfInBounds_toArray, List.set_cons_zero, List.set_cons_succ]) rfl (Grows.refl _)
        · refine does_mk [(0, some 78)] rfl (by kernel_rfl) (fun u wi hR hf => ?_)
          simp only [putPs, Act.put, List.setIfInBounds_toArray, List.set_cons_zero, List.set_cons_succ, List.getElem_toArray, List.getElem_cons_zero, List.getElem_cons_succ]
          obtain ⟨h0, _⟩ := hf
          have e0 : u 0 = .pointer (some ⟨g, 0, none⟩) := h0
          try rw [e0]
          clear h0 e0
          rw [if_pos (by rfl)]
          intro K hK
          go_simp
          refine (hsum_any g w.heap.size rg L1 _ (HT.out.below_ ((Below.refl _ _).drew.trans (hR.mono (by simp)))).one.hst (by omega)).mono ?_
          rintro e w5 ⟨v5, rfl, hO5, hb5⟩
          obtain ⟨A5, c5, rfl, hR5, hc5⟩ := hO5.form
          rw [HE1.out] at hc5 ⊢
          exact hK.out _ _ _ (by simp only [Act.put, List.setIfInBounds_toArray, List.set_cons_zero, List.set_cons_succ]) ⟨A5, c5, rfl, HE1.out, hc5, hR5⟩ hb5
        · refine does_mk [(1, some 79)] rfl (by kernel_rfl) (fun u wi hR hf => ?_)
          simp only [putPs, Act.put, List.setIfInBounds_toArray, List.set_cons_zero, List.set_cons_succ, List.getElem_toArray, List.getElem_cons_zero, List.getElem_cons_succ]
          obtain ⟨h1, _⟩ := hf
          obtain ⟨A1, c1, e1, hl1, hc1, hr1⟩ := h1
          try rw [e1]
          clear e1
          rw [if_pos (by rfl)]
          intro K hK
          have hs := hr1.str Go.Proofs.Ytoklpohpfoacpaa.u8 9 Try.underlying9 c1
          rw [hl1] at hs
          go_simp
          exact hK.out _ _ _ (by simp only [Act.put, List.setIfInBounds_toArray, List.set_cons_zero, List.set_cons_succ]) rfl (Grows.refl _)
        · refine does_mk [] rfl (by kernel_rfl) (fun u wi hR hf => ?_)
          simp only [putPs, Act.put, List.setIfInBounds_toArray, List.set_cons_zero, List.set_cons_succ, List.getElem_toArray, List.getElem_cons_zero, List.getElem_cons_succ]
          rw [if_pos (by rfl)]
          intro K hK
          go_simp
          exact hK.out _ _ _ (by simp only [Act.put, List.setIfInBounds_toArray, List.set_cons_zero, List.set_cons_succ]) rfl (Grows.refl _)
        · refine does_mk [(3, some 81)] rfl (by kernel_rfl) (fun u wi hR hf => ?_)
          simp only [putPs, Act.put, List.setIfInBounds_toArray, List.set_cons_zero, List.set_cons_succ, List.getElem_toArray, List.getElem_cons_zero, List.getElem_cons_succ]
          obtain ⟨h3, _⟩ := hf
          have e3 : u 3 = .slice B1 n1 cB1 := h3
          try rw [e3]
          clear h3 e3
          rw [if_pos (by rfl)]
          intro K hK
          go_simp
          obtain ⟨Ax, cx, hvx, hRx, hcx⟩ := OwnB.form (HT.out.below_ ((Below.refl _ _).drew.trans (hR.mono (by simp)))).one.own
          injection hvx with q1 q2 q3
          subst q1 q3
          refine hK.out _ _ _ (by simp only [Act.put, List.setIfInBounds_toArray, List.set_cons_zero, List.set_cons_succ]) ⟨_, rfl, rfl, parts_new (w := wi) (S := fun k => k < wi.heap.size) 22 [(⟨B1, n1, cB1, L1⟩ : Part)] (fun p hp => ?_) (fun _ h => h) (by simp) (fun k hk => by simp; omega)⟩ ((Below.refl _ _).alloc (Nat.le_refl _) _)
          simp only [List.mem_singleton] at hp
          subst hp
          exact ⟨HN1.out, by rw [← HN1.out]; exact hcx, by assumption, hRx.s (fun _ h => h)⟩
        · refine does_mk [(1, some 79), (4, some 82)] rfl (by kernel_rfl) (fun u wi hR hf => ?_)
          simp only [putPs, Act.put, List.setIfInBounds_toArray, List.set_cons_zero, List.set_cons_succ, List.getElem_toArray, List.getElem_cons_zero, List.getElem_cons_succ]
          obtain ⟨h1, h4, _⟩ := hf
          obtain ⟨A1, c1, e1, hl1, hc1, hr1⟩ := h1
          try rw [e1]
          clear e1
          obtain ⟨A4, e4, hl4, hq4⟩ := h4
          try rw [e4]
          clear e4
          rw [if_pos (by rfl)]
          intro K hK
          go_simp
          refine (shasum_any A4 1 1 [(⟨B1, n1, cB1, L1⟩ : Part)] wi hq4 rfl (by omega) (by simp [bytesOf]; omega)).mono ?_
          rw [show bytesOf [(⟨B1, n1, cB1, L1⟩ : Part)] = L1 by simp [bytesOf]]
          rintro e w5 ⟨v5, rfl, hO5, hb5⟩
          obtain ⟨A5, c5, rfl, hR5, hc5⟩ := hO5.form
          rw [HE1.out] at hc5 ⊢
          exact hK.out _ _ _ (by simp only [Act.put, List.setIfInBounds_toArray, List.set_cons_zero, List.set_cons_succ]) ⟨A5, c5, rfl, HE1.out, hc5, hR5⟩ hb5
        · refine does_mk [(5, some 83)] rfl (by kernel_rfl) (fun u wi hR hf => ?_)
          simp only [putPs, Act.put, List.setIfInBounds_toArray, List.set_cons_zero, List.set_cons_succ, List.getElem_toArray, List.getElem_cons_zero, List.getElem_cons_succ]
          obtain ⟨h5, _⟩ := hf
          obtain ⟨A5, c5, e5, hl5, hc5, hr5⟩ := h5
          try rw [e5]
          clear e5
          rw [if_pos (by rfl)]
          intro K hK
          have hs := hr5.str Go.Proofs.Ytoklpohpfoacpaa.u8 9 Try.underlying9 c5
          rw [hl5] at hs
          go_simp
          exact hK.out _ _ _ (by simp only [Act.put, List.setIfInBounds_toArray, List.set_cons_zero, List.set_cons_succ]) rfl (Grows.refl _)
        · refine does_mk [(2, some 80), (6, some 84)] rfl (by kernel_rfl) (fun u wi hR hf => ?_)
          simp only [putPs, Act.put, List.setIfInBounds_toArray, List.set_cons_zero, List.set_cons_succ, List.getElem_toArray, List.getElem_cons_zero, List.getElem_cons_succ]
          obtain ⟨h2, h6, _⟩ := hf
          have e2 : u 2 = .string (str (sha L1)) := h2
          try rw [e2]
          clear h2 e2
          have e6 : u 6 = .string (str (sha L1)) := h6
          try rw [e6]
          clear h6 e6
          rw [if_pos (by rfl)]
          intro K hK
          go_simp
          exact hK.out _ _ _ (by simp only [Act.put, List.setIfInBounds_toArray, List.set_cons_zero, List.set_cons_succ]) rfl (Grows.refl _)
        · refine does_mk [(5, some 83), (7, some 85)] rfl (by kernel_rfl) (fun u wi hR hf => ?_)
          simp only [putPs, Act.put, List.setIfInBounds_toArray, List.set_cons_zero, List.set_cons_succ, List.getElem_toArray, List.getElem_cons_zero, List.getElem_cons_succ]
          obtain ⟨h5, h7, _⟩ := hf
          obtain ⟨A5, c5, e5, hl5, hc5, hr5⟩ := h5
          try rw [e5]
          clear e5
          have e7 : u 7 = .bool true := h7
          try rw [e7]
          clear h7 e7
          rw [if_pos (by rfl)]
          intro K hK
          go_simp
          exact hK.out _ _ _ (by simp only [Act.put, List.setIfInBounds_toArray, List.set_cons_zero, List.set_cons_succ]) rfl (Grows.refl _)
        · refine does_mk [(8, some 86)] rfl (by kernel_rfl) (fun u wi hR hf => ?_)
          simp only [putPs, Act.put, List.setIfInBounds_toArray, List.set_cons_zero, List.set_cons_succ, List.getElem_toArray, List.getElem_cons_zero, List.getElem_cons_succ]
          obtain ⟨h8, _⟩ := hf
          have e8 : u 8 = .bool true := h8
          try rw [e8]
          clear h8 e8
          rw [if_pos (by rfl)]
          intro K hK
          go_simp
          exact hK.out _ _ _ (by simp only [Act.put, List.setIfInBounds_toArray, List.set_cons_zero, List.set_cons_succ]) rfl (Grows.refl _)
        · refine does_mk [(8, some 86), (9, some 87)] rfl (by kernel_rfl) (fun u wi hR hf => ?_)
          simp only [putPs, Act.put, List.setIfInBounds_toArray, List.set_cons_zero, List.set_cons_succ, List.getElem_toArray, List.getElem_cons_zero, List.getElem_cons_succ]
          obtain ⟨h8, h9, _⟩ := hf
          have e8 : u 8 = .bool true := h8
          try rw [e8]
          clear h8 e8
          have e9 : u 9 = .pointer (some ⟨h, 0, none⟩) := h9
          try rw [e9]
          clear h9 e9
          rw [if_pos (by rfl)]
          intro K hK
          go_simp
          refine (hsum_any h w.heap.size rh L2 _ (HT.out.swap.below_ ((Below.refl _ _).drew.trans (hR.mono (by simp)))).one.hst (by omega)).mono ?_
          rintro e w5 ⟨v5, rfl, hO5, hb5⟩
          obtain ⟨A5, c5, rfl, hR5, hc5⟩ := hO5.form
          rw [HE2.out] at hc5 ⊢
          exact hK.out _ _ _ (by simp only [Act.put, List.setIfInBounds_toArray, List.set_cons_zero, List.set_cons_succ]) ⟨A5, c5, rfl, HE2.out, hc5, hR5⟩ hb5
        · refine does_mk [(8, some 86), (10, some 88)] rfl (by kernel_rfl) (fun u wi hR hf => ?_)
          simp only [putPs, Act.put, List.setIfInBounds_toArray, List.set_cons_zero, List.set_cons_succ, List.getElem_toArray, List.getElem_cons_zero, List.getElem_cons_succ]
          obtain ⟨h8, h10, _⟩ := hf
          have e8 : u 8 = .bool true := h8
          try rw [e8]
          clear h8 e8
          obtain ⟨A10, c10, e10, hl10, hc10, hr10⟩ := h10
          try rw [e10]
          clear e10
          rw [if_pos (by rfl)]
          intro K hK
          have hs := hr10.str Go.Proofs.Ytoklpohpfoacpaa.u8 9 Try.underlying9 c10
          rw [hl10] at hs
          go_simp
          exact hK.out _ _ _ (by simp only [Act.put, List.setIfInBounds_toArray, List.set_cons_zero, List.set_cons_succ]) rfl (Grows.refl _)
        · refine does_mk [(8, some 86)] rfl (by kernel_rfl) (fun u wi hR hf => ?_)
          simp only [putPs, Act.put, List.setIfInBounds_toArray, List.set_cons_zero, List.set_cons_succ, List.getElem_toArray, List.getElem_cons_zero, List.getElem_cons_succ]
          obtain ⟨h8, _⟩ := hf
          have e8 : u 8 = .bool true := h8
          try rw [e8]
          clear h8 e8
          rw [if_pos (by rfl)]
          intro K hK
          go_simp
          exact hK.out _ _ _ (by simp only [Act.put, List.setIfInBounds_toArray, List.set_cons_zero, List.set_cons_succ]) rfl (Grows.refl _)
        · refine does_mk [(8, some 86), (12, some 90)] rfl (by kernel_rfl) (fun u wi hR hf => ?_)
          simp only [putPs, Act.put, List.setIfInBounds_toArray, List.set_cons_zero, List.set_cons_succ, List.getElem_toArray, List.getElem_cons_zero, List.getElem_cons_succ]
          obtain ⟨h8, h12, _⟩ := hf
          have e8 : u 8 = .bool true := h8
          try rw [e8]
          clear h8 e8
          have e12 : u 12 = .slice B2 n2 cB2 := h12
          try rw [e12]
          clear h12 e12
          rw [if_pos (by rfl)]
          intro K hK
          go_simp
          obtain ⟨Ax, cx, hvx, hRx, hcx⟩ := OwnB.form (HT.out.swap.below_ ((Below.refl _ _).drew.trans (hR.mono (by simp)))).one.own
          injection hvx with q1 q2 q3
          subst q1 q3
          refine hK.out _ _ _ (by simp only [Act.put, List.setIfInBounds_toArray, List.set_cons_zero, List.set_cons_succ]) ⟨_, rfl, rfl, parts_new (w := wi) (S := fun k => k < wi.heap.size) 22 [(⟨B2, n2, cB2, L2⟩ : Part)] (fun p hp => ?_) (fun _ h => h) (by simp) (fun k hk => by simp; omega)⟩ ((Below.refl _ _).alloc (Nat.le_refl _) _)
          simp only [List.mem_singleton] at hp
          subst hp
          exact ⟨HN2.out, by rw [← HN2.out]; exact hcx, by assumption, hRx.s (fun _ h => h)⟩
        · refine does_mk [(8, some 86), (10, some 88), (13, some 91)] rfl (by kernel_rfl) (fun u wi hR hf => ?_)
          simp only [putPs, Act.put, List.setIfInBounds_toArray, List.set_cons_zero, List.set_cons_succ, List.getElem_toArray, List.getElem_cons_zero, List.getElem_cons_succ]
          obtain ⟨h8, h10, h13, _⟩ := hf
          have e8 : u 8 = .bool true := h8
          try rw [e8]
          clear h8 e8
          obtain ⟨A10, c10, e10, hl10, hc10, hr10⟩ := h10
          try rw [e10]
          clear e10
          obtain ⟨A13, e13, hl13, hq13⟩ := h13
          try rw [e13]
          clear e13
          rw [if_pos (by rfl)]
          intro K hK
          go_simp
          refine (shasum_any A13 1 1 [(⟨B2, n2, cB2, L2⟩ : Part)] wi hq13 rfl (by omega) (by simp [bytesOf]; omega)).mono ?_
          rw [show bytesOf [(⟨B2, n2, cB2, L2⟩ : Part)] = L2 by simp [bytesOf]]
          rintro e w5 ⟨v5, rfl, hO5, hb5⟩
          obtain ⟨A5, c5, rfl, hR5, hc5⟩ := hO5.form
          rw [HE2.out] at hc5 ⊢
          exact hK.out _ _ _ (by simp only [Act.put, List.setIfInBounds_toArray, List.set_cons_zero, List.set_cons_succ]) ⟨A5, c5, rfl, HE2.out, hc5, hR5⟩ hb5
        · refine does_mk [(8, some 86), (14, some 92)] rfl (by kernel_rfl) (fun u wi hR hf => ?_)
          simp only [putPs, Act.put, List.setIfInBounds_toArray, List.set_cons_zero, List.set_cons_succ, List.getElem_toArray, List.getElem_cons_zero, List.getElem_cons_succ]
          obtain ⟨h8, h14, _⟩ := hf
          have e8 : u 8 = .bool true := h8
          try rw [e8]
          clear h8 e8
          obtain ⟨A14, c14, e14, hl14, hc14, hr14⟩ := h14
          try rw [e14]
          clear e14
          rw [if_pos (by rfl)]
          intro K hK
          have hs := hr14.str Go.Proofs.Ytoklpohpfoacpaa.u8 9 Try.underlying9 c14
          rw [hl14] at hs
          go_simp
          exact hK.out _ _ _ (by simp only [Act.put, List.setIfInBounds_toArray, List.set_cons_zero, List.set_cons_succ]) rfl (Grows.refl _)
        · refine does_mk [(8, some 86), (11, some 89), (15, some 93)] rfl (by kernel_rfl) (fun u wi hR hf => ?_)
          simp only [putPs, Act.put, List.setIfInBounds_toArray, List.set_cons_zero, List.set_cons_succ, List.getElem_toArray, List.getElem_cons_zero, List.getElem_cons_succ]
          obtain ⟨h8, h11, h15, _⟩ := hf
          have e8 : u 8 = .bool true := h8
          try rw [e8]
          clear h8 e8
          have e11 : u 11 = .string (str (sha L2)) := h11
          try rw [e11]
          clear h11 e11
          have e15 : u 15 = .string (str (sha L2)) := h15
          try rw [e15]
          clear h15 e15
          rw [if_pos (by rfl)]
          intro K hK
          go_simp
          exact hK.out _ _ _ (by simp only [Act.put, List.setIfInBounds_toArray, List.set_cons_zero, List.set_cons_succ]) rfl (Grows.refl _)
        · refine does_mk [(8, some 86), (16, some 94)] rfl (by kernel_rfl) (fun u wi hR hf => ?_)
          simp only [putPs, Act.put, List.setIfInBounds_toArray, List.set_cons_zero, List.set_cons_succ, List.getElem_toArray, List.getElem_cons_zero, List.getElem_cons_succ]
          obtain ⟨h8, h16, _⟩ := hf
          have e8 : u 8 = .bool true := h8
          try rw [e8]
          clear h8 e8
          have e16 : u 16 = .bool true := h16
          try rw [e16]
          clear h16 e16
          rw [if_pos (by rfl)]
          intro K hK
          go_simp
          exact hK.out _ _ _ (by simp only [Act.put, List.setIfInBounds_toArray, List.set_cons_zero, List.set_cons_succ]) rfl (Grows.refl _)
        · refine does_mk [(14, some 92), (17, some 95)] rfl (by kernel_rfl) (fun u wi hR hf => ?_)
          simp only [putPs, Act.put, List.setIfInBounds_toArray, List.set_cons_zero, List.set_cons_succ, List.getElem_toArray, List.getElem_cons_zero, List.getElem_cons_succ]
          obtain ⟨h14, h17, _⟩ := hf
          obtain ⟨A14, c14, e14, hl14, hc14, hr14⟩ := h14
          try rw [e14]
          clear e14
          have e17 : u 17 = .bool true := h17
          try rw [e17]
          clear h17 e17
          rw [if_pos (by rfl)]
          intro K hK
          go_simp
          exact hK.out _ _ _ (by simp only [Act.put, List.setIfInBounds_toArray, List.set_cons_zero, List.set_cons_succ]) rfl (Grows.refl _)
        · refine does_mk [(18, some 96)] rfl (by kernel_rfl) (fun u wi hR hf => ?_)
          simp only [putPs, Act.put, List.setIfInBounds_toArray, List.set_cons_zero, List.set_cons_succ, List.getElem_toArray, List.getElem_cons_zero, List.getElem_cons_succ]
          obtain ⟨h18, _⟩ := hf
          have e18 : u 18 = .bool true := h18
          try rw [e18]
          clear h18 e18
          rw [if_pos (by rfl)]
          intro K hK
          go_simp
          exact hK.out _ _ _ (by simp only [Act.put, List.setIfInBounds_toArray, List.set_cons_zero, List.set_cons_succ]) rfl (Grows.refl _)
        · refine does_mk [(18, some 96), (19, some 97)] rfl (by kernel_rfl) (fun u wi hR hf => ?_)
          simp only [putPs, Act.put, List.setIfInBounds_toArray, List.set_cons_zero, List.set_cons_succ, List.getElem_toArray, List.getElem_cons_zero, List.getElem_cons_succ]
          obtain ⟨h18, h19, _⟩ := hf
          have e18 : u 18 = .bool true := h18
          try rw [e18]
          clear h18 e18
          have e19 : u 19 = .pointer (some ⟨g, 0, none⟩) := h19
          try rw [e19]
          clear h19 e19
          rw [if_pos (by rfl)]
          intro K hK
          go_simp
          refine (count_any g w.heap.size rg L1 _ L1.length wi (HT.out.below_ ((Below.refl _ _).drew.trans (hR.mono (by simp)))).one.hst).mono ?_
          rintro e w8 ⟨rfl, rfl⟩
          rw [HN1.out]
          exact hK.out _ _ _ (by simp only [Act.put, List.setIfInBounds_toArray, List.set_cons_zero, List.set_cons_succ]) rfl (Grows.refl _)
        · refine does_mk [(18, some 96)] rfl (by kernel_rfl) (fun u wi hR hf => ?_)
          simp only [putPs, Act.put, List.setIfInBounds_toArray, List.set_cons_zero, List.set_cons_succ, List.getElem_toArray, List.getElem_cons_zero, List.getElem_cons_succ]
          obtain ⟨h18, _⟩ := hf
          have e18 : u 18 = .bool true := h18
          try rw [e18]
          clear h18 e18
          rw [if_pos (by rfl)]
          intro K hK
          go_simp
          exact hK.out _ _ _ (by simp only [Act.put, List.setIfInBounds_toArray, List.set_cons_zero, List.set_cons_succ]) rfl (Grows.refl _)
        · refine does_mk [(18, some 96), (21, some 99)] rfl (by kernel_rfl) (fun u wi hR hf => ?_)
          simp only [putPs, Act.put, List.setIfInBounds_toArray, List.set_cons_zero, List.set_cons_succ, List.getElem_toArray, List.getElem_cons_zero, List.getElem_cons_succ]
          obtain ⟨h18, h21, _⟩ := hf
          have e18 : u 18 = .bool true := h18
          try rw [e18]
          clear h18 e18
          have e21 : u 21 = .slice B1 n1 cB1 := h21
          try rw [e21]
          clear h21 e21
          rw [if_pos (by rfl)]
          intro K hK
          go_simp
          exact hK.out _ _ _ (by simp only [Act.put, List.setIfInBounds_toArray, List.set_cons_zero, List.set_cons_succ]) rfl (Grows.refl _)
        · refine does_mk [(18, some 96), (20, some 98), (22, some 100)] rfl (by kernel_rfl) (fun u wi hR hf => ?_)
          simp only [putPs, Act.put, List.setIfInBounds_toArray, List.set_cons_zero, List.set_cons_succ, List.getElem_toArray, List.getElem_cons_zero, List.getElem_cons_succ]
          obtain ⟨h18, h20, h22, _⟩ := hf
          have e18 : u 18 = .bool true := h18
          try rw [e18]
          clear h18 e18
          have e20 : u 20 = .int .i64 (n1 : Int) := h20
          try rw [e20]
          clear h20 e20
          have e22 : u 22 = .int .i64 (n1 : Int) := h22
          try rw [e22]
          clear h22 e22
          rw [if_pos (by rfl)]
          intro K hK
          go_simp
          exact hK.out _ _ _ (by simp only [Act.put, List.setIfInBounds_toArray, List.set_cons_zero, List.set_cons_succ]) rfl (Grows.refl _)
        · refine does_mk [(18, some 96), (23, some 101)] rfl (by kernel_rfl) (fun u wi hR hf => ?_)
          simp only [putPs, Act.put, List.setIfInBounds_toArray, List.set_cons_zero, List.set_cons_succ, List.getElem_toArray, List.getElem_cons_zero, List.getElem_cons_succ]
          obtain ⟨h18, h23, _⟩ := hf
          have e18 : u 18 = .bool true := h18
          try rw [e18]
          clear h18 e18
          have e23 : u 23 = .bool true := h23
          try rw [e23]
          clear h23 e23
          rw [if_pos (by rfl)]
          intro K hK
          go_simp
          exact hK.out _ _ _ (by simp only [Act.put, List.setIfInBounds_toArray, List.set_cons_zero, List.set_cons_succ]) rfl (Grows.refl _)
        · refine does_mk [(20, some 98), (24, some 102)] rfl (by kernel_rfl) (fun u wi hR hf => ?_)
          simp only [putPs, Act.put, List.setIfInBounds_toArray, List.set_cons_zero, List.set_cons_succ, List.getElem_toArray, List.getElem_cons_zero, List.getElem_cons_succ]
          obtain ⟨h20, h24, _⟩ := hf
          have e20 : u 20 = .int .i64 (n1 : Int) := h20
          try rw [e20]
          clear h20 e20
          have e24 : u 24 = .bool true := h24
          try rw [e24]
          clear h24 e24
          rw [if_pos (by rfl)]
          intro K hK
          go_simp
          exact hK.out _ _ _ (by simp only [Act.put, List.setIfInBounds_toArray, List.set_cons_zero, List.set_cons_succ]) rfl (Grows.refl _)
        · refine does_mk [(25, some 103)] rfl (by kernel_rfl) (fun u wi hR hf => ?_)
          simp only [putPs, Act.put, List.setIfInBounds_toArray, List.set_cons_zero, List.set_cons_succ, List.getElem_toArray, List.getElem_cons_zero, List.getElem_cons_succ]
          obtain ⟨h25, _⟩ := hf
          have e25 : u 25 = .bool true := h25
          try rw [e25]
          clear h25 e25
          rw [if_pos (by rfl)]
          intro K hK
          go_simp
          exact hK.out _ _ _ (by simp only [Act.put, List.setIfInBounds_toArray, List.set_cons_zero, List.set_cons_succ]) rfl (Grows.refl _)
        · refine does_mk [(25, some 103), (26, some 104)] rfl (by kernel_rfl) (fun u wi hR hf => ?_)
          simp only [putPs, Act.put, List.setIfInBounds_toArray, List.set_cons_zero, List.set_cons_succ, List.getElem_toArray, List.getElem_cons_zero, List.getElem_cons_succ]
          obtain ⟨h25, h26, _⟩ := hf
          have e25 : u 25 = .bool true := h25
          try rw [e25]
          clear h25 e25
          have e26 : u 26 = .pointer (some ⟨h, 0, none⟩) := h26
          try rw [e26]
          clear h26 e26
          rw [if_pos (by rfl)]
          intro K hK
          go_simp
          refine (count_any h w.heap.size rh L2 _ L2.length wi (HT.out.swap.below_ ((Below.refl _ _).drew.trans (hR.mono (by simp)))).one.hst).mono ?_
          rintro e w8 ⟨rfl, rfl⟩
          rw [HN2.out]
          exact hK.out _ _ _ (by simp only [Act.put, List.setIfInBounds_toArray, List.set_cons_zero, List.set_cons_succ]) rfl (Grows.refl _)
        · refine does_mk [(25, some 103)] rfl (by kernel_rfl) (fun u wi hR hf => ?_)
          simp only [putPs, Act.put, List.setIfInBounds_toArray, List.set_cons_zero, List.set_cons_succ, List.getElem_toArray, List.getElem_cons_zero, List.getElem_cons_succ]
          obtain ⟨h25, _⟩ := hf
          have e25 : u 25 = .bool true := h25
          try rw [e25]
          clear h25 e25
          rw [if_pos (by rfl)]
          intro K hK
          go_simp
          exact hK.out _ _ _ (by simp only [Act.put, List.setIfInBounds_toArray, List.set_cons_zero, List.set_cons_succ]) rfl (Grows.refl _)
        · refine does_mk [(25, some 103), (28, some 106)] rfl (by kernel_rfl) (fun u wi hR hf => ?_)
          simp only [putPs, Act.put, List.setIfInBounds_toArray, List.set_cons_zero, List.set_cons_succ, List.getElem_toArray, List.getElem_cons_zero, List.getElem_cons_succ]
          obtain ⟨h25, h28, _⟩ := hf
          have e25 : u 25 = .bool true := h25
          try rw [e25]
          clear h25 e25
          have e28 : u 28 = .slice B2 n2 cB2 := h28
          try rw [e28]
          clear h28 e28
          rw [if_pos (by rfl)]
          intro K hK
          go_simp
          exact hK.out _ _ _ (by simp only [Act.put, List.setIfInBounds_toArray, List.set_cons_zero, List.set_cons_succ]) rfl (Grows.refl _)
        · refine does_mk [(25, some 103), (27, some 105), (29, some 107)] rfl (by kernel_rfl) (fun u wi hR hf => ?_)
          simp only [putPs, Act.put, List.setIfInBounds_toArray, List.set_cons_zero, List.set_cons_succ, List.getElem_toArray, List.getElem_cons_zero, List.getElem_cons_succ]
          obtain ⟨h25, h27, h29, _⟩ := hf
          have e25 : u 25 = .bool true := h25
          try rw [e25]
          clear h25 e25
          have e27 : u 27 = .int .i64 (n2 : Int) := h27
          try rw [e27]
          clear h27 e27
          have e29 : u 29 = .int .i64 (n2 : Int) := h29
          try rw [e29]
          clear h29 e29
          rw [if_pos (by rfl)]
          intro K hK
          go_simp
          exact hK.out _ _ _ (by simp only [Act.put, List.setIfInBounds_toArray, List.set_cons_zero, List.set_cons_succ]) rfl (Grows.refl _)
        · refine does_mk [(25, some 103), (30, some 108)] rfl (by kernel_rfl) (fun u wi hR hf => ?_)
          simp only [putPs, Act.put, List.setIfInBounds_toArray, List.set_cons_zero, List.set_cons_succ, List.getElem_toArray, List.getElem_cons_zero, List.getElem_cons_succ]
          obtain ⟨h25, h30, _⟩ := hf
          have e25 : u 25 = .bool true := h25
          try rw [e25]
          clear h25 e25
          have e30 : u 30 = .bool true := h30
          try rw [e30]
          clear h30 e30
          rw [if_pos (by rfl)]
          intro K hK
          go_simp
          exact hK.out _ _ _ (by simp only [Act.put, List.setIfInBounds_toArray, List.set_cons_zero, List.set_cons_succ]) rfl (Grows.refl _)
        · refine does_mk [(0, some 78), (1, some 79), (2, some 80), (3, some 81), (4, some 82), (5, some 83), (6, some 84), (7, some 85), (8, some 86), (9, some 87), (10, some 88), (11, some 89), (12, some 90), (13, some 91), (14, some 92), (15, some 93), (16, some 94), (17, some 95), (18, some 96), (19, some 97), (20, some 98), (21, some 99), (22, some 100), (23, some 101), (24, some 102), (25, some 103), (26, some 104), (27, some 105), (28, some 106), (29, some 107), (30, some 108), (31, some 109)] rfl (by kernel_rfl) (fun u wi hR hf => ?_)
          simp only [putPs, Act.put, List.setIfInBounds_toArray, List.set_cons_zero, List.set_cons_succ, List.getElem_toArray, List.getElem_cons_zero, List.getElem_cons_succ]
          obtain ⟨h0, h1, h2, h3, h4, h5, h6, h7, h8, h9, h10, h11, h12, h13, h14, h15, h16, h17, h18, h19, h20, h21, h22, h23, h24, h25, h26, h27, h28, h29, h30, h31, _⟩ := hf
          have e0 : u 0 = .pointer (some ⟨g, 0, none⟩) := h0
          try rw [e0]
          clear h0 e0
          obtain ⟨A1, c1, e1, hl1, hc1, hr1⟩ := h1
          try rw [e1]
          clear e1
          have e2 : u 2 = .string (str (sha L1)) := h2
          try rw [e2]
          clear h2 e2
          have e3 : u 3 = .slice B1 n1 cB1 := h3
          try rw [e3]
          clear h3 e3
          obtain ⟨A4, e4, hl4, hq4⟩ := h4
          try rw [e4]
          clear e4
          obtain ⟨A5, c5, e5, hl5, hc5, hr5⟩ := h5
          try rw [e5]
          clear e5
          have e6 : u 6 = .string (str (sha L1)) := h6
          try rw [e6]
          clear h6 e6
          have e7 : u 7 = .bool true := h7
          try rw [e7]
          clear h7 e7
          have e8 : u 8 = .bool true := h8
          try rw [e8]
          clear h8 e8
          have e9 : u 9 = .pointer (some ⟨h, 0, none⟩) := h9
          try rw [e9]
          clear h9 e9
          obtain ⟨A10, c10, e10, hl10, hc10, hr10⟩ := h10
          try rw [e10]
          clear e10
          have e11 : u 11 = .string (str (sha L2)) := h11
          try rw [e11]
          clear h11 e11
          have e12 : u 12 = .slice B2 n2 cB2 := h12
          try rw [e12]
          clear h12 e12
          obtain ⟨A13, e13, hl13, hq13⟩ := h13
          try rw [e13]
          clear e13
          obtain ⟨A14, c14, e14, hl14, hc14, hr14⟩ := h14
          try rw [e14]
          clear e14
          have e15 : u 15 = .string (str (sha L2)) := h15
          try rw [e15]
          clear h15 e15
          have e16 : u 16 = .bool true := h16
          try rw [e16]
          clear h16 e16
          have e17 : u 17 = .bool true := h17
          try rw [e17]
          clear h17 e17
          have e18 : u 18 = .bool true := h18
          try rw [e18]
          clear h18 e18
          have e19 : u 19 = .pointer (some ⟨g, 0, none⟩) := h19
          try rw [e19]
          clear h19 e19
          have e20 : u 20 = .int .i64 (n1 : Int) := h20
          try rw [e20]
          clear h20 e20
          have e21 : u 21 = .slice B1 n1 cB1 := h21
          try rw [e21]
          clear h21 e21
          have e22 : u 22 = .int .i64 (n1 : Int) := h22
          try rw [e22]
          clear h22 e22
          have e23 : u 23 = .bool true := h23
          try rw [e23]
          clear h23 e23
          have e24 : u 24 = .bool true := h24
          try rw [e24]
          clear h24 e24
          have e25 : u 25 = .bool true := h25
          try rw [e25]
          clear h25 e25
          have e26 : u 26 = .pointer (some ⟨h, 0, none⟩) := h26
          try rw [e26]
          clear h26 e26
          have e27 : u 27 = .int .i64 (n2 : Int) := h27
          try rw [e27]
          clear h27 e27
          have e28 : u 28 = .slice B2 n2 cB2 := h28
          try rw [e28]
          clear h28 e28
          have e29 : u 29 = .int .i64 (n2 : Int) := h29
          try rw [e29]
          clear h29 e29
          have e30 : u 30 = .bool true := h30
          try rw [e30]
          clear h30 e30
          have e31 : u 31 = .bool true := h31
          try rw [e31]
          clear h31 e31
          rw [if_pos (by rfl)]
          intro K hK
          go_simp
          exact hK.out _ _ _ (by simp only [Act.put, List.setIfInBounds_toArray, List.set_cons_zero, List.set_cons_succ]) rfl (Grows.refl _)
      · intro u wi hR hf
        simp only [putPs, Act.put, List.setIfInBounds_toArray, List.set_cons_zero, List.set_cons_succ, List.getElem_toArray, List.getElem_cons_zero, List.getElem_cons_succ]
        obtain ⟨h0, h1, h2, h3, h4, h5, h6, h7, h8, h9, h10, h11, h12, h13, h14, h15, h16, h17, h18, h19, h20, h21, h22, h23, h24, h25, h26, h27, h28, h29, h30, h31, h32, _⟩ := hf
        have e0 : u 0 = .pointer (some ⟨g, 0, none⟩) := h0
        try rw [e0]
        clear h0 e0
        obtain ⟨A1, c1, e1, hl1, hc1, hr1⟩ := h1
        try rw [e1]
        clear e1
        have e2 : u 2 = .string (str (sha L1)) := h2
        try rw [e2]
        clear h2 e2
        have e3 : u 3 = .slice B1 n1 cB1 := h3
        try rw [e3]
        clear h3 e3
        obtain ⟨A4, e4, hl4, hq4⟩ := h4
        try rw [e4]
        clear e4
        obtain ⟨A5, c5, e5, hl5, hc5, hr5⟩ := h5
        try rw [e5]
        clear e5
        have e6 : u 6 = .string (str (sha L1)) := h6
        try rw [e6]
        clear h6 e6
        have e7 : u 7 = .bool true := h7
        try rw [e7]
        clear h7 e7
        have e8 : u 8 = .bool true := h8
        try rw [e8]
        clear h8 e8
        have e9 : u 9 = .pointer (some ⟨h, 0, none⟩) := h9
        try rw [e9]
        clear h9 e9
        obtain ⟨A10, c10, e10, hl10, hc10, hr10⟩ := h10
        try rw [e10]
        clear e10
        have e11 : u 11 = .string (str (sha L2)) := h11
        try rw [e11]
        clear h11 e11
        have e12 : u 12 = .slice B2 n2 cB2 := h12
        try rw [e12]
        clear h12 e12
        obtain ⟨A13, e13, hl13, hq13⟩ := h13
        try rw [e13]
        clear e13
        obtain ⟨A14, c14, e14, hl14, hc14, hr14⟩ := h14
        try rw [e14]
        clear e14
        have e15 : u 15 = .string (str (sha L2)) := h15
        try rw [e15]
        clear h15 e15
        have e16 : u 16 = .bool true := h16
        try rw [e16]
        clear h16 e16
        have e17 : u 17 = .bool true := h17
        try rw [e17]
        clear h17 e17
        have e18 : u 18 = .bool true := h18
        try rw [e18]
        clear h18 e18
        have e19 : u 19 = .pointer (some ⟨g, 0, none⟩) := h19
        try rw [e19]
        clear h19 e19
        have e20 : u 20 = .int .i64 (n1 : Int) := h20
        try rw [e20]
        clear h20 e20
        have e21 : u 21 = .slice B1 n1 cB1 := h21
        try rw [e21]
        clear h21 e21
        have e22 : u 22 = .int .i64 (n1 : Int) := h22
        try rw [e22]
        clear h22 e22
        have e23 : u 23 = .bool true := h23
        try rw [e23]
        clear h23 e23
        have e24 : u 24 = .bool true := h24
        try rw [e24]
        clear h24 e24
        have e25 : u 25 = .bool true := h25
        try rw [e25]
        clear h25 e25
        have e26 : u 26 = .pointer (some ⟨h, 0, none⟩) := h26
        try rw [e26]
        clear h26 e26
        have e27 : u 27 = .int .i64 (n2 : Int) := h27
        try rw [e27]
        clear h27 e27
        have e28 : u 28 = .slice B2 n2 cB2 := h28
        try rw [e28]
        clear h28 e28
        have e29 : u 29 = .int .i64 (n2 : Int) := h29
        try rw [e29]
        clear h29 e29
        have e30 : u 30 = .bool true := h30
        try rw [e30]
        clear h30 e30
        have e31 : u 31 = .bool true := h31
        try rw [e31]
        clear h31 e31
        have e32 : u 32 = .bool true := h32
        try rw [e32]
        clear h32 e32
        go_wp2
        go_ret
        exact ⟨rfl, HB.out.trans (((Below.refl _ _).drew.trans (hR.mono (by simp))).mono hzr)⟩

set_option maxRecDepth 100000 in
theorem lifted (os : Os) (started : os.Started) (H : Type) (enc : TypeId × Value → H) :
    ReturnsInHanded {} Try.checked os 7 .any (Rows.shaPairsSpec.pre6 enc Try.prog Try.f7 Rows.shaPairsRow.domain false) (Rows.shaPairsSpec.post enc Try.prog Try.f7 false true false false) := by
  refine returnsInHanded_of_change_sized (C := Try.checked) own started (by kernel_rfl) Try.func7
    (ChangeSpec.witness6 (enc := enc) (C := Try.checked) false ⟨#[], #[.slice none 0 0, .slice none 0 0], []⟩ 8 (by kernel_rfl) (by kernel_rfl) (by kernel_rfl) (by kernel_rfl)) ?_
  intro W base args ds gs before hval0 hW hcnd hsz0 _
  have hval : ∀ (j : Nat) t v, Try.f7.params[j]? = some t → args[j]? = some v → Value.okWide Try.prog W .any base t v := hval0
  have hsz : (DataW.weightsEach Try.prog (Try.f7.params.toList ++ Rows.shaPairsSpec.plain.varTypes Try.prog) (ds ++ gs)).all (· ≤ reachBytes) = true := hsz0
  clear hsz0
  have hW' := hW
  obtain ⟨p, q, hA0, hV, rfl, hfz, hnd⟩ := hW
  have hA : DataW.TrodAll enc Try.prog W 0 (fun _ => true) true Try.f7.params.toList args.toList ds p := hA0
  rw [Try.params7] at hA hval hsz
  obtain ⟨v0, vs0, d0, ds0, p0, q0, hargs, rfl, rfl, h0, r0⟩ := trodAll_cons hA
  obtain ⟨v1, vs1, d1, ds1, p1, q1, rfl, rfl, rfl, h1, r1⟩ := trodAll_cons r0
  obtain ⟨rfl, rfl, rfl⟩ := trodAll_nil r1
  obtain rfl : args = #[v0, v1] := by cases args; simp_all
  obtain ⟨rfl, rfl⟩ := trodVars_none hV
  obtain ⟨a0, len0, cap0, rfl⟩ := okWide_slice Try.underlying28 (hval 0 28 v0 rfl rfl)
  have k0 := h0
  have lt0 : ∀ x ∈ p0, x.block < W.heap.size := by obtain ⟨m, hm⟩ := k0; exact DataW.trod_lt m _ _ _ hm
  obtain ⟨ps0, w0⟩ := open_rows Try.underlying28 Try.underlying22 Try.underlying5 (by kernel_rfl) (by kernel_rfl) h0
  obtain ⟨a1, len1, cap1, rfl⟩ := okWide_slice Try.underlying28 (hval 1 28 v1 rfl rfl)
  have k1 := h1
  have lt1 : ∀ x ∈ p1, x.block < W.heap.size := by obtain ⟨m, hm⟩ := k1; exact DataW.trod_lt m _ _ _ hm
  obtain ⟨ps1, w1⟩ := open_rows Try.underlying28 Try.underlying22 Try.underlying5 (by kernel_rfl) (by kernel_rfl) h1
  clear hsz
  clear hA0 hval0
  simp only [List.append_nil] at hW'
  refine (walk a0 len0 cap0 ps0 a1 len1 cap1 ps1 W w0 w1).mono fun e W' ⟨he, bel⟩ => ?_
  subst he
  exact ⟨_, rfl, _, _, _, [], _, [], hW', trodAll_mk1 (shut_bool Try.underlying4 _), (trodAll_cons_mk (Below.trod laidOut (by kernel_rfl) (of_decide_eq_true (by kernel_rfl)) k0 bel lt0) (trodAll_cons_mk (Below.trod laidOut (by kernel_rfl) (of_decide_eq_true (by kernel_rfl)) k1 bel lt1) trodAll_mk0)), rfl, bel.frame _, fun h => by cases h⟩

theorem over : Rows.shaPairsRow.holds Try.pinned (OpenSpec.ofChange Rows.shaPairsSpec) :=
  OpenClaim.holds_of_wide 7 Try.f7 rfl rfl rfl rfl rfl rfl rfl ⟨rfl, rfl, rfl, rfl, rfl⟩ rfl rfl rfl rfl rfl (by kernel_rfl) Try.func7 (by kernel_rfl)
    (of_decide_eq_true (by kernel_rfl)) (by unfold Func.isWrapper; first | (rw [if_pos (by decide +kernel)]; kernel_rfl) | (rw [if_neg (by decide +kernel)]; exact ⟨rfl, rfl⟩))
    (fun os started H enc _ => lifted os started H enc)

theorem proved : Rows.ShaPairsSaid := over
end Go.Proofs.Ytoklpohpfoacpaa.shaPairs
