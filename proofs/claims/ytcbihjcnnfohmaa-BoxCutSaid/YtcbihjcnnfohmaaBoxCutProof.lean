/- The law 'BoxCut' answers true for every input, and its arguments read afterwards as before; no condition. The frame follows the kit's skeleton; the walk is ours. -/
import Derived.Test.YtcbihjcnnfohmaaRows
import Derived.Test.YtcbihjcnnfohmaaArgs
import Derived.Test.YtcbihjcnnfohmaaBoxLaw
import Derived.WalkKit
import Derived.ProofKit
import Derived.OpenShut
import Derived.ShutString
import Derived.ChangeOld
import Derived.Below
import Derived.SizedLaws
namespace Go.Proofs.Ytcbihjcnnfohmaa.boxCut
open Go.ChangeShapes Go.WideShapes Go.ChangeAt Go.RowKit
set_option linter.unusedVariables false

theorem own : ownKnob Try.prog.godebug = none := by kernel_rfl
theorem laidOut : laidOutB Try.prog = true := by kernel_rfl

open Aes Str Mac Box
set_option linter.unusedSimpArgs false

set_option maxRecDepth 100000 in
set_option maxHeartbeats 4000000 in
theorem walk (a0 : Option Addr) (len0 cap0 : Nat) (l0 : List UInt8) (a1 : Option Addr) (len1 cap1 : Nat) (l1 : List UInt8) (a2 : Option Addr) (len2 cap2 : Nat) (l2 : List UInt8) (a3 : Option Addr) (len3 cap3 : Nat) (l3 : List UInt8) (w : World) (w0 : ArgB w a0 len0 cap0 l0) (w1 : ArgB w a1 len1 cap1 l1) (w2 : ArgB w a2 len2 cap2 l2) (w3 : ArgB w a3 len3 cap3 l3) :
    Calls Try.prog 14 #[.slice a0 len0 cap0, .slice a1 len1 cap1, .slice a2 len2 cap2, .slice a3 len3 cap3] w fun e w' => e = .returned (.bool true) ∧ Below w.heap.size w w' := by
  obtain ⟨hl0, hf0, hm0, hr0⟩ := w0
  have HL0 := Lib.hid hl0
  have HR0 := Lib.hid hr0
  clear hl0 hr0
  obtain ⟨hl1, hf1, hm1, hr1⟩ := w1
  have HL1 := Lib.hid hl1
  have HR1 := Lib.hid hr1
  clear hl1 hr1
  obtain ⟨hl2, hf2, hm2, hr2⟩ := w2
  have HL2 := Lib.hid hl2
  have HR2 := Lib.hid hr2
  clear hl2 hr2
  obtain ⟨hl3, hf3, hm3, hr3⟩ := w3
  have HL3 := Lib.hid hl3
  have HR3 := Lib.hid hr3
  clear hl3 hr3
  by_cases hfit : len0 ≤ 1024 ∧ len1 ≤ 1024 ∧ len2 ≤ 1024 ∧ len3 ≤ 1024
  · have HFIT := Lib.hid hfit
    obtain ⟨F0, F1, F2, F3⟩ := hfit
    by_cases hk : KeyOk l0
    · have HK := Lib.hid hk
      clear hk
      go_enter Try.func14, Try.ntmps14
      go_wp2_with fail
      refine (Box.small_any _).mono ?_
      rintro e w1 ⟨rfl, hb1⟩
      have hbW := hb1.alloc hb1.size (.cells #[.slice a0 len0 cap0, .slice a1 len1 cap1, .slice a2 len2 cap2, .slice a3 len3 cap3] 22)
      have hcl : ∀ j (hj : j < ([(⟨a0, len0, cap0, l0⟩ : Part), ⟨a1, len1, cap1, l1⟩, ⟨a2, len2, cap2, l2⟩, ⟨a3, len3, cap3, l3⟩] : List Part).length), (w1.alloc (.cells #[.slice a0 len0 cap0, .slice a1 len1 cap1, .slice a2 len2 cap2, .slice a3 len3 cap3] 22)).cell? ⟨w1.heap.size, j, none⟩ = some ([(⟨a0, len0, cap0, l0⟩ : Part), ⟨a1, len1, cap1, l1⟩, ⟨a2, len2, cap2, l2⟩, ⟨a3, len3, cap3, l3⟩] : List Part)[j].val := lits_cell 22 [(⟨a0, len0, cap0, l0⟩ : Part), ⟨a1, len1, cap1, l1⟩, ⟨a2, len2, cap2, l2⟩, ⟨a3, len3, cap3, l3⟩]
      have HCL := Lib.hid hcl
      clear hcl
      go_wp2_with fail
      refine (fits_any w1.heap.size 4 4 [(⟨a0, len0, cap0, l0⟩ : Part), ⟨a1, len1, cap1, l1⟩, ⟨a2, len2, cap2, l2⟩, ⟨a3, len3, cap3, l3⟩] _ rfl (by omega) HCL.out true (decide_eq_true (by simp only [List.mem_cons, List.not_mem_nil, or_false, forall_eq_or_imp, forall_eq]; exact HFIT.out)).symm).mono ?_
      rintro e w2 ⟨rfl, rfl⟩
      clear HCL
      generalize w1.alloc (.cells #[.slice a0 len0 cap0, .slice a1 len1 cap1, .slice a2 len2 cap2, .slice a3 len3 cap3] 22) = W1 at hbW ⊢
      have HB1 := Lib.hid hbW
      clear hbW hb1
      go_wp2_with fail
      by_cases hL : len3 < 24
      · have d24 : decide ((24 : Int) ≤ (len3 : Int)) = false := decide_eq_false (by omega)
        refine (open_short a0 len0 cap0 l0 a1 len1 cap1 a2 len2 cap2 a3 len3 cap3 W1 HL0.out (rd_now HR0.out HB1.out) HK.out hL).mono ?_
        rintro e w2 ⟨rfl, hb2⟩
        have HB2 := Lib.hid (HB1.out.trans (hb2.mono HB1.out.size))
        clear hb2 hL
        go_wp2_with fail
        go_ret
        exact ⟨rfl, HB2.out⟩
      · have d24 : decide ((24 : Int) ≤ (len3 : Int)) = true := decide_eq_true (by omega)
        by_cases hop : Opens l1 l2 l3
        · obtain ⟨k, hk⟩ : ∃ k, len3 = 24 + k := ⟨len3 - 24, by omega⟩
          have HSO := Lib.hid (seal_opens (enc := l0) hop (by rw [HL3.out]; omega))
          have HN63 := Lib.hid (show num ((bodyL l3).take 8) < 9223372036854775808 by have := hop.2; omega)
          have hQl : (xorS l0 (num ((bodyL l3).take 8)) 0 ((bodyL l3).drop 8)).length = k := by rw [xorS_length]; exact body8_len (by rw [HL3.out]; exact hk)
          refine (open_yes a0 len0 cap0 l0 a1 len1 cap1 l1 a2 len2 cap2 l2 a3 len3 cap3 l3 W1 HL0.out (rd_now HR0.out HB1.out) HK.out HL1.out (by omega) (rd_now HR1.out HB1.out) HL2.out (by omega) hf2 (by omega) (rd_now HR2.out HB1.out) HL3.out (by omega) (by omega) hf3 (by omega) (rd_now HR3.out HB1.out) hop).mono ?_
          rintro e w2 ⟨v2, rfl, hO2, hb2⟩
          generalize num ((bodyL l3).take 8) = N at *
          generalize xorS l0 N 0 ((bodyL l3).drop 8) = Q at *
          obtain ⟨Aq, cq, hv2, _, hcq⟩ := hO2.form
          rw [hQl] at hv2 hcq
          subst hv2
          have HQL := Lib.hid hQl
          have HOQ := Lib.hid hO2
          have hk16 : k ≤ 65536 := by omega
          have HKB := Lib.hid hk
          have HB2 := Lib.hid (HB1.out.trans (hb2.mono HB1.out.size))
          clear hb2 hO2 hQl hop hL hk
          have hsz := sizeI_nat hk16
          have d0 : decide ((0 : Int) ≤ (N : Int)) = true := decide_eq_true (by omega)
          have hki : (len3 : Int) = 24 + (k : Int) := by have := HKB.out; omega
          go_wp2_with (go_at_call 37
                       refine (size_any _ (by omega) (by omega) _).mono ?_
                       rintro e w' ⟨rfl, rfl⟩
                       rw [hsz])
          go_ret
          exact ⟨rfl, HB2.out⟩
        · by_cases htag : tagL l1 l2 (bodyL l3) = endL l3
          · refine (open_big a0 len0 cap0 l0 a1 len1 cap1 l1 a2 len2 cap2 l2 a3 len3 cap3 l3 W1 HL0.out (rd_now HR0.out HB1.out) HK.out HL1.out (by omega) (rd_now HR1.out HB1.out) HL2.out (by omega) hf2 (by omega) (rd_now HR2.out HB1.out) HL3.out (by omega) (by omega) hf3 (by omega) (rd_now HR3.out HB1.out) htag (not_opens hop htag)).mono ?_
            rintro e w2 ⟨rfl, hb2⟩
            have HB2 := Lib.hid (HB1.out.trans (hb2.mono HB1.out.size))
            clear hb2 hop htag hL
            go_wp2_with fail
            go_ret
            exact ⟨rfl, HB2.out⟩
          · refine (open_tag a0 len0 cap0 l0 a1 len1 cap1 l1 a2 len2 cap2 l2 a3 len3 cap3 l3 W1 HL0.out (rd_now HR0.out HB1.out) HK.out HL1.out (by omega) (rd_now HR1.out HB1.out) HL2.out (by omega) hf2 (by omega) (rd_now HR2.out HB1.out) HL3.out (by omega) (by omega) hf3 (by omega) (rd_now HR3.out HB1.out) htag).mono ?_
            rintro e w2 ⟨rfl, hb2⟩
            have HB2 := Lib.hid (HB1.out.trans (hb2.mono HB1.out.size))
            clear hb2 hop htag hL
            go_wp2_with fail
            go_ret
            exact ⟨rfl, HB2.out⟩
    · have HK := Lib.hid hk
      clear hk
      by_cases hL : len3 < 24
      · have d24 : decide ((24 : Int) ≤ (len3 : Int)) = false := decide_eq_false (by omega)
        clear hL
        go_enter Try.func14, Try.ntmps14
        go_wp2_with fail
        refine (Box.small_any _).mono ?_
        rintro e w1 ⟨rfl, hb1⟩
        have hbW := hb1.alloc hb1.size (.cells #[.slice a0 len0 cap0, .slice a1 len1 cap1, .slice a2 len2 cap2, .slice a3 len3 cap3] 22)
        have hcl : ∀ j (hj : j < ([(⟨a0, len0, cap0, l0⟩ : Part), ⟨a1, len1, cap1, l1⟩, ⟨a2, len2, cap2, l2⟩, ⟨a3, len3, cap3, l3⟩] : List Part).length), (w1.alloc (.cells #[.slice a0 len0 cap0, .slice a1 len1 cap1, .slice a2 len2 cap2, .slice a3 len3 cap3] 22)).cell? ⟨w1.heap.size, j, none⟩ = some ([(⟨a0, len0, cap0, l0⟩ : Part), ⟨a1, len1, cap1, l1⟩, ⟨a2, len2, cap2, l2⟩, ⟨a3, len3, cap3, l3⟩] : List Part)[j].val := lits_cell 22 [(⟨a0, len0, cap0, l0⟩ : Part), ⟨a1, len1, cap1, l1⟩, ⟨a2, len2, cap2, l2⟩, ⟨a3, len3, cap3, l3⟩]
        have HCL := Lib.hid hcl
        clear hcl
        go_wp2_with fail
        refine (fits_any w1.heap.size 4 4 [(⟨a0, len0, cap0, l0⟩ : Part), ⟨a1, len1, cap1, l1⟩, ⟨a2, len2, cap2, l2⟩, ⟨a3, len3, cap3, l3⟩] _ rfl (by omega) HCL.out true (decide_eq_true (by simp only [List.mem_cons, List.not_mem_nil, or_false, forall_eq_or_imp, forall_eq]; exact HFIT.out)).symm).mono ?_
        rintro e w2 ⟨rfl, rfl⟩
        clear HCL
        generalize w1.alloc (.cells #[.slice a0 len0 cap0, .slice a1 len1 cap1, .slice a2 len2 cap2, .slice a3 len3 cap3] 22) = W1 at hbW ⊢
        have HB1 := Lib.hid hbW
        clear hbW hb1
        go_wp2_with fail
        refine (open_no1 a0 len0 cap0 l0 a1 len1 cap1 a2 len2 cap2 a3 len3 cap3 W1 HL0.out HK.out).mono ?_
        rintro e w2 ⟨rfl, rfl⟩
        go_wp2_with fail
        go_ret
        exact ⟨rfl, HB1.out⟩
      · have d24 : decide ((24 : Int) ≤ (len3 : Int)) = true := decide_eq_true (by omega)
        clear hL
        go_enter Try.func14, Try.ntmps14
        go_wp2_with fail
        refine (Box.small_any _).mono ?_
        rintro e w1 ⟨rfl, hb1⟩
        have hbW := hb1.alloc hb1.size (.cells #[.slice a0 len0 cap0, .slice a1 len1 cap1, .slice a2 len2 cap2, .slice a3 len3 cap3] 22)
        have hcl : ∀ j (hj : j < ([(⟨a0, len0, cap0, l0⟩ : Part), ⟨a1, len1, cap1, l1⟩, ⟨a2, len2, cap2, l2⟩, ⟨a3, len3, cap3, l3⟩] : List Part).length), (w1.alloc (.cells #[.slice a0 len0 cap0, .slice a1 len1 cap1, .slice a2 len2 cap2, .slice a3 len3 cap3] 22)).cell? ⟨w1.heap.size, j, none⟩ = some ([(⟨a0, len0, cap0, l0⟩ : Part), ⟨a1, len1, cap1, l1⟩, ⟨a2, len2, cap2, l2⟩, ⟨a3, len3, cap3, l3⟩] : List Part)[j].val := lits_cell 22 [(⟨a0, len0, cap0, l0⟩ : Part), ⟨a1, len1, cap1, l1⟩, ⟨a2, len2, cap2, l2⟩, ⟨a3, len3, cap3, l3⟩]
        have HCL := Lib.hid hcl
        clear hcl
        go_wp2_with fail
        refine (fits_any w1.heap.size 4 4 [(⟨a0, len0, cap0, l0⟩ : Part), ⟨a1, len1, cap1, l1⟩, ⟨a2, len2, cap2, l2⟩, ⟨a3, len3, cap3, l3⟩] _ rfl (by omega) HCL.out true (decide_eq_true (by simp only [List.mem_cons, List.not_mem_nil, or_false, forall_eq_or_imp, forall_eq]; exact HFIT.out)).symm).mono ?_
        rintro e w2 ⟨rfl, rfl⟩
        clear HCL
        generalize w1.alloc (.cells #[.slice a0 len0 cap0, .slice a1 len1 cap1, .slice a2 len2 cap2, .slice a3 len3 cap3] 22) = W1 at hbW ⊢
        have HB1 := Lib.hid hbW
        clear hbW hb1
        go_wp2_with fail
        refine (open_no1 a0 len0 cap0 l0 a1 len1 cap1 a2 len2 cap2 a3 len3 cap3 W1 HL0.out HK.out).mono ?_
        rintro e w2 ⟨rfl, rfl⟩
        go_wp2_with fail
        go_ret
        exact ⟨rfl, HB1.out⟩
  · have HFIT := Lib.hid hfit
    clear hfit
    go_enter Try.func14, Try.ntmps14
    go_wp2_with fail
    refine (Box.small_any _).mono ?_
    rintro e w1 ⟨rfl, hb1⟩
    have hbW := hb1.alloc hb1.size (.cells #[.slice a0 len0 cap0, .slice a1 len1 cap1, .slice a2 len2 cap2, .slice a3 len3 cap3] 22)
    have hcl : ∀ j (hj : j < ([(⟨a0, len0, cap0, l0⟩ : Part), ⟨a1, len1, cap1, l1⟩, ⟨a2, len2, cap2, l2⟩, ⟨a3, len3, cap3, l3⟩] : List Part).length), (w1.alloc (.cells #[.slice a0 len0 cap0, .slice a1 len1 cap1, .slice a2 len2 cap2, .slice a3 len3 cap3] 22)).cell? ⟨w1.heap.size, j, none⟩ = some ([(⟨a0, len0, cap0, l0⟩ : Part), ⟨a1, len1, cap1, l1⟩, ⟨a2, len2, cap2, l2⟩, ⟨a3, len3, cap3, l3⟩] : List Part)[j].val := lits_cell 22 [(⟨a0, len0, cap0, l0⟩ : Part), ⟨a1, len1, cap1, l1⟩, ⟨a2, len2, cap2, l2⟩, ⟨a3, len3, cap3, l3⟩]
    have HCL := Lib.hid hcl
    clear hcl
    go_wp2_with fail
    refine (fits_any w1.heap.size 4 4 [(⟨a0, len0, cap0, l0⟩ : Part), ⟨a1, len1, cap1, l1⟩, ⟨a2, len2, cap2, l2⟩, ⟨a3, len3, cap3, l3⟩] _ rfl (by omega) HCL.out false (decide_eq_false (by simp only [List.mem_cons, List.not_mem_nil, or_false, forall_eq_or_imp, forall_eq]; exact HFIT.out)).symm).mono ?_
    rintro e w2 ⟨rfl, rfl⟩
    clear HCL
    generalize w1.alloc (.cells #[.slice a0 len0 cap0, .slice a1 len1 cap1, .slice a2 len2 cap2, .slice a3 len3 cap3] 22) = W1 at hbW ⊢
    have HB1 := Lib.hid hbW
    clear hbW hb1
    go_wp2_with fail
    go_ret
    exact ⟨rfl, HB1.out⟩

set_option maxRecDepth 100000 in
theorem lifted (os : Os) (started : os.Started) (H : Type) (enc : TypeId × Value → H) :
    ReturnsInHanded {} Try.checked os 14 .any (Rows.boxCutSpec.pre6 enc Try.prog Try.f14 Rows.boxCutRow.domain false) (Rows.boxCutSpec.post enc Try.prog Try.f14 false true false false) := by
  refine returnsInHanded_of_change_sized (C := Try.checked) own started (by kernel_rfl) Try.func14
    (ChangeSpec.witness6 (enc := enc) (C := Try.checked) false ⟨#[], #[.slice none 0 0, .slice none 0 0, .slice none 0 0, .slice none 0 0], []⟩ 8 (by kernel_rfl) (by kernel_rfl) (by kernel_rfl) (by kernel_rfl)) ?_
  intro W base args ds gs before hval0 hW hcnd hsz0 _
  have hval : ∀ (j : Nat) t v, Try.f14.params[j]? = some t → args[j]? = some v → Value.okWide Try.prog W .any base t v := hval0
  have hsz : (DataW.weightsEach Try.prog (Try.f14.params.toList ++ Rows.boxCutSpec.plain.varTypes Try.prog) (ds ++ gs)).all (· ≤ reachBytes) = true := hsz0
  clear hsz0
  have hW' := hW
  obtain ⟨p, q, hA0, hV, rfl, hfz, hnd⟩ := hW
  have hA : DataW.TrodAll enc Try.prog W 0 (fun _ => true) true Try.f14.params.toList args.toList ds p := hA0
  rw [Try.params14] at hA hval hsz
  obtain ⟨v0, vs0, d0, ds0, p0, q0, hargs, rfl, rfl, h0, r0⟩ := trodAll_cons hA
  obtain ⟨v1, vs1, d1, ds1, p1, q1, rfl, rfl, rfl, h1, r1⟩ := trodAll_cons r0
  obtain ⟨v2, vs2, d2, ds2, p2, q2, rfl, rfl, rfl, h2, r2⟩ := trodAll_cons r1
  obtain ⟨v3, vs3, d3, ds3, p3, q3, rfl, rfl, rfl, h3, r3⟩ := trodAll_cons r2
  obtain ⟨rfl, rfl, rfl⟩ := trodAll_nil r3
  obtain rfl : args = #[v0, v1, v2, v3] := by cases args; simp_all
  obtain ⟨rfl, rfl⟩ := trodVars_none hV
  obtain ⟨a0, len0, cap0, rfl⟩ := okWide_slice Try.underlying22 (hval 0 22 v0 rfl rfl)
  have k0 := h0
  have lt0 : ∀ x ∈ p0, x.block < W.heap.size := by obtain ⟨m, hm⟩ := k0; exact DataW.trod_lt m _ _ _ hm
  obtain ⟨l0, w0⟩ := open_bytes u8 (by kernel_rfl) (by kernel_rfl) h0 hsz (j := 0) rfl rfl
  obtain ⟨a1, len1, cap1, rfl⟩ := okWide_slice Try.underlying22 (hval 1 22 v1 rfl rfl)
  have k1 := h1
  have lt1 : ∀ x ∈ p1, x.block < W.heap.size := by obtain ⟨m, hm⟩ := k1; exact DataW.trod_lt m _ _ _ hm
  obtain ⟨l1, w1⟩ := open_bytes u8 (by kernel_rfl) (by kernel_rfl) h1 hsz (j := 1) rfl rfl
  obtain ⟨a2, len2, cap2, rfl⟩ := okWide_slice Try.underlying22 (hval 2 22 v2 rfl rfl)
  have k2 := h2
  have lt2 : ∀ x ∈ p2, x.block < W.heap.size := by obtain ⟨m, hm⟩ := k2; exact DataW.trod_lt m _ _ _ hm
  obtain ⟨l2, w2⟩ := open_bytes u8 (by kernel_rfl) (by kernel_rfl) h2 hsz (j := 2) rfl rfl
  obtain ⟨a3, len3, cap3, rfl⟩ := okWide_slice Try.underlying22 (hval 3 22 v3 rfl rfl)
  have k3 := h3
  have lt3 : ∀ x ∈ p3, x.block < W.heap.size := by obtain ⟨m, hm⟩ := k3; exact DataW.trod_lt m _ _ _ hm
  obtain ⟨l3, w3⟩ := open_bytes u8 (by kernel_rfl) (by kernel_rfl) h3 hsz (j := 3) rfl rfl
  clear hsz
  clear hA0 hval0
  simp only [List.append_nil] at hW'
  refine (walk a0 len0 cap0 l0 a1 len1 cap1 l1 a2 len2 cap2 l2 a3 len3 cap3 l3 W w0 w1 w2 w3).mono fun e W' ⟨he, bel⟩ => ?_
  subst he
  exact ⟨_, rfl, _, _, _, [], _, [], hW', trodAll_mk1 (shut_bool Try.underlying4 _), (trodAll_cons_mk (Below.trod laidOut (by kernel_rfl) (of_decide_eq_true (by kernel_rfl)) k0 bel lt0) (trodAll_cons_mk (Below.trod laidOut (by kernel_rfl) (of_decide_eq_true (by kernel_rfl)) k1 bel lt1) (trodAll_cons_mk (Below.trod laidOut (by kernel_rfl) (of_decide_eq_true (by kernel_rfl)) k2 bel lt2) (trodAll_cons_mk (Below.trod laidOut (by kernel_rfl) (of_decide_eq_true (by kernel_rfl)) k3 bel lt3) trodAll_mk0)))), rfl, bel.frame _, fun h => by cases h⟩

theorem over : Rows.boxCutRow.holds Try.pinned (OpenSpec.ofChange Rows.boxCutSpec) :=
  OpenClaim.holds_of_wide 14 Try.f14 rfl rfl rfl rfl rfl rfl rfl ⟨rfl, rfl, rfl, rfl, rfl⟩ rfl rfl rfl rfl rfl (by kernel_rfl) Try.func14 (by kernel_rfl)
    (of_decide_eq_true (by kernel_rfl)) (by unfold Func.isWrapper; first | (rw [if_pos (by decide +kernel)]; kernel_rfl) | (rw [if_neg (by decide +kernel)]; exact ⟨rfl, rfl⟩))
    (fun os started H enc _ => lifted os started H enc)

theorem proved : Rows.BoxCutSaid := over
end Go.Proofs.Ytcbihjcnnfohmaa.boxCut
