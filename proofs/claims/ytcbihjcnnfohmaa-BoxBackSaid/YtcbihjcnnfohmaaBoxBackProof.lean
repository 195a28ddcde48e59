/- The law 'BoxBack' answers true for every input, and its arguments read afterwards as before; no condition. The frame follows the kit's skeleton; the walk is ours. -/
import Derived.Test.YtcbihjcnnfohmaaRows
import Derived.Test.YtcbihjcnnfohmaaArgs
import Derived.Test.YtcbihjcnnfohmaaBoxLaw
import Derived.WalkKit
import Derived.ProofKit
import Derived.OpenShut
import Derived.ShutString
import Derived.ChangeOld
import Derived.Below
import Derived.SizedLaws
namespace Go.Proofs.Ytcbihjcnnfohmaa.boxBack
open Go.ChangeShapes Go.WideShapes Go.ChangeAt Go.RowKit
set_option linter.unusedVariables false

theorem own : ownKnob Try.prog.godebug = none := by kernel_rfl
theorem laidOut : laidOutB Try.prog = true := by kernel_rfl

open Aes Str Mac Box
set_option linter.unusedSimpArgs false

set_option maxRecDepth 100000 in
set_option maxHeartbeats 4000000 in
theorem walk (a0 : Option Addr) (len0 cap0 : Nat) (l0 : List UInt8) (a1 : Option Addr) (len1 cap1 : Nat) (l1 : List UInt8) (a2 : Int) (a3 : Option Addr) (len3 cap3 : Nat) (l3 : List UInt8) (a4 : Option Addr) (len4 cap4 : Nat) (l4 : List UInt8) (a5 : Option Addr) (len5 cap5 : Nat) (l5 : List UInt8) (w : World) (w0 : ArgB w a0 len0 cap0 l0) (w1 : ArgB w a1 len1 cap1 l1) (w2 : (Lit.int .i64 a2).wf = true) (w3 : ArgB w a3 len3 cap3 l3) (w4 : ArgB w a4 len4 cap4 l4) (w5 : ArgB w a5 len5 cap5 l5) :
    Calls Try.prog 13 #[.slice a0 len0 cap0, .slice a1 len1 cap1, .int .i64 a2, .slice a3 len3 cap3, .slice a4 len4 cap4, .slice a5 len5 cap5] w fun e w' => e = .returned (.bool true) ∧ Below w.heap.size w w' := by
  obtain ⟨hl0, hf0, hm0, hr0⟩ := w0
  have HL0 := Lib.hid hl0
  have HR0 := Lib.hid hr0
  clear hl0 hr0
  obtain ⟨hl1, hf1, hm1, hr1⟩ := w1
  have HL1 := Lib.hid hl1
  have HR1 := Lib.hid hr1
  clear hl1 hr1
  obtain ⟨hl3, hf3, hm3, hr3⟩ := w3
  have HL3 := Lib.hid hl3
  have HR3 := Lib.hid hr3
  clear hl3 hr3
  obtain ⟨hl4, hf4, hm4, hr4⟩ := w4
  have HL4 := Lib.hid hl4
  have HR4 := Lib.hid hr4
  clear hl4 hr4
  obtain ⟨hl5, hf5, hm5, hr5⟩ := w5
  have HL5 := Lib.hid hl5
  have HR5 := Lib.hid hr5
  clear hl5 hr5
  obtain ⟨hb20, hb21⟩ := bounds_i64 w2
  by_cases hfit : len0 ≤ 1024 ∧ len1 ≤ 1024 ∧ len3 ≤ 1024 ∧ len4 ≤ 1024 ∧ len5 ≤ 1024
  · have HFIT := Lib.hid hfit
    obtain ⟨F0, F1, F3, F4, F5⟩ := hfit
    have HNM := Lib.hid (show a2 < 9223372036854775808 by omega)
    by_cases hk : KeyOk l0
    · have HK := Lib.hid hk
      clear hk
      by_cases hn : a2 < 0
      · have HNO := Lib.hid (show ¬ KeyOk l0 ∨ a2 < 0 from .inr hn)
        clear hn hb20 hb21
        go_enter Try.func13, Try.ntmps13
        go_wp2_with fail
        refine (Box.small_any _).mono ?_
        rintro e w1 ⟨rfl, hb1⟩
        have hbW := hb1.alloc hb1.size (.cells #[.slice a0 len0 cap0, .slice a1 len1 cap1, .slice a3 len3 cap3, .slice a4 len4 cap4, .slice a5 len5 cap5] 22)
        have hcl : ∀ j (hj : j < ([(⟨a0, len0, cap0, l0⟩ : Part), ⟨a1, len1, cap1, l1⟩, ⟨a3, len3, cap3, l3⟩, ⟨a4, len4, cap4, l4⟩, ⟨a5, len5, cap5, l5⟩] : List Part).length), (w1.alloc (.cells #[.slice a0 len0 cap0, .slice a1 len1 cap1, .slice a3 len3 cap3, .slice a4 len4 cap4, .slice a5 len5 cap5] 22)).cell? ⟨w1.heap.size, j, none⟩ = some ([(⟨a0, len0, cap0, l0⟩ : Part), ⟨a1, len1, cap1, l1⟩, ⟨a3, len3, cap3, l3⟩, ⟨a4, len4, cap4, l4⟩, ⟨a5, len5, cap5, l5⟩] : List Part)[j].val := lits_cell 22 [(⟨a0, len0, cap0, l0⟩ : Part), ⟨a1, len1, cap1, l1⟩, ⟨a3, len3, cap3, l3⟩, ⟨a4, len4, cap4, l4⟩, ⟨a5, len5, cap5, l5⟩]
        have HCL := Lib.hid hcl
        clear hcl
        go_wp2_with fail
        refine (fits_any w1.heap.size 5 5 [(⟨a0, len0, cap0, l0⟩ : Part), ⟨a1, len1, cap1, l1⟩, ⟨a3, len3, cap3, l3⟩, ⟨a4, len4, cap4, l4⟩, ⟨a5, len5, cap5, l5⟩] _ rfl (by omega) HCL.out true (decide_eq_true (by simp only [List.mem_cons, List.not_mem_nil, or_false, forall_eq_or_imp, forall_eq]; exact HFIT.out)).symm).mono ?_
        rintro e w2 ⟨rfl, rfl⟩
        clear HCL
        generalize w1.alloc (.cells #[.slice a0 len0 cap0, .slice a1 len1 cap1, .slice a3 len3 cap3, .slice a4 len4 cap4, .slice a5 len5 cap5] 22) = W1 at hbW ⊢
        have HB1 := Lib.hid hbW
        clear hbW hb1
        go_wp2_with fail
        refine (seal_no1 a0 len0 cap0 l0 a1 len1 cap1 a2 a3 len3 cap3 a4 len4 cap4 W1 HL0.out (rd_now HR0.out HB1.out) HNM.out HNO.out).mono ?_
        rintro e w2 ⟨rfl, hb2⟩
        have HB2 := Lib.hid (HB1.out.trans (hb2.mono HB1.out.size))
        clear hb2
        go_wp2_with fail
        by_cases hL : len5 < 24
        · have d24 : decide ((24 : Int) ≤ (len5 : Int)) = false := decide_eq_false (by omega)
          refine (open_short a0 len0 cap0 l0 a1 len1 cap1 a3 len3 cap3 a5 len5 cap5 w2 HL0.out (rd_now HR0.out HB2.out) HK.out hL).mono ?_
          rintro e w3 ⟨rfl, hb3⟩
          have HB3 := Lib.hid (HB2.out.trans (hb3.mono HB2.out.size))
          clear hb3 hL
          go_wp2_with fail
          go_ret
          exact ⟨rfl, HB3.out⟩
        · have d24 : decide ((24 : Int) ≤ (len5 : Int)) = true := decide_eq_true (by omega)
          by_cases hop : Opens l1 l3 l5
          · obtain ⟨k, hk⟩ : ∃ k, len5 = 24 + k := ⟨len5 - 24, by omega⟩
            have HSO := Lib.hid (seal_opens (enc := l0) hop (by rw [HL5.out]; omega))
            have HN63 := Lib.hid (show num ((bodyL l5).take 8) < 9223372036854775808 by have := hop.2; omega)
            have hQl : (xorS l0 (num ((bodyL l5).take 8)) 0 ((bodyL l5).drop 8)).length = k := by rw [xorS_length]; exact body8_len (by rw [HL5.out]; exact hk)
            refine (open_yes a0 len0 cap0 l0 a1 len1 cap1 l1 a3 len3 cap3 l3 a5 len5 cap5 l5 w2 HL0.out (rd_now HR0.out HB2.out) HK.out HL1.out (by omega) (rd_now HR1.out HB2.out) HL3.out (by omega) hf3 (by omega) (rd_now HR3.out HB2.out) HL5.out (by omega) (by omega) hf5 (by omega) (rd_now HR5.out HB2.out) hop).mono ?_
            rintro e w3 ⟨v3, rfl, hO3, hb3⟩
            generalize num ((bodyL l5).take 8) = N at *
            generalize xorS l0 N 0 ((bodyL l5).drop 8) = Q at *
            obtain ⟨Aq, cq, hv3, _, hcq⟩ := hO3.form
            rw [hQl] at hv3 hcq
            subst hv3
            have HQL := Lib.hid hQl
            have HOQ := Lib.hid hO3
            have hk16 : k ≤ 65536 := by omega
            have HKB := Lib.hid hk
            have HB3 := Lib.hid (HB2.out.trans (hb3.mono HB2.out.size))
            clear hb3 hO3 hQl hop hL hk
            go_wp2_with fail
            refine (seal_yes a0 len0 cap0 l0 a1 len1 cap1 l1 N a3 len3 cap3 l3 Aq k cq Q w3 HL0.out (rd_now HR0.out HB3.out) HK.out HL1.out (by omega) (rd_now HR1.out HB3.out) HN63.out HL3.out (by omega) hf3 (by omega) (rd_now HR3.out HB3.out) HQL.out hk16 (own_rd HOQ.out)).mono ?_
            rw [HSO.out]
            rintro e w4 ⟨gy, my, rfl, hmy, hOy, hb4⟩
            subst hmy
            have sy := arg_str (n := 24 + k) (c := 24 + k) (by rw [HL5.out]; exact HKB.out) (ownb_rd hOy) (Below.refl _ _)
            have HB4 := Lib.hid (HB3.out.trans (hb4.mono HB3.out.size))
            have sb := arg_str (c := cap5) HL5.out HR5.out HB4.out
            clear hb4 hOy
            generalize str l5 = tb at *
            go_wp2_with fail
            go_ret
            exact ⟨rfl, HB4.out⟩
          · by_cases htag : tagL l1 l3 (bodyL l5) = endL l5
            · refine (open_big a0 len0 cap0 l0 a1 len1 cap1 l1 a3 len3 cap3 l3 a5 len5 cap5 l5 w2 HL0.out (rd_now HR0.out HB2.out) HK.out HL1.out (by omega) (rd_now HR1.out HB2.out) HL3.out (by omega) hf3 (by omega) (rd_now HR3.out HB2.out) HL5.out (by omega) (by omega) hf5 (by omega) (rd_now HR5.out HB2.out) htag (not_opens hop htag)).mono ?_
              rintro e w3 ⟨rfl, hb3⟩
              have HB3 := Lib.hid (HB2.out.trans (hb3.mono HB2.out.size))
              clear hb3 hop htag hL
              go_wp2_with fail
              go_ret
              exact ⟨rfl, HB3.out⟩
            · refine (open_tag a0 len0 cap0 l0 a1 len1 cap1 l1 a3 len3 cap3 l3 a5 len5 cap5 l5 w2 HL0.out (rd_now HR0.out HB2.out) HK.out HL1.out (by omega) (rd_now HR1.out HB2.out) HL3.out (by omega) hf3 (by omega) (rd_now HR3.out HB2.out) HL5.out (by omega) (by omega) hf5 (by omega) (rd_now HR5.out HB2.out) htag).mono ?_
              rintro e w3 ⟨rfl, hb3⟩
              have HB3 := Lib.hid (HB2.out.trans (hb3.mono HB2.out.size))
              clear hb3 hop htag hL
              go_wp2_with fail
              go_ret
              exact ⟨rfl, HB3.out⟩
      · obtain ⟨nc, rfl⟩ := Int.eq_ofNat_of_zero_le (show 0 ≤ a2 by omega)
        have HNC := Lib.hid (show nc < 9223372036854775808 by omega)
        clear hn hb20 hb21
        go_enter Try.func13, Try.ntmps13
        go_wp2_with fail
        refine (Box.small_any _).mono ?_
        rintro e w1 ⟨rfl, hb1⟩
        have hbW := hb1.alloc hb1.size (.cells #[.slice a0 len0 cap0, .slice a1 len1 cap1, .slice a3 len3 cap3, .slice a4 len4 cap4, .slice a5 len5 cap5] 22)
        have hcl : ∀ j (hj : j < ([(⟨a0, len0, cap0, l0⟩ : Part), ⟨a1, len1, cap1, l1⟩, ⟨a3, len3, cap3, l3⟩, ⟨a4, len4, cap4, l4⟩, ⟨a5, len5, cap5, l5⟩] : List Part).length), (w1.alloc (.cells #[.slice a0 len0 cap0, .slice a1 len1 cap1, .slice a3 len3 cap3, .slice a4 len4 cap4, .slice a5 len5 cap5] 22)).cell? ⟨w1.heap.size, j, none⟩ = some ([(⟨a0, len0, cap0, l0⟩ : Part), ⟨a1, len1, cap1, l1⟩, ⟨a3, len3, cap3, l3⟩, ⟨a4, len4, cap4, l4⟩, ⟨a5, len5, cap5, l5⟩] : List Part)[j].val := lits_cell 22 [(⟨a0, len0, cap0, l0⟩ : Part), ⟨a1, len1, cap1, l1⟩, ⟨a3, len3, cap3, l3⟩, ⟨a4, len4, cap4, l4⟩, ⟨a5, len5, cap5, l5⟩]
        have HCL := Lib.hid hcl
        clear hcl
        go_wp2_with fail
        refine (fits_any w1.heap.size 5 5 [(⟨a0, len0, cap0, l0⟩ : Part), ⟨a1, len1, cap1, l1⟩, ⟨a3, len3, cap3, l3⟩, ⟨a4, len4, cap4, l4⟩, ⟨a5, len5, cap5, l5⟩] _ rfl (by omega) HCL.out true (decide_eq_true (by simp only [List.mem_cons, List.not_mem_nil, or_false, forall_eq_or_imp, forall_eq]; exact HFIT.out)).symm).mono ?_
        rintro e w2 ⟨rfl, rfl⟩
        clear HCL
        generalize w1.alloc (.cells #[.slice a0 len0 cap0, .slice a1 len1 cap1, .slice a3 len3 cap3, .slice a4 len4 cap4, .slice a5 len5 cap5] 22) = W1 at hbW ⊢
        have HB1 := Lib.hid hbW
        clear hbW hb1
        go_wp2_with fail
        refine (seal_yes a0 len0 cap0 l0 a1 len1 cap1 l1 nc a3 len3 cap3 l3 a4 len4 cap4 l4 W1 HL0.out (rd_now HR0.out HB1.out) HK.out HL1.out (by omega) (rd_now HR1.out HB1.out) HNC.out HL3.out (by omega) hf3 (by omega) (rd_now HR3.out HB1.out) HL4.out (by omega) (rd_now HR4.out HB1.out)).mono ?_
        rintro e w2 ⟨gx, mx, rfl, hmx, hOx, hb2⟩
        subst hmx
        have HX2 := Lib.hid (ownb_rd hOx)
        have HB2 := Lib.hid (HB1.out.trans (hb2.mono HB1.out.size))
        clear hb2 hOx
        go_wp2_with fail
        refine (open_yes a0 len0 cap0 l0 a1 len1 cap1 l1 a3 len3 cap3 l3 (some ⟨gx, 0, none⟩) (24 + len4) (24 + len4) (sealL l0 l1 nc l3 l4) w2 HL0.out (rd_now HR0.out HB2.out) HK.out HL1.out (by omega) (rd_now HR1.out HB2.out) HL3.out (by omega) hf3 (by omega) (rd_now HR3.out HB2.out) (by rw [sealL_len, HL4.out]) (by omega) (by omega) (Nat.le_refl _) (by omega) HX2.out (opens_seal HNC.out)).mono ?_
        rw [(num_seal (enc := l0) (tag := l1) (nonce := nc) (about := l3) (p := l4) HNC.out).1, (num_seal (enc := l0) (tag := l1) (nonce := nc) (about := l3) (p := l4) HNC.out).2, xorS_twice]
        rintro e w3 ⟨v3, rfl, hO3, hb3⟩
        obtain ⟨A3, c3, hv3, _, hcc3⟩ := hO3.form
        rw [HL4.out] at hv3 hcc3
        subst hv3
        have HB3 := Lib.hid (HB2.out.trans (hb3.mono HB2.out.size))
        have s3 := own_str hO3
        have s4 := arg_str (c := cap4) HL4.out HR4.out HB3.out
        have hsz := sizeI_nat (show len4 ≤ 65536 by omega)
        clear hb3 hO3
        generalize str l4 = tp at *
        go_wp2_with (go_at_call 37
                     refine (size_any _ (by omega) (by omega) _).mono ?_
                     rintro e w' ⟨rfl, rfl⟩
                     rw [hsz])
        clear s3 s4 hsz
        by_cases hL : len5 < 24
        · have d24 : decide ((24 : Int) ≤ (len5 : Int)) = false := decide_eq_false (by omega)
          refine (open_short a0 len0 cap0 l0 a1 len1 cap1 a3 len3 cap3 a5 len5 cap5 w3 HL0.out (rd_now HR0.out HB3.out) HK.out hL).mono ?_
          rintro e w4 ⟨rfl, hb4⟩
          have HB4 := Lib.hid (HB3.out.trans (hb4.mono HB3.out.size))
          clear hb4 hL
          go_wp2_with fail
          go_ret
          exact ⟨rfl, HB4.out⟩
        · have d24 : decide ((24 : Int) ≤ (len5 : Int)) = true := decide_eq_true (by omega)
          by_cases hop : Opens l1 l3 l5
          · obtain ⟨k, hk⟩ : ∃ k, len5 = 24 + k := ⟨len5 - 24, by omega⟩
            have HSO := Lib.hid (seal_opens (enc := l0) hop (by rw [HL5.out]; omega))
            have HN63 := Lib.hid (show num ((bodyL l5).take 8) < 9223372036854775808 by have := hop.2; omega)
            have hQl : (xorS l0 (num ((bodyL l5).take 8)) 0 ((bodyL l5).drop 8)).length = k := by rw [xorS_length]; exact body8_len (by rw [HL5.out]; exact hk)
            refine (open_yes a0 len0 cap0 l0 a1 len1 cap1 l1 a3 len3 cap3 l3 a5 len5 cap5 l5 w3 HL0.out (rd_now HR0.out HB3.out) HK.out HL1.out (by omega) (rd_now HR1.out HB3.out) HL3.out (by omega) hf3 (by omega) (rd_now HR3.out HB3.out) HL5.out (by omega) (by omega) hf5 (by omega) (rd_now HR5.out HB3.out) hop).mono ?_
            rintro e w4 ⟨v4, rfl, hO4, hb4⟩
            generalize num ((bodyL l5).take 8) = N at *
            generalize xorS l0 N 0 ((bodyL l5).drop 8) = Q at *
            obtain ⟨Aq, cq, hv4, _, hcq⟩ := hO4.form
            rw [hQl] at hv4 hcq
            subst hv4
            have HQL := Lib.hid hQl
            have HOQ := Lib.hid hO4
            have hk16 : k ≤ 65536 := by omega
            have HKB := Lib.hid hk
            have HB4 := Lib.hid (HB3.out.trans (hb4.mono HB3.out.size))
            clear hb4 hO4 hQl hop hL hk
            go_wp2_with fail
            refine (seal_yes a0 len0 cap0 l0 a1 len1 cap1 l1 N a3 len3 cap3 l3 Aq k cq Q w4 HL0.out (rd_now HR0.out HB4.out) HK.out HL1.out (by omega) (rd_now HR1.out HB4.out) HN63.out HL3.out (by omega) hf3 (by omega) (rd_now HR3.out HB4.out) HQL.out hk16 (own_rd HOQ.out)).mono ?_
            rw [HSO.out]
            rintro e w5 ⟨gy, my, rfl, hmy, hOy, hb5⟩
            subst hmy
            have sy := arg_str (n := 24 + k) (c := 24 + k) (by rw [HL5.out]; exact HKB.out) (ownb_rd hOy) (Below.refl _ _)
            have HB5 := Lib.hid (HB4.out.trans (hb5.mono HB4.out.size))
            have sb := arg_str (c := cap5) HL5.out HR5.out HB5.out
            clear hb5 hOy
            generalize str l5 = tb at *
            go_wp2_with fail
            go_ret
            exact ⟨rfl, HB5.out⟩
          · by_cases htag : tagL l1 l3 (bodyL l5) = endL l5
            · refine (open_big a0 len0 cap0 l0 a1 len1 cap1 l1 a3 len3 cap3 l3 a5 len5 cap5 l5 w3 HL0.out (rd_now HR0.out HB3.out) HK.out HL1.out (by omega) (rd_now HR1.out HB3.out) HL3.out (by omega) hf3 (by omega) (rd_now HR3.out HB3.out) HL5.out (by omega) (by omega) hf5 (by omega) (rd_now HR5.out HB3.out) htag (not_opens hop htag)).mono ?_
              rintro e w4 ⟨rfl, hb4⟩
              have HB4 := Lib.hid (HB3.out.trans (hb4.mono HB3.out.size))
              clear hb4 hop htag hL
              go_wp2_with fail
              go_ret
              exact ⟨rfl, HB4.out⟩
            · refine (open_tag a0 len0 cap0 l0 a1 len1 cap1 l1 a3 len3 cap3 l3 a5 len5 cap5 l5 w3 HL0.out (rd_now HR0.out HB3.out) HK.out HL1.out (by omega) (rd_now HR1.out HB3.out) HL3.out (by omega) hf3 (by omega) (rd_now HR3.out HB3.out) HL5.out (by omega) (by omega) hf5 (by omega) (rd_now HR5.out HB3.out) htag).mono ?_
              rintro e w4 ⟨rfl, hb4⟩
              have HB4 := Lib.hid (HB3.out.trans (hb4.mono HB3.out.size))
              clear hb4 hop htag hL
              go_wp2_with fail
              go_ret
              exact ⟨rfl, HB4.out⟩
    · have HK := Lib.hid hk
      have HNO := Lib.hid (show ¬ KeyOk l0 ∨ a2 < 0 from .inl hk)
      clear hk hb20 hb21
      go_enter Try.func13, Try.ntmps13
      go_wp2_with fail
      refine (Box.small_any _).mono ?_
      rintro e w1 ⟨rfl, hb1⟩
      have hbW := hb1.alloc hb1.size (.cells #[.slice a0 len0 cap0, .slice a1 len1 cap1, .slice a3 len3 cap3, .slice a4 len4 cap4, .slice a5 len5 cap5] 22)
      have hcl : ∀ j (hj : j < ([(⟨a0, len0, cap0, l0⟩ : Part), ⟨a1, len1, cap1, l1⟩, ⟨a3, len3, cap3, l3⟩, ⟨a4, len4, cap4, l4⟩, ⟨a5, len5, cap5, l5⟩] : List Part).length), (w1.alloc (.cells #[.slice a0 len0 cap0, .slice a1 len1 cap1, .slice a3 len3 cap3, .slice a4 len4 cap4, .slice a5 len5 cap5] 22)).cell? ⟨w1.heap.size, j, none⟩ = some ([(⟨a0, len0, cap0, l0⟩ : Part), ⟨a1, len1, cap1, l1⟩, ⟨a3, len3, cap3, l3⟩, ⟨a4, len4, cap4, l4⟩, ⟨a5, len5, cap5, l5⟩] : List Part)[j].val := lits_cell 22 [(⟨a0, len0, cap0, l0⟩ : Part), ⟨a1, len1, cap1, l1⟩, ⟨a3, len3, cap3, l3⟩, ⟨a4, len4, cap4, l4⟩, ⟨a5, len5, cap5, l5⟩]
      have HCL := Lib.hid hcl
      clear hcl
      go_wp2_with fail
      refine (fits_any w1.heap.size 5 5 [(⟨a0, len0, cap0, l0⟩ : Part), ⟨a1, len1, cap1, l1⟩, ⟨a3, len3, cap3, l3⟩, ⟨a4, len4, cap4, l4⟩, ⟨a5, len5, cap5, l5⟩] _ rfl (by omega) HCL.out true (decide_eq_true (by simp only [List.mem_cons, List.not_mem_nil, or_false, forall_eq_or_imp, forall_eq]; exact HFIT.out)).symm).mono ?_
      rintro e w2 ⟨rfl, rfl⟩
      clear HCL
      generalize w1.alloc (.cells #[.slice a0 len0 cap0, .slice a1 len1 cap1, .slice a3 len3 cap3, .slice a4 len4 cap4, .slice a5 len5 cap5] 22) = W1 at hbW ⊢
      have HB1 := Lib.hid hbW
      clear hbW hb1
      go_wp2_with fail
      refine (seal_no1 a0 len0 cap0 l0 a1 len1 cap1 a2 a3 len3 cap3 a4 len4 cap4 W1 HL0.out (rd_now HR0.out HB1.out) HNM.out HNO.out).mono ?_
      rintro e w2 ⟨rfl, hb2⟩
      have HB2 := Lib.hid (HB1.out.trans (hb2.mono HB1.out.size))
      clear hb2
      go_wp2_with fail
      refine (open_no1 a0 len0 cap0 l0 a1 len1 cap1 a3 len3 cap3 a5 len5 cap5 w2 HL0.out HK.out).mono ?_
      rintro e w3 ⟨rfl, rfl⟩
      go_wp2_with fail
      go_ret
      exact ⟨rfl, HB2.out⟩
  · have HFIT := Lib.hid hfit
    clear hfit hb20 hb21
    go_enter Try.func13, Try.ntmps13
    go_wp2_with fail
    refine (Box.small_any _).mono ?_
    rintro e w1 ⟨rfl, hb1⟩
    have hbW := hb1.alloc hb1.size (.cells #[.slice a0 len0 cap0, .slice a1 len1 cap1, .slice a3 len3 cap3, .slice a4 len4 cap4, .slice a5 len5 cap5] 22)
    have hcl : ∀ j (hj : j < ([(⟨a0, len0, cap0, l0⟩ : Part), ⟨a1, len1, cap1, l1⟩, ⟨a3, len3, cap3, l3⟩, ⟨a4, len4, cap4, l4⟩, ⟨a5, len5, cap5, l5⟩] : List Part).length), (w1.alloc (.cells #[.slice a0 len0 cap0, .slice a1 len1 cap1, .slice a3 len3 cap3, .slice a4 len4 cap4, .slice a5 len5 cap5] 22)).cell? ⟨w1.heap.size, j, none⟩ = some ([(⟨a0, len0, cap0, l0⟩ : Part), ⟨a1, len1, cap1, l1⟩, ⟨a3, len3, cap3, l3⟩, ⟨a4, len4, cap4, l4⟩, ⟨a5, len5, cap5, l5⟩] : List Part)[j].val := lits_cell 22 [(⟨a0, len0, cap0, l0⟩ : Part), ⟨a1, len1, cap1, l1⟩, ⟨a3, len3, cap3, l3⟩, ⟨a4, len4, cap4, l4⟩, ⟨a5, len5, cap5, l5⟩]
    have HCL := Lib.hid hcl
    clear hcl
    go_wp2_with fail
    refine (fits_any w1.heap.size 5 5 [(⟨a0, len0, cap0, l0⟩ : Part), ⟨a1, len1, cap1, l1⟩, ⟨a3, len3, cap3, l3⟩, ⟨a4, len4, cap4, l4⟩, ⟨a5, len5, cap5, l5⟩] _ rfl (by omega) HCL.out false (decide_eq_false (by simp only [List.mem_cons, List.not_mem_nil, or_false, forall_eq_or_imp, forall_eq]; exact HFIT.out)).symm).mono ?_
    rintro e w2 ⟨rfl, rfl⟩
    clear HCL
    generalize w1.alloc (.cells #[.slice a0 len0 cap0, .slice a1 len1 cap1, .slice a3 len3 cap3, .slice a4 len4 cap4, .slice a5 len5 cap5] 22) = W1 at hbW ⊢
    have HB1 := Lib.hid hbW
    clear hbW hb1
    go_wp2_with fail
    go_ret
    exact ⟨rfl, HB1.out⟩

set_option maxRecDepth 100000 in
theorem lifted (os : Os) (started : os.Started) (H : Type) (enc : TypeId × Value → H) :
    ReturnsInHanded {} Try.checked os 13 .any (Rows.boxBackSpec.pre6 enc Try.prog Try.f13 Rows.boxBackRow.domain false) (Rows.boxBackSpec.post enc Try.prog Try.f13 false true false false) := by
  refine returnsInHanded_of_change_sized (C := Try.checked) own started (by kernel_rfl) Try.func13
    (ChangeSpec.witness6 (enc := enc) (C := Try.checked) false ⟨#[], #[.slice none 0 0, .slice none 0 0, .int .i64 0, .slice none 0 0, .slice none 0 0, .slice none 0 0], []⟩ 8 (by kernel_rfl) (by kernel_rfl) (by kernel_rfl) (by kernel_rfl)) ?_
  intro W base args ds gs before hval0 hW hcnd hsz0 _
  have hval : ∀ (j : Nat) t v, Try.f13.params[j]? = some t → args[j]? = some v → Value.okWide Try.prog W .any base t v := hval0
  have hsz : (DataW.weightsEach Try.prog (Try.f13.params.toList ++ Rows.boxBackSpec.plain.varTypes Try.prog) (ds ++ gs)).all (· ≤ reachBytes) = true := hsz0
  clear hsz0
  have hW' := hW
  obtain ⟨p, q, hA0, hV, rfl, hfz, hnd⟩ := hW
  have hA : DataW.TrodAll enc Try.prog W 0 (fun _ => true) true Try.f13.params.toList args.toList ds p := hA0
  rw [Try.params13] at hA hval hsz
  obtain ⟨v0, vs0, d0, ds0, p0, q0, hargs, rfl, rfl, h0, r0⟩ := trodAll_cons hA
  obtain ⟨v1, vs1, d1, ds1, p1, q1, rfl, rfl, rfl, h1, r1⟩ := trodAll_cons r0
  obtain ⟨v2, vs2, d2, ds2, p2, q2, rfl, rfl, rfl, h2, r2⟩ := trodAll_cons r1
  obtain ⟨v3, vs3, d3, ds3, p3, q3, rfl, rfl, rfl, h3, r3⟩ := trodAll_cons r2
  obtain ⟨v4, vs4, d4, ds4, p4, q4, rfl, rfl, rfl, h4, r4⟩ := trodAll_cons r3
  obtain ⟨v5, vs5, d5, ds5, p5, q5, rfl, rfl, rfl, h5, r5⟩ := trodAll_cons r4
  obtain ⟨rfl, rfl, rfl⟩ := trodAll_nil r5
  obtain rfl : args = #[v0, v1, v2, v3, v4, v5] := by cases args; simp_all
  obtain ⟨rfl, rfl⟩ := trodVars_none hV
  obtain ⟨a0, len0, cap0, rfl⟩ := okWide_slice Try.underlying22 (hval 0 22 v0 rfl rfl)
  have k0 := h0
  have lt0 : ∀ x ∈ p0, x.block < W.heap.size := by obtain ⟨m, hm⟩ := k0; exact DataW.trod_lt m _ _ _ hm
  obtain ⟨l0, w0⟩ := open_bytes u8 (by kernel_rfl) (by kernel_rfl) h0 hsz (j := 0) rfl rfl
  obtain ⟨a1, len1, cap1, rfl⟩ := okWide_slice Try.underlying22 (hval 1 22 v1 rfl rfl)
  have k1 := h1
  have lt1 : ∀ x ∈ p1, x.block < W.heap.size := by obtain ⟨m, hm⟩ := k1; exact DataW.trod_lt m _ _ _ hm
  obtain ⟨l1, w1⟩ := open_bytes u8 (by kernel_rfl) (by kernel_rfl) h1 hsz (j := 1) rfl rfl
  obtain ⟨a3, len3, cap3, rfl⟩ := okWide_slice Try.underlying22 (hval 3 22 v3 rfl rfl)
  have k3 := h3
  have lt3 : ∀ x ∈ p3, x.block < W.heap.size := by obtain ⟨m, hm⟩ := k3; exact DataW.trod_lt m _ _ _ hm
  obtain ⟨l3, w3⟩ := open_bytes u8 (by kernel_rfl) (by kernel_rfl) h3 hsz (j := 3) rfl rfl
  obtain ⟨a4, len4, cap4, rfl⟩ := okWide_slice Try.underlying22 (hval 4 22 v4 rfl rfl)
  have k4 := h4
  have lt4 : ∀ x ∈ p4, x.block < W.heap.size := by obtain ⟨m, hm⟩ := k4; exact DataW.trod_lt m _ _ _ hm
  obtain ⟨l4, w4⟩ := open_bytes u8 (by kernel_rfl) (by kernel_rfl) h4 hsz (j := 4) rfl rfl
  obtain ⟨a5, len5, cap5, rfl⟩ := okWide_slice Try.underlying22 (hval 5 22 v5 rfl rfl)
  have k5 := h5
  have lt5 : ∀ x ∈ p5, x.block < W.heap.size := by obtain ⟨m, hm⟩ := k5; exact DataW.trod_lt m _ _ _ hm
  obtain ⟨l5, w5⟩ := open_bytes u8 (by kernel_rfl) (by kernel_rfl) h5 hsz (j := 5) rfl rfl
  clear hsz
  obtain ⟨a2, rfl, rfl, rfl, w2⟩ := open_int Try.underlying3 (hval 2 3 v2 rfl rfl) h2
  clear hA0 hval0
  simp only [List.append_nil] at hW'
  refine (walk a0 len0 cap0 l0 a1 len1 cap1 l1 a2 a3 len3 cap3 l3 a4 len4 cap4 l4 a5 len5 cap5 l5 W w0 w1 w2 w3 w4 w5).mono fun e W' ⟨he, bel⟩ => ?_
  subst he
  exact ⟨_, rfl, _, _, _, [], _, [], hW', trodAll_mk1 (shut_bool Try.underlying4 _), (trodAll_cons_mk (Below.trod laidOut (by kernel_rfl) (of_decide_eq_true (by kernel_rfl)) k0 bel lt0) (trodAll_cons_mk (Below.trod laidOut (by kernel_rfl) (of_decide_eq_true (by kernel_rfl)) k1 bel lt1) (trodAll_cons_mk (shut_int Try.underlying3 w2) (trodAll_cons_mk (Below.trod laidOut (by kernel_rfl) (of_decide_eq_true (by kernel_rfl)) k3 bel lt3) (trodAll_cons_mk (Below.trod laidOut (by kernel_rfl) (of_decide_eq_true (by kernel_rfl)) k4 bel lt4) (trodAll_cons_mk (Below.trod laidOut (by kernel_rfl) (of_decide_eq_true (by kernel_rfl)) k5 bel lt5) trodAll_mk0)))))), rfl, bel.frame _, fun h => by cases h⟩

theorem over : Rows.boxBackRow.holds Try.pinned (OpenSpec.ofChange Rows.boxBackSpec) :=
  OpenClaim.holds_of_wide 13 Try.f13 rfl rfl rfl rfl rfl rfl rfl ⟨rfl, rfl, rfl, rfl, rfl⟩ rfl rfl rfl rfl rfl (by kernel_rfl) Try.func13 (by kernel_rfl)
    (of_decide_eq_true (by kernel_rfl)) (by unfold Func.isWrapper; first | (rw [if_pos (by decide +kernel)]; kernel_rfl) | (rw [if_neg (by decide +kernel)]; exact ⟨rfl, rfl⟩))
    (fun os started H enc _ => lifted os started H enc)

theorem proved : Rows.BoxBackSaid := over
end Go.Proofs.Ytcbihjcnnfohmaa.boxBack
