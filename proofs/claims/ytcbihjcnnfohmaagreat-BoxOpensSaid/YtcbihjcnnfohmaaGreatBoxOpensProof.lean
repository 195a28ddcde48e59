/- The law 'BoxOpens' answers true for every input, and its arguments read afterwards as before; no condition. The frame follows the kit's skeleton; the walk is ours. -/
import Derived.Test.YtcbihjcnnfohmaaGreatRows
import Derived.Test.YtcbihjcnnfohmaaGreatMemAll
import Derived.Test.YtcbihjcnnfohmaaGreatBoxFour
import Derived.WalkKit
import Derived.ProofKit
import Derived.OpenShut
import Derived.ShutString
import Derived.ChangeOld
import Derived.Below
import Derived.SizedLaws
namespace Go.Proofs.YtcbihjcnnfohmaaGreat.boxOpens
open Go.ChangeShapes Go.WideShapes Go.ChangeAt Go.RowKit
set_option linter.unusedVariables false

theorem own : ownKnob Tryz.prog.godebug = none := by kernel_rfl
theorem laidOut : laidOutB Tryz.prog = true := by kernel_rfl

open Aes Str Mac Box Room
set_option linter.unusedSimpArgs false

set_option maxRecDepth 100000 in
set_option maxHeartbeats 4000000 in
theorem walk (a0 : Option Addr) (len0 cap0 : Nat) (l0 : List UInt8) (a1 : Option Addr) (len1 cap1 : Nat) (l1 : List UInt8) (a2 : Option Addr) (len2 cap2 : Nat) (l2 : List UInt8) (a3 : Option Addr) (len3 cap3 : Nat) (l3 : List UInt8) (w : World) (w0 : ArgB w a0 len0 cap0 l0) (w1 : ArgB w a1 len1 cap1 l1) (w2 : ArgB w a2 len2 cap2 l2) (w3 : ArgB w a3 len3 cap3 l3) :
    Calls Tryz.prog 4 #[.slice a0 len0 cap0, .slice a1 len1 cap1, .slice a2 len2 cap2, .slice a3 len3 cap3] w fun e w' => e = .returned (.bool true) ∧ Below w.heap.size w w' := by
  obtain ⟨hl0, hf0, hm0, hr0⟩ := w0
  have HL0 := Lib.hid hl0
  have HR0 := Lib.hid hr0
  clear hl0 hr0
  obtain ⟨hl1, hf1, hm1, hr1⟩ := w1
  have HL1 := Lib.hid hl1
  have HR1 := Lib.hid hr1
  clear hl1 hr1
  obtain ⟨hl2, hf2, hm2, hr2⟩ := w2
  have HL2 := Lib.hid hl2
  have HR2 := Lib.hid hr2
  clear hl2 hr2
  obtain ⟨hl3, hf3, hm3, hr3⟩ := w3
  have HL3 := Lib.hid hl3
  have HR3 := Lib.hid hr3
  clear hl3 hr3
  by_cases hfit : len0 ≤ 1024 ∧ len1 ≤ 1024 ∧ len2 ≤ 1024 ∧ len3 ≤ 1024
  · have HFIT := Lib.hid hfit
    obtain ⟨F0, F1, F2, F3⟩ := hfit
    by_cases hk : KeyOk l0
    · have HK := Lib.hid hk
      clear hk
      go_enter Tryz.func4, Tryz.ntmps4
      go_wp2_with fail
      refine (Box.small_any _).mono ?_
      rintro e w1 ⟨rfl, hb1⟩
      have hbW := hb1.alloc hb1.size (.cells #[.slice a0 len0 cap0, .slice a1 len1 cap1, .slice a2 len2 cap2, .slice a3 len3 cap3] 22)
      have hcl : ∀ j (hj : j < ([(⟨a0, len0, cap0, l0⟩ : Part), ⟨a1, len1, cap1, l1⟩, ⟨a2, len2, cap2, l2⟩, ⟨a3, len3, cap3, l3⟩] : List Part).length), (w1.alloc (.cells #[.slice a0 len0 cap0, .slice a1 len1 cap1, .slice a2 len2 cap2, .slice a3 len3 cap3] 22)).cell? ⟨w1.heap.size, j, none⟩ = some ([(⟨a0, len0, cap0, l0⟩ : Part), ⟨a1, len1, cap1, l1⟩, ⟨a2, len2, cap2, l2⟩, ⟨a3, len3, cap3, l3⟩] : List Part)[j].val := lits_cell 22 [(⟨a0, len0, cap0, l0⟩ : Part), ⟨a1, len1, cap1, l1⟩, ⟨a2, len2, cap2, l2⟩, ⟨a3, len3, cap3, l3⟩]
      have HCL := Lib.hid hcl
      clear hcl
      go_wp2_with fail
      refine (fits_any w1.heap.size 4 4 [(⟨a0, len0, cap0, l0⟩ : Part), ⟨a1, len1, cap1, l1⟩, ⟨a2, len2, cap2, l2⟩, ⟨a3, len3, cap3, l3⟩] _ rfl (by omega) HCL.out true (decide_eq_true (by simp only [List.mem_cons, List.not_mem_nil, or_false, forall_eq_or_imp, forall_eq]; exact HFIT.out)).symm).mono ?_
      rintro e w2 ⟨rfl, rfl⟩
      clear HCL
      generalize w1.alloc (.cells #[.slice a0 len0 cap0, .slice a1 len1 cap1, .slice a2 len2 cap2, .slice a3 len3 cap3] 22) = W1 at hbW ⊢
      have HB1 := Lib.hid hbW
      clear hbW hb1
      go_wp2_with fail
      refine (lent_any a3 len3 cap3 l3 W1 w.heap.size HB1.out.size HL3.out (by omega) (HR3.out.below HB1.out)).mono ?_
      rintro e w2 ⟨rfl, hrow, hb2⟩
      have hz2 := hb2.size
      have hg2 : W1.heap.size < w2.heap.size := hrow.lt
      have HB2 := Lib.hid (HB1.out.trans (hb2.mono HB1.out.size))
      have HW2 := Lib.hid hrow
      clear hrow hb2
      go_wp2_with fail
      by_cases hL : len3 < 24
      · refine (open_short a0 len0 cap0 l0 a1 len1 cap1 a2 len2 cap2 (some ⟨W1.heap.size, 0, none⟩) len3 (len3 + 1) w2 HL0.out (rd_now HR0.out HB2.out) HK.out hL).mono ?_
        rintro e w3 ⟨rfl, hb3⟩
        have HB3 := Lib.hid (HB2.out.trans (hb3.mono HB2.out.size))
        have hz3 := hb3.size
        have HI3 := Lib.hid (HW2.out.below hb3 hg2)
        clear hb3
        go_wp2_with fail
        refine (refopen_short a0 len0 cap0 l0 a1 len1 cap1 a2 len2 cap2 a3 len3 cap3 w3 HL0.out hf0 (rd_now HR0.out HB3.out) HK.out hL).mono ?_
        rintro e w4 ⟨rfl, hb4⟩
        have HB4 := Lib.hid (HB3.out.trans (hb4.mono HB3.out.size))
        have hz4 := hb4.size
        have HI4 := Lib.hid (HI3.out.below hb4 (by omega))
        have sx := nil_str w4
        clear hb4
        generalize str [] = ts at *
        go_wp2_with fail
        refine (kept_any a3 len3 cap3 W1.heap.size l3 w4 w.heap.size HL3.out (by omega) (HR3.out.below HB4.out) HI4.out).mono ?_
        rintro e w6 ⟨rfl, rfl⟩
        go_wp2_with fail
        clear sx
        have qi : RowIn w4 ⟨some W1.heap.size, len3, len3 + 1⟩ W1.heap.size (W1.heap.size + 1) := orow_row HI4.out (by omega) (by rw [List.length_append, HL3.out]; rfl) (by omega)
        have hzW := HB1.out.size
        refine (owned2_any w4 w.heap.size (.slice none 0 0) (.slice (some ⟨W1.heap.size, 0, none⟩) len3 (len3 + 1)) ⟨none, 0, 0⟩ ⟨some W1.heap.size, len3, len3 + 1⟩ 0 0 W1.heap.size (W1.heap.size + 1) rfl rfl (rowin_nil _ _ _) qi (by omega) (by omega) (by omega) (.inl rfl) hzW (by omega)).mono ?_
        rintro e w9 ⟨rfl, hb9⟩
        have HB9 := Lib.hid (HB4.out.trans hb9)
        clear hb9 qi
        go_wp2_with fail
        go_ret
        exact ⟨rfl, HB9.out⟩
        
      · by_cases hop : Opens l1 l2 l3
        · have HOP := Lib.hid hop
          clear hop
          refine (open_yes a0 len0 cap0 l0 a1 len1 cap1 l1 a2 len2 cap2 l2 (some ⟨W1.heap.size, 0, none⟩) len3 (len3 + 1) l3 w2 HL0.out (rd_now HR0.out HB2.out) HK.out HL1.out (by omega) (rd_now HR1.out HB2.out) HL2.out (by omega) hf2 (by omega) (rd_now HR2.out HB2.out) HL3.out (by omega) (by omega) (by omega) (by omega) HW2.out.rd_take HOP.out).mono ?_
          rintro e w3 ⟨v3, rfl, hO3, hb3⟩
          have HB3 := Lib.hid (HB2.out.trans (hb3.mono HB2.out.size))
          have hz3 := hb3.size
          have HI3 := Lib.hid (HW2.out.below hb3 hg2)
          have HO3 := Lib.hid hO3
          obtain ⟨A3, c3, hv3, _, _⟩ := hO3.form
          subst hv3
          clear hb3 hO3
          go_wp2_with fail
          refine (refopen_yes a0 len0 cap0 l0 a1 len1 cap1 l1 a2 len2 cap2 l2 a3 len3 cap3 l3 w3 HL0.out hf0 (rd_now HR0.out HB3.out) HK.out HL1.out (by omega) (rd_now HR1.out HB3.out) HL2.out (by omega) (rd_now HR2.out HB3.out) HL3.out (by omega) (by omega) hf3 (rd_now HR3.out HB3.out) HOP.out).mono ?_
          rintro e w4 ⟨v4, rfl, hO4, hb4⟩
          have HB4 := Lib.hid (HB3.out.trans (hb4.mono HB3.out.size))
          have hz4 := hb4.size
          have HI4 := Lib.hid (HI3.out.below hb4 (by omega))
          have HO4 := Lib.hid (HO3.out.below hb4)
          obtain ⟨A4, c4, hv4, hr4, _⟩ := OwnB.form hO4
          subst hv4
          have sx := own_str HO4.out
          have sy := arg_str (c := c4) rfl hr4 (Below.refl _ _)
          obtain ⟨r4, hxe, hR4⟩ := orow HO4.out
          have HXE := Lib.hid hxe
          have HXR := Lib.hid hR4
          clear hb4 hO4 hr4 HO3 hxe hR4
          generalize num ((bodyL l3).take 8) = N at *
          generalize xorS l0 N 0 ((bodyL l3).drop 8) = Q at *
          generalize str Q = ts at *
          generalize Q.length = m at *
          go_wp2_with fail
          refine (kept_any a3 len3 cap3 W1.heap.size l3 w4 w.heap.size HL3.out (by omega) (HR3.out.below HB4.out) HI4.out).mono ?_
          rintro e w6 ⟨rfl, rfl⟩
          go_wp2_with fail
          clear sx sy
          have qi : RowIn w4 ⟨some W1.heap.size, len3, len3 + 1⟩ W1.heap.size (W1.heap.size + 1) := orow_row HI4.out (by omega) (by rw [List.length_append, HL3.out]; rfl) (by omega)
          have hzW := HB1.out.size
          refine (owned2_any w4 w.heap.size (.slice A3 m c3) (.slice (some ⟨W1.heap.size, 0, none⟩) len3 (len3 + 1)) r4 ⟨some W1.heap.size, len3, len3 + 1⟩ w2.heap.size w4.heap.size W1.heap.size (W1.heap.size + 1) HXE.out rfl HXR.out qi (by omega) (by omega) (by omega) (.inr (by omega)) hzW (by omega)).mono ?_
          rintro e w9 ⟨rfl, hb9⟩
          have HB9 := Lib.hid (HB4.out.trans hb9)
          clear hb9 qi
          go_wp2_with fail
          go_ret
          exact ⟨rfl, HB9.out⟩
        · by_cases htag : tagL l1 l2 (bodyL l3) = endL l3
          · have HBG := Lib.hid (not_opens hop htag)
            have HTG := Lib.hid htag
            clear hop htag
            refine (open_big a0 len0 cap0 l0 a1 len1 cap1 l1 a2 len2 cap2 l2 (some ⟨W1.heap.size, 0, none⟩) len3 (len3 + 1) l3 w2 HL0.out (rd_now HR0.out HB2.out) HK.out HL1.out (by omega) (rd_now HR1.out HB2.out) HL2.out (by omega) hf2 (by omega) (rd_now HR2.out HB2.out) HL3.out (by omega) (by omega) (by omega) (by omega) HW2.out.rd_take HTG.out HBG.out).mono ?_
            rintro e w3 ⟨rfl, hb3⟩
            have HB3 := Lib.hid (HB2.out.trans (hb3.mono HB2.out.size))
            have hz3 := hb3.size
            have HI3 := Lib.hid (HW2.out.below hb3 hg2)
            clear hb3
            go_wp2_with fail
            refine (refopen_big a0 len0 cap0 l0 a1 len1 cap1 l1 a2 len2 cap2 l2 a3 len3 cap3 l3 w3 HL0.out hf0 (rd_now HR0.out HB3.out) HK.out HL1.out (by omega) (rd_now HR1.out HB3.out) HL2.out (by omega) (rd_now HR2.out HB3.out) HL3.out (by omega) (by omega) hf3 (rd_now HR3.out HB3.out) HTG.out HBG.out).mono ?_
            rintro e w4 ⟨rfl, hb4⟩
            have HB4 := Lib.hid (HB3.out.trans (hb4.mono HB3.out.size))
            have hz4 := hb4.size
            have HI4 := Lib.hid (HI3.out.below hb4 (by omega))
            have sx := nil_str w4
            clear hb4
            generalize str [] = ts at *
            go_wp2_with fail
            refine (kept_any a3 len3 cap3 W1.heap.size l3 w4 w.heap.size HL3.out (by omega) (HR3.out.below HB4.out) HI4.out).mono ?_
            rintro e w6 ⟨rfl, rfl⟩
            go_wp2_with fail
            clear sx
            have qi : RowIn w4 ⟨some W1.heap.size, len3, len3 + 1⟩ W1.heap.size (W1.heap.size + 1) := orow_row HI4.out (by omega) (by rw [List.length_append, HL3.out]; rfl) (by omega)
            have hzW := HB1.out.size
            refine (owned2_any w4 w.heap.size (.slice none 0 0) (.slice (some ⟨W1.heap.size, 0, none⟩) len3 (len3 + 1)) ⟨none, 0, 0⟩ ⟨some W1.heap.size, len3, len3 + 1⟩ 0 0 W1.heap.size (W1.heap.size + 1) rfl rfl (rowin_nil _ _ _) qi (by omega) (by omega) (by omega) (.inl rfl) hzW (by omega)).mono ?_
            rintro e w9 ⟨rfl, hb9⟩
            have HB9 := Lib.hid (HB4.out.trans hb9)
            clear hb9 qi
            go_wp2_with fail
            go_ret
            exact ⟨rfl, HB9.out⟩
          · have HTG := Lib.hid htag
            clear hop htag
            refine (open_tag a0 len0 cap0 l0 a1 len1 cap1 l1 a2 len2 cap2 l2 (some ⟨W1.heap.size, 0, none⟩) len3 (len3 + 1) l3 w2 HL0.out (rd_now HR0.out HB2.out) HK.out HL1.out (by omega) (rd_now HR1.out HB2.out) HL2.out (by omega) hf2 (by omega) (rd_now HR2.out HB2.out) HL3.out (by omega) (by omega) (by omega) (by omega) HW2.out.rd_take HTG.out).mono ?_
            rintro e w3 ⟨rfl, hb3⟩
            have HB3 := Lib.hid (HB2.out.trans (hb3.mono HB2.out.size))
            have hz3 := hb3.size
            have HI3 := Lib.hid (HW2.out.below hb3 hg2)
            clear hb3
            go_wp2_with fail
            refine (refopen_tag a0 len0 cap0 l0 a1 len1 cap1 l1 a2 len2 cap2 l2 a3 len3 cap3 l3 w3 HL0.out hf0 (rd_now HR0.out HB3.out) HK.out HL1.out (by omega) (rd_now HR1.out HB3.out) HL2.out (by omega) (rd_now HR2.out HB3.out) HL3.out (by omega) (by omega) hf3 (rd_now HR3.out HB3.out) HTG.out).mono ?_
            rintro e w4 ⟨rfl, hb4⟩
            have HB4 := Lib.hid (HB3.out.trans (hb4.mono HB3.out.size))
            have hz4 := hb4.size
            have HI4 := Lib.hid (HI3.out.below hb4 (by omega))
            have sx := nil_str w4
            clear hb4
            generalize str [] = ts at *
            go_wp2_with fail
            refine (kept_any a3 len3 cap3 W1.heap.size l3 w4 w.heap.size HL3.out (by omega) (HR3.out.below HB4.out) HI4.out).mono ?_
            rintro e w6 ⟨rfl, rfl⟩
            go_wp2_with fail
            clear sx
            have qi : RowIn w4 ⟨some W1.heap.size, len3, len3 + 1⟩ W1.heap.size (W1.heap.size + 1) := orow_row HI4.out (by omega) (by rw [List.length_append, HL3.out]; rfl) (by omega)
            have hzW := HB1.out.size
            refine (owned2_any w4 w.heap.size (.slice none 0 0) (.slice (some ⟨W1.heap.size, 0, none⟩) len3 (len3 + 1)) ⟨none, 0, 0⟩ ⟨some W1.heap.size, len3, len3 + 1⟩ 0 0 W1.heap.size (W1.heap.size + 1) rfl rfl (rowin_nil _ _ _) qi (by omega) (by omega) (by omega) (.inl rfl) hzW (by omega)).mono ?_
            rintro e w9 ⟨rfl, hb9⟩
            have HB9 := Lib.hid (HB4.out.trans hb9)
            clear hb9 qi
            go_wp2_with fail
            go_ret
            exact ⟨rfl, HB9.out⟩
    · have HK := Lib.hid hk
      clear hk
      go_enter Tryz.func4, Tryz.ntmps4
      go_wp2_with fail
      refine (Box.small_any _).mono ?_
      rintro e w1 ⟨rfl, hb1⟩
      have hbW := hb1.alloc hb1.size (.cells #[.slice a0 len0 cap0, .slice a1 len1 cap1, .slice a2 len2 cap2, .slice a3 len3 cap3] 22)
      have hcl : ∀ j (hj : j < ([(⟨a0, len0, cap0, l0⟩ : Part), ⟨a1, len1, cap1, l1⟩, ⟨a2, len2, cap2, l2⟩, ⟨a3, len3, cap3, l3⟩] : List Part).length), (w1.alloc (.cells #[.slice a0 len0 cap0, .slice a1 len1 cap1, .slice a2 len2 cap2, .slice a3 len3 cap3] 22)).cell? ⟨w1.heap.size, j, none⟩ = some ([(⟨a0, len0, cap0, l0⟩ : Part), ⟨a1, len1, cap1, l1⟩, ⟨a2, len2, cap2, l2⟩, ⟨a3, len3, cap3, l3⟩] : List Part)[j].val := lits_cell 22 [(⟨a0, len0, cap0, l0⟩ : Part), ⟨a1, len1, cap1, l1⟩, ⟨a2, len2, cap2, l2⟩, ⟨a3, len3, cap3, l3⟩]
      have HCL := Lib.hid hcl
      clear hcl
      go_wp2_with fail
      refine (fits_any w1.heap.size 4 4 [(⟨a0, len0, cap0, l0⟩ : Part), ⟨a1, len1, cap1, l1⟩, ⟨a2, len2, cap2, l2⟩, ⟨a3, len3, cap3, l3⟩] _ rfl (by omega) HCL.out true (decide_eq_true (by simp only [List.mem_cons, List.not_mem_nil, or_false, forall_eq_or_imp, forall_eq]; exact HFIT.out)).symm).mono ?_
      rintro e w2 ⟨rfl, rfl⟩
      clear HCL
      generalize w1.alloc (.cells #[.slice a0 len0 cap0, .slice a1 len1 cap1, .slice a2 len2 cap2, .slice a3 len3 cap3] 22) = W1 at hbW ⊢
      have HB1 := Lib.hid hbW
      clear hbW hb1
      go_wp2_with fail
      refine (lent_any a3 len3 cap3 l3 W1 w.heap.size HB1.out.size HL3.out (by omega) (HR3.out.below HB1.out)).mono ?_
      rintro e w2 ⟨rfl, hrow, hb2⟩
      have hz2 := hb2.size
      have hg2 : W1.heap.size < w2.heap.size := hrow.lt
      have HB2 := Lib.hid (HB1.out.trans (hb2.mono HB1.out.size))
      have HW2 := Lib.hid hrow
      clear hrow hb2
      go_wp2_with fail
      refine (open_no1 a0 len0 cap0 l0 a1 len1 cap1 a2 len2 cap2 (some ⟨W1.heap.size, 0, none⟩) len3 (len3 + 1) w2 HL0.out HK.out).mono ?_
      rintro e w3 ⟨rfl, rfl⟩
      obtain ⟨w3, rfl⟩ : ∃ w3, w3 = w2 := ⟨_, rfl⟩
      have hb3 : Below w3.heap.size w3 w3 := Below.refl _ _
      have HB3 := HB2
      have hz3 := hb3.size
      have HI3 := Lib.hid (HW2.out)
      clear hb3
      go_wp2_with fail
      refine (refopen_no1 a0 len0 cap0 l0 a1 len1 cap1 a2 len2 cap2 a3 len3 cap3 w3 HL0.out HK.out).mono ?_
      rintro e w4 ⟨rfl, rfl⟩
      obtain ⟨w4, rfl⟩ : ∃ w4, w4 = w3 := ⟨_, rfl⟩
      have hb4 : Below w4.heap.size w4 w4 := Below.refl _ _
      have HB4 := HB3
      have hz4 := hb4.size
      have HI4 := Lib.hid (HI3.out)
      have sx := nil_str w4
      clear hb4
      generalize str [] = ts at *
      go_wp2_with fail
      refine (kept_any a3 len3 cap3 W1.heap.size l3 w4 w.heap.size HL3.out (by omega) (HR3.out.below HB4.out) HI4.out).mono ?_
      rintro e w6 ⟨rfl, rfl⟩
      go_wp2_with fail
      clear sx
      have qi : RowIn w4 ⟨some W1.heap.size, len3, len3 + 1⟩ W1.heap.size (W1.heap.size + 1) := orow_row HI4.out (by omega) (by rw [List.length_append, HL3.out]; rfl) (by omega)
      have hzW := HB1.out.size
      refine (owned2_any w4 w.heap.size (.slice none 0 0) (.slice (some ⟨W1.heap.size, 0, none⟩) len3 (len3 + 1)) ⟨none, 0, 0⟩ ⟨some W1.heap.size, len3, len3 + 1⟩ 0 0 W1.heap.size (W1.heap.size + 1) rfl rfl (rowin_nil _ _ _) qi (by omega) (by omega) (by omega) (.inl rfl) hzW (by omega)).mono ?_
      rintro e w9 ⟨rfl, hb9⟩
      have HB9 := Lib.hid (HB4.out.trans hb9)
      clear hb9 qi
      go_wp2_with fail
      go_ret
      exact ⟨rfl, HB9.out⟩
  · have HFIT := Lib.hid hfit
    clear hfit
    by_cases hL : len3 ≤ 65560
    · have dL : decide ((len3 : Int) ≤ 65560) = true := decide_eq_true (by omega)
      go_enter Tryz.func4, Tryz.ntmps4
      go_wp2_with fail
      refine (Box.small_any _).mono ?_
      rintro e w1 ⟨rfl, hb1⟩
      have hbW := hb1.alloc hb1.size (.cells #[.slice a0 len0 cap0, .slice a1 len1 cap1, .slice a2 len2 cap2, .slice a3 len3 cap3] 22)
      have hcl : ∀ j (hj : j < ([(⟨a0, len0, cap0, l0⟩ : Part), ⟨a1, len1, cap1, l1⟩, ⟨a2, len2, cap2, l2⟩, ⟨a3, len3, cap3, l3⟩] : List Part).length), (w1.alloc (.cells #[.slice a0 len0 cap0, .slice a1 len1 cap1, .slice a2 len2 cap2, .slice a3 len3 cap3] 22)).cell? ⟨w1.heap.size, j, none⟩ = some ([(⟨a0, len0, cap0, l0⟩ : Part), ⟨a1, len1, cap1, l1⟩, ⟨a2, len2, cap2, l2⟩, ⟨a3, len3, cap3, l3⟩] : List Part)[j].val := lits_cell 22 [(⟨a0, len0, cap0, l0⟩ : Part), ⟨a1, len1, cap1, l1⟩, ⟨a2, len2, cap2, l2⟩, ⟨a3, len3, cap3, l3⟩]
      have HCL := Lib.hid hcl
      clear hcl
      go_wp2_with fail
      refine (fits_any w1.heap.size 4 4 [(⟨a0, len0, cap0, l0⟩ : Part), ⟨a1, len1, cap1, l1⟩, ⟨a2, len2, cap2, l2⟩, ⟨a3, len3, cap3, l3⟩] _ rfl (by omega) HCL.out false (decide_eq_false (by simp only [List.mem_cons, List.not_mem_nil, or_false, forall_eq_or_imp, forall_eq]; exact HFIT.out)).symm).mono ?_
      rintro e w2 ⟨rfl, rfl⟩
      clear HCL
      generalize w1.alloc (.cells #[.slice a0 len0 cap0, .slice a1 len1 cap1, .slice a2 len2 cap2, .slice a3 len3 cap3] 22) = W1 at hbW ⊢
      have HB1 := Lib.hid hbW
      clear hbW hb1
      go_wp2_with fail
      go_ret
      exact ⟨rfl, HB1.out⟩
    · have dL : decide ((len3 : Int) ≤ 65560) = false := decide_eq_false (by omega)
      by_cases hk : KeyOk l0
      · have HK := Lib.hid hk
        clear hk
        go_enter Tryz.func4, Tryz.ntmps4
        go_wp2_with fail
        refine (Box.small_any _).mono ?_
        rintro e w1 ⟨rfl, hb1⟩
        have hbW := hb1.alloc hb1.size (.cells #[.slice a0 len0 cap0, .slice a1 len1 cap1, .slice a2 len2 cap2, .slice a3 len3 cap3] 22)
        have hcl : ∀ j (hj : j < ([(⟨a0, len0, cap0, l0⟩ : Part), ⟨a1, len1, cap1, l1⟩, ⟨a2, len2, cap2, l2⟩, ⟨a3, len3, cap3, l3⟩] : List Part).length), (w1.alloc (.cells #[.slice a0 len0 cap0, .slice a1 len1 cap1, .slice a2 len2 cap2, .slice a3 len3 cap3] 22)).cell? ⟨w1.heap.size, j, none⟩ = some ([(⟨a0, len0, cap0, l0⟩ : Part), ⟨a1, len1, cap1, l1⟩, ⟨a2, len2, cap2, l2⟩, ⟨a3, len3, cap3, l3⟩] : List Part)[j].val := lits_cell 22 [(⟨a0, len0, cap0, l0⟩ : Part), ⟨a1, len1, cap1, l1⟩, ⟨a2, len2, cap2, l2⟩, ⟨a3, len3, cap3, l3⟩]
        have HCL := Lib.hid hcl
        clear hcl
        go_wp2_with fail
        refine (fits_any w1.heap.size 4 4 [(⟨a0, len0, cap0, l0⟩ : Part), ⟨a1, len1, cap1, l1⟩, ⟨a2, len2, cap2, l2⟩, ⟨a3, len3, cap3, l3⟩] _ rfl (by omega) HCL.out false (decide_eq_false (by simp only [List.mem_cons, List.not_mem_nil, or_false, forall_eq_or_imp, forall_eq]; exact HFIT.out)).symm).mono ?_
        rintro e w2 ⟨rfl, rfl⟩
        clear HCL
        generalize w1.alloc (.cells #[.slice a0 len0 cap0, .slice a1 len1 cap1, .slice a2 len2 cap2, .slice a3 len3 cap3] 22) = W1 at hbW ⊢
        have HB1 := Lib.hid hbW
        clear hbW hb1
        go_wp2_with fail
        refine (lent_any a3 len3 cap3 l3 W1 w.heap.size HB1.out.size HL3.out (by omega) (HR3.out.below HB1.out)).mono ?_
        rintro e w2 ⟨rfl, hrow, hb2⟩
        have hz2 := hb2.size
        have hg2 : W1.heap.size < w2.heap.size := hrow.lt
        have HB2 := Lib.hid (HB1.out.trans (hb2.mono HB1.out.size))
        have HW2 := Lib.hid hrow
        clear hrow hb2
        go_wp2_with fail
        refine (open_long a0 len0 cap0 l0 a1 len1 cap1 a2 len2 cap2 (some ⟨W1.heap.size, 0, none⟩) len3 (len3 + 1) w2 HL0.out (rd_now HR0.out HB2.out) HK.out (by omega)).mono ?_
        rintro e w3 ⟨rfl, hb3⟩
        have HB3 := Lib.hid (HB2.out.trans (hb3.mono HB2.out.size))
        have hz3 := hb3.size
        have HI3 := Lib.hid (HW2.out.below hb3 hg2)
        clear hb3
        go_wp2_with fail
        refine (refopen_long a0 len0 cap0 l0 a1 len1 cap1 a2 len2 cap2 a3 len3 cap3 w3 HL0.out hf0 (rd_now HR0.out HB3.out) HK.out (by omega)).mono ?_
        rintro e w4 ⟨rfl, hb4⟩
        have HB4 := Lib.hid (HB3.out.trans (hb4.mono HB3.out.size))
        have hz4 := hb4.size
        have HI4 := Lib.hid (HI3.out.below hb4 (by omega))
        have sx := nil_str w4
        clear hb4
        generalize str [] = ts at *
        go_wp2_with fail
        refine (kept_any a3 len3 cap3 W1.heap.size l3 w4 w.heap.size HL3.out (by omega) (HR3.out.below HB4.out) HI4.out).mono ?_
        rintro e w6 ⟨rfl, rfl⟩
        go_wp2_with fail
        clear sx
        have qi : RowIn w4 ⟨some W1.heap.size, len3, len3 + 1⟩ W1.heap.size (W1.heap.size + 1) := orow_row HI4.out (by omega) (by rw [List.length_append, HL3.out]; rfl) (by omega)
        have hzW := HB1.out.size
        refine (owned2_any w4 w.heap.size (.slice none 0 0) (.slice (some ⟨W1.heap.size, 0, none⟩) len3 (len3 + 1)) ⟨none, 0, 0⟩ ⟨some W1.heap.size, len3, len3 + 1⟩ 0 0 W1.heap.size (W1.heap.size + 1) rfl rfl (rowin_nil _ _ _) qi (by omega) (by omega) (by omega) (.inl rfl) hzW (by omega)).mono ?_
        rintro e w9 ⟨rfl, hb9⟩
        have HB9 := Lib.hid (HB4.out.trans hb9)
        clear hb9 qi
        go_wp2_with fail
        go_ret
        exact ⟨rfl, HB9.out⟩
      · have HK := Lib.hid hk
        clear hk
        go_enter Tryz.func4, Tryz.ntmps4
        go_wp2_with fail
        refine (Box.small_any _).mono ?_
        rintro e w1 ⟨rfl, hb1⟩
        have hbW := hb1.alloc hb1.size (.cells #[.slice a0 len0 cap0, .slice a1 len1 cap1, .slice a2 len2 cap2, .slice a3 len3 cap3] 22)
        have hcl : ∀ j (hj : j < ([(⟨a0, len0, cap0, l0⟩ : Part), ⟨a1, len1, cap1, l1⟩, ⟨a2, len2, cap2, l2⟩, ⟨a3, len3, cap3, l3⟩] : List Part).length), (w1.alloc (.cells #[.slice a0 len0 cap0, .slice a1 len1 cap1, .slice a2 len2 cap2, .slice a3 len3 cap3] 22)).cell? ⟨w1.heap.size, j, none⟩ = some ([(⟨a0, len0, cap0, l0⟩ : Part), ⟨a1, len1, cap1, l1⟩, ⟨a2, len2, cap2, l2⟩, ⟨a3, len3, cap3, l3⟩] : List Part)[j].val := lits_cell 22 [(⟨a0, len0, cap0, l0⟩ : Part), ⟨a1, len1, cap1, l1⟩, ⟨a2, len2, cap2, l2⟩, ⟨a3, len3, cap3, l3⟩]
        have HCL := Lib.hid hcl
        clear hcl
        go_wp2_with fail
        refine (fits_any w1.heap.size 4 4 [(⟨a0, len0, cap0, l0⟩ : Part), ⟨a1, len1, cap1, l1⟩, ⟨a2, len2, cap2, l2⟩, ⟨a3, len3, cap3, l3⟩] _ rfl (by omega) HCL.out false (decide_eq_false (by simp only [List.mem_cons, List.not_mem_nil, or_false, forall_eq_or_imp, forall_eq]; exact HFIT.out)).symm).mono ?_
        rintro e w2 ⟨rfl, rfl⟩
        clear HCL
        generalize w1.alloc (.cells #[.slice a0 len0 cap0, .slice a1 len1 cap1, .slice a2 len2 cap2, .slice a3 len3 cap3] 22) = W1 at hbW ⊢
        have HB1 := Lib.hid hbW
        clear hbW hb1
        go_wp2_with fail
        refine (lent_any a3 len3 cap3 l3 W1 w.heap.size HB1.out.size HL3.out (by omega) (HR3.out.below HB1.out)).mono ?_
        rintro e w2 ⟨rfl, hrow, hb2⟩
        have hz2 := hb2.size
        have hg2 : W1.heap.size < w2.heap.size := hrow.lt
        have HB2 := Lib.hid (HB1.out.trans (hb2.mono HB1.out.size))
        have HW2 := Lib.hid hrow
        clear hrow hb2
        go_wp2_with fail
        refine (open_no1 a0 len0 cap0 l0 a1 len1 cap1 a2 len2 cap2 (some ⟨W1.heap.size, 0, none⟩) len3 (len3 + 1) w2 HL0.out HK.out).mono ?_
        rintro e w3 ⟨rfl, rfl⟩
        obtain ⟨w3, rfl⟩ : ∃ w3, w3 = w2 := ⟨_, rfl⟩
        have hb3 : Below w3.heap.size w3 w3 := Below.refl _ _
        have HB3 := HB2
        have hz3 := hb3.size
        have HI3 := Lib.hid (HW2.out)
        clear hb3
        go_wp2_with fail
        refine (refopen_no1 a0 len0 cap0 l0 a1 len1 cap1 a2 len2 cap2 a3 len3 cap3 w3 HL0.out HK.out).mono ?_
        rintro e w4 ⟨rfl, rfl⟩
        obtain ⟨w4, rfl⟩ : ∃ w4, w4 = w3 := ⟨_, rfl⟩
        have hb4 : Below w4.heap.size w4 w4 := Below.refl _ _
        have HB4 := HB3
        have hz4 := hb4.size
        have HI4 := Lib.hid (HI3.out)
        have sx := nil_str w4
        clear hb4
        generalize str [] = ts at *
        go_wp2_with fail
        refine (kept_any a3 len3 cap3 W1.heap.size l3 w4 w.heap.size HL3.out (by omega) (HR3.out.below HB4.out) HI4.out).mono ?_
        rintro e w6 ⟨rfl, rfl⟩
        go_wp2_with fail
        clear sx
        have qi : RowIn w4 ⟨some W1.heap.size, len3, len3 + 1⟩ W1.heap.size (W1.heap.size + 1) := orow_row HI4.out (by omega) (by rw [List.length_append, HL3.out]; rfl) (by omega)
        have hzW := HB1.out.size
        refine (owned2_any w4 w.heap.size (.slice none 0 0) (.slice (some ⟨W1.heap.size, 0, none⟩) len3 (len3 + 1)) ⟨none, 0, 0⟩ ⟨some W1.heap.size, len3, len3 + 1⟩ 0 0 W1.heap.size (W1.heap.size + 1) rfl rfl (rowin_nil _ _ _) qi (by omega) (by omega) (by omega) (.inl rfl) hzW (by omega)).mono ?_
        rintro e w9 ⟨rfl, hb9⟩
        have HB9 := Lib.hid (HB4.out.trans hb9)
        clear hb9 qi
        go_wp2_with fail
        go_ret
        exact ⟨rfl, HB9.out⟩

set_option maxRecDepth 100000 in
theorem lifted (os : Os) (started : os.Started) (H : Type) (enc : TypeId × Value → H) :
    ReturnsInHanded {} Tryz.checked os 4 .any (Rows.boxOpensSpec.pre6 enc Tryz.prog Tryz.f4 Rows.boxOpensRow.domain false) (Rows.boxOpensSpec.post enc Tryz.prog Tryz.f4 false true false false) := by
  refine returnsInHanded_of_change_sized (C := Tryz.checked) own started (by kernel_rfl) Tryz.func4
    (ChangeSpec.witness6 (enc := enc) (C := Tryz.checked) false ⟨#[], #[.slice none 0 0, .slice none 0 0, .slice none 0 0, .slice none 0 0], []⟩ 8 (by kernel_rfl) (by kernel_rfl) (by kernel_rfl) (by kernel_rfl)) ?_
  intro W base args ds gs before hval0 hW hcnd hsz0 _
  have hval : ∀ (j : Nat) t v, Tryz.f4.params[j]? = some t → args[j]? = some v → Value.okWide Tryz.prog W .any base t v := hval0
  have hsz : (DataW.weightsEach Tryz.prog (Tryz.f4.params.toList ++ Rows.boxOpensSpec.plain.varTypes Tryz.prog) (ds ++ gs)).all (· ≤ reachBytes) = true := hsz0
  clear hsz0
  have hW' := hW
  obtain ⟨p, q, hA0, hV, rfl, hfz, hnd⟩ := hW
  have hA : DataW.TrodAll enc Tryz.prog W 0 (fun _ => true) true Tryz.f4.params.toList args.toList ds p := hA0
  rw [Tryz.params4] at hA hval hsz
  obtain ⟨v0, vs0, d0, ds0, p0, q0, hargs, rfl, rfl, h0, r0⟩ := trodAll_cons hA
  obtain ⟨v1, vs1, d1, ds1, p1, q1, rfl, rfl, rfl, h1, r1⟩ := trodAll_cons r0
  obtain ⟨v2, vs2, d2, ds2, p2, q2, rfl, rfl, rfl, h2, r2⟩ := trodAll_cons r1
  obtain ⟨v3, vs3, d3, ds3, p3, q3, rfl, rfl, rfl, h3, r3⟩ := trodAll_cons r2
  obtain ⟨rfl, rfl, rfl⟩ := trodAll_nil r3
  obtain rfl : args = #[v0, v1, v2, v3] := by cases args; simp_all
  obtain ⟨rfl, rfl⟩ := trodVars_none hV
  obtain ⟨a0, len0, cap0, rfl⟩ := okWide_slice Tryz.underlying22 (hval 0 22 v0 rfl rfl)
  have k0 := h0
  have lt0 : ∀ x ∈ p0, x.block < W.heap.size := by obtain ⟨m, hm⟩ := k0; exact DataW.trod_lt m _ _ _ hm
  obtain ⟨l0, w0⟩ := open_bytes u8 (by kernel_rfl) (by kernel_rfl) h0 hsz (j := 0) rfl rfl
  obtain ⟨a1, len1, cap1, rfl⟩ := okWide_slice Tryz.underlying22 (hval 1 22 v1 rfl rfl)
  have k1 := h1
  have lt1 : ∀ x ∈ p1, x.block < W.heap.size := by obtain ⟨m, hm⟩ := k1; exact DataW.trod_lt m _ _ _ hm
  obtain ⟨l1, w1⟩ := open_bytes u8 (by kernel_rfl) (by kernel_rfl) h1 hsz (j := 1) rfl rfl
  obtain ⟨a2, len2, cap2, rfl⟩ := okWide_slice Tryz.underlying22 (hval 2 22 v2 rfl rfl)
  have k2 := h2
  have lt2 : ∀ x ∈ p2, x.block < W.heap.size := by obtain ⟨m, hm⟩ := k2; exact DataW.trod_lt m _ _ _ hm
  obtain ⟨l2, w2⟩ := open_bytes u8 (by kernel_rfl) (by kernel_rfl) h2 hsz (j := 2) rfl rfl
  obtain ⟨a3, len3, cap3, rfl⟩ := okWide_slice Tryz.underlying22 (hval 3 22 v3 rfl rfl)
  have k3 := h3
  have lt3 : ∀ x ∈ p3, x.block < W.heap.size := by obtain ⟨m, hm⟩ := k3; exact DataW.trod_lt m _ _ _ hm
  obtain ⟨l3, w3⟩ := open_bytes u8 (by kernel_rfl) (by kernel_rfl) h3 hsz (j := 3) rfl rfl
  clear hsz
  clear hA0 hval0
  simp only [List.append_nil] at hW'
  refine (walk a0 len0 cap0 l0 a1 len1 cap1 l1 a2 len2 cap2 l2 a3 len3 cap3 l3 W w0 w1 w2 w3).mono fun e W' ⟨he, bel⟩ => ?_
  subst he
  exact ⟨_, rfl, _, _, _, [], _, [], hW', trodAll_mk1 (shut_bool Tryz.underlying4 _), (trodAll_cons_mk (Below.trod laidOut (by kernel_rfl) (of_decide_eq_true (by kernel_rfl)) k0 bel lt0) (trodAll_cons_mk (Below.trod laidOut (by kernel_rfl) (of_decide_eq_true (by kernel_rfl)) k1 bel lt1) (trodAll_cons_mk (Below.trod laidOut (by kernel_rfl) (of_decide_eq_true (by kernel_rfl)) k2 bel lt2) (trodAll_cons_mk (Below.trod laidOut (by kernel_rfl) (of_decide_eq_true (by kernel_rfl)) k3 bel lt3) trodAll_mk0)))), rfl, bel.frame _, fun h => by cases h⟩

theorem over : Rows.boxOpensRow.holds Tryz.pinned (OpenSpec.ofChange Rows.boxOpensSpec) :=
  OpenClaim.holds_of_wide 4 Tryz.f4 rfl rfl rfl rfl rfl rfl rfl ⟨rfl, rfl, rfl, rfl, rfl⟩ rfl rfl rfl rfl rfl (by kernel_rfl) Tryz.func4 (by kernel_rfl)
    (of_decide_eq_true (by kernel_rfl)) (by unfold Func.isWrapper; first | (rw [if_pos (by decide +kernel)]; kernel_rfl) | (rw [if_neg (by decide +kernel)]; exact ⟨rfl, rfl⟩))
    (fun os started H enc _ => lifted os started H enc)

theorem proved : Rows.BoxOpensSaid := over
end Go.Proofs.YtcbihjcnnfohmaaGreat.boxOpens
