/- The law 'BoxSeals' answers true for every input, and its arguments read afterwards as before; no condition. The frame follows the kit's skeleton; the walk is ours. -/
import Derived.Test.YtcbihjcnnfohmaaGreatRows
import Derived.Test.YtcbihjcnnfohmaaGreatMemAll
import Derived.Test.YtcbihjcnnfohmaaGreatBoxFour
import Derived.WalkKit
import Derived.ProofKit
import Derived.OpenShut
import Derived.ShutString
import Derived.ChangeOld
import Derived.Below
import Derived.SizedLaws
namespace Go.Proofs.YtcbihjcnnfohmaaGreat.boxSeals
open Go.ChangeShapes Go.WideShapes Go.ChangeAt Go.RowKit
set_option linter.unusedVariables false

theorem own : ownKnob Tryz.prog.godebug = none := by kernel_rfl
theorem laidOut : laidOutB Tryz.prog = true := by kernel_rfl

open Aes Str Mac Box Room
set_option linter.unusedSimpArgs false

set_option maxRecDepth 100000 in
set_option maxHeartbeats 4000000 in
theorem walk (a0 : Option Addr) (len0 cap0 : Nat) (l0 : List UInt8) (a1 : Option Addr) (len1 cap1 : Nat) (l1 : List UInt8) (a2 : Int) (a3 : Option Addr) (len3 cap3 : Nat) (l3 : List UInt8) (a4 : Option Addr) (len4 cap4 : Nat) (l4 : List UInt8) (a5 : Int) (w : World) (w0 : ArgB w a0 len0 cap0 l0) (w1 : ArgB w a1 len1 cap1 l1) (w2 : (Lit.int .i64 a2).wf = true) (w3 : ArgB w a3 len3 cap3 l3) (w4 : ArgB w a4 len4 cap4 l4) (w5 : (Lit.int .i64 a5).wf = true) :
    Calls Tryz.prog 3 #[.slice a0 len0 cap0, .slice a1 len1 cap1, .int .i64 a2, .slice a3 len3 cap3, .slice a4 len4 cap4, .int .i64 a5] w fun e w' => e = .returned (.bool true) ∧ Below w.heap.size w w' := by
  obtain ⟨hl0, hf0, hm0, hr0⟩ := w0
  have HL0 := Lib.hid hl0
  have HR0 := Lib.hid hr0
  clear hl0 hr0
  obtain ⟨hl1, hf1, hm1, hr1⟩ := w1
  have HL1 := Lib.hid hl1
  have HR1 := Lib.hid hr1
  clear hl1 hr1
  obtain ⟨hl3, hf3, hm3, hr3⟩ := w3
  have HL3 := Lib.hid hl3
  have HR3 := Lib.hid hr3
  clear hl3 hr3
  obtain ⟨hl4, hf4, hm4, hr4⟩ := w4
  have HL4 := Lib.hid hl4
  have HR4 := Lib.hid hr4
  clear hl4 hr4
  obtain ⟨hb20, hb21⟩ := bounds_i64 w2
  obtain ⟨hb50, hb51⟩ := bounds_i64 w5
  by_cases hfit : len0 ≤ 1024 ∧ len1 ≤ 1024 ∧ len3 ≤ 1024 ∧ len4 ≤ 1024
  · have HFIT := Lib.hid hfit
    obtain ⟨F0, F1, F3, F4⟩ := hfit
    have HNM := Lib.hid (show a2 < 9223372036854775808 by omega)
    by_cases hk : KeyOk l0 ∧ 0 ≤ a2
    · obtain ⟨hk, hn⟩ := hk
      have HK := Lib.hid hk
      obtain ⟨nc, rfl⟩ := Int.eq_ofNat_of_zero_le hn
      have HNC := Lib.hid (show nc < 9223372036854775808 by omega)
      clear hk hn hb20 hb21
      go_enter Tryz.func3, Tryz.ntmps3
      go_wp2_with fail
      refine (Box.small_any _).mono ?_
      rintro e w1 ⟨rfl, hb1⟩
      have hbW := hb1.alloc hb1.size (.cells #[.slice a0 len0 cap0, .slice a1 len1 cap1, .slice a3 len3 cap3, .slice a4 len4 cap4] 22)
      have hcl : ∀ j (hj : j < ([(⟨a0, len0, cap0, l0⟩ : Part), ⟨a1, len1, cap1, l1⟩, ⟨a3, len3, cap3, l3⟩, ⟨a4, len4, cap4, l4⟩] : List Part).length), (w1.alloc (.cells #[.slice a0 len0 cap0, .slice a1 len1 cap1, .slice a3 len3 cap3, .slice a4 len4 cap4] 22)).cell? ⟨w1.heap.size, j, none⟩ = some ([(⟨a0, len0, cap0, l0⟩ : Part), ⟨a1, len1, cap1, l1⟩, ⟨a3, len3, cap3, l3⟩, ⟨a4, len4, cap4, l4⟩] : List Part)[j].val := lits_cell 22 [(⟨a0, len0, cap0, l0⟩ : Part), ⟨a1, len1, cap1, l1⟩, ⟨a3, len3, cap3, l3⟩, ⟨a4, len4, cap4, l4⟩]
      have HCL := Lib.hid hcl
      clear hcl
      go_wp2_with fail
      refine (fits_any w1.heap.size 4 4 [(⟨a0, len0, cap0, l0⟩ : Part), ⟨a1, len1, cap1, l1⟩, ⟨a3, len3, cap3, l3⟩, ⟨a4, len4, cap4, l4⟩] _ rfl (by omega) HCL.out true (decide_eq_true (by simp only [List.mem_cons, List.not_mem_nil, or_false, forall_eq_or_imp, forall_eq]; exact HFIT.out)).symm).mono ?_
      rintro e w2 ⟨rfl, rfl⟩
      clear HCL
      generalize w1.alloc (.cells #[.slice a0 len0 cap0, .slice a1 len1 cap1, .slice a3 len3 cap3, .slice a4 len4 cap4] 22) = W1 at hbW ⊢
      have HB1 := Lib.hid hbW
      clear hbW hb1
      go_wp2_with fail
      refine (lent_any a4 len4 cap4 l4 W1 w.heap.size HB1.out.size HL4.out (by omega) (HR4.out.below HB1.out)).mono ?_
      rintro e w2 ⟨rfl, hrow, hb2⟩
      have hz2 := hb2.size
      have hg2 : W1.heap.size < w2.heap.size := hrow.lt
      have HB2 := Lib.hid (HB1.out.trans (hb2.mono HB1.out.size))
      have HW2 := Lib.hid hrow
      clear hrow hb2
      go_wp2_with fail
      refine (lent_any a0 len0 cap0 l0 w2 w.heap.size HB2.out.size HL0.out (by omega) (HR0.out.below HB2.out)).mono ?_
      rintro e w3 ⟨rfl, hrow, hb3⟩
      have hz3 := hb3.size
      have hg3 : w2.heap.size < w3.heap.size := hrow.lt
      have HB3 := Lib.hid (HB2.out.trans (hb3.mono HB2.out.size))
      have HW3 := Lib.hid hrow
      have HBK3 := Lib.hid hb3
      clear hrow hb3
      go_wp2_with fail
      have HI3 := Lib.hid (HW2.out.below (show Below w2.heap.size w2 w3 from HBK3.out) hg2)
      refine (seal_yes (some ⟨w2.heap.size, 0, none⟩) len0 (len0 + 1) l0 a1 len1 cap1 l1 nc a3 len3 cap3 l3 (some ⟨W1.heap.size, 0, none⟩) len4 (len4 + 1) l4 w3 HL0.out HW3.out.rd_take HK.out HL1.out (by omega) (rd_now HR1.out HB3.out) HNC.out HL3.out (by omega) hf3 (by omega) (rd_now HR3.out HB3.out) HL4.out (by omega) HI3.out.rd_take).mono ?_
      rintro e w4 ⟨gx, mx, rfl, hmx, hO4, hb4⟩
      subst hmx
      have HB4 := Lib.hid (HB3.out.trans (hb4.mono HB3.out.size))
      have hz4 := hb4.size
      have HI4 := Lib.hid (HI3.out.below hb4 (by omega))
      have HK4 := Lib.hid (HW3.out.below hb4 hg3)
      have HO4 := Lib.hid hO4
      clear hO4
      clear hb4 HI3 HW2 HW3 HBK3
      go_wp2_with fail
      refine (refseal_yes a0 len0 cap0 l0 a1 len1 cap1 l1 nc a3 len3 cap3 l3 a4 len4 cap4 l4 w4 HL0.out hf0 (rd_now HR0.out HB4.out) HK.out HL1.out (by omega) (rd_now HR1.out HB4.out) HL3.out (by omega) (rd_now HR3.out HB4.out) HL4.out (by omega) (rd_now HR4.out HB4.out)).mono ?_
      rintro e w5 ⟨v5, rfl, hO5, hb5⟩
      obtain ⟨A5, c5, hv5, hr5, _⟩ := ownb_form (n := 24 + len4) hO5 (by rw [sealL_len, HL4.out])
      subst hv5
      have sx := arg_str (n := 24 + len4) (c := 24 + len4) (by rw [sealL_len, HL4.out]) (ownb_rd HO4.out) hb5
      have sy := arg_str (n := 24 + len4) (c := c5) (by rw [sealL_len, HL4.out]) hr5 (Below.refl _ _)
      have HX5 := Lib.hid (show OwnB w5 5 w3.heap.size (.slice (some ⟨gx, 0, none⟩) (24 + len4) (24 + len4)) (sealL l0 l1 nc l3 l4) from OwnV.below_ HO4.out hb5)
      clear hO5 hr5 HO4
      generalize str (sealL l0 l1 nc l3 l4) = ts at *
      have HB5 := Lib.hid (HB4.out.trans (hb5.mono HB4.out.size))
      have hz5 := hb5.size
      have HI5 := Lib.hid (HI4.out.below hb5 (by omega))
      have HK5 := Lib.hid (HK4.out.below hb5 (by omega))
      clear hb5 HI4 HK4
      go_wp2_with fail
      refine (kept_any a4 len4 cap4 W1.heap.size l4 w5 w.heap.size HL4.out (by omega) (HR4.out.below HB5.out) HI5.out).mono ?_
      rintro e w6 ⟨rfl, rfl⟩
      go_wp2_with fail
      refine (kept_any a0 len0 cap0 w2.heap.size l0 w5 w.heap.size HL0.out (by omega) (HR0.out.below HB5.out) HK5.out).mono ?_
      rintro e w6 ⟨rfl, rfl⟩
      go_wp2_with fail
      clear sx sy
      have qi : RowIn w5 ⟨some W1.heap.size, len4, len4 + 1⟩ W1.heap.size (W1.heap.size + 1) := orow_row HI5.out (by omega) (by rw [List.length_append, HL4.out]; rfl) (by omega)
      have qk : RowIn w5 ⟨some w2.heap.size, len0, len0 + 1⟩ w2.heap.size (w2.heap.size + 1) := orow_row HK5.out (by omega) (by rw [List.length_append, HL0.out]; rfl) (by omega)
      have hzW := HB1.out.size
      refine (owned3_any w5 w.heap.size (.slice (some ⟨gx, 0, none⟩) (24 + len4) (24 + len4)) (.slice (some ⟨W1.heap.size, 0, none⟩) len4 (len4 + 1)) (.slice (some ⟨w2.heap.size, 0, none⟩) len0 (len0 + 1)) ⟨some gx, 24 + len4, 24 + len4⟩ ⟨some W1.heap.size, len4, len4 + 1⟩ ⟨some w2.heap.size, len0, len0 + 1⟩ w3.heap.size w5.heap.size W1.heap.size (W1.heap.size + 1) w2.heap.size (w2.heap.size + 1) rfl rfl rfl (rowin_exact HX5.out) qi qk (by omega) (by omega) (by omega) (by omega) (by omega) (by omega) (.inr (by omega)) hzW (by omega) (by omega)).mono ?_
      rintro e w9 ⟨rfl, hb9⟩
      have HB9 := Lib.hid (HB5.out.trans hb9)
      clear hb9 qi qk
      go_wp2_with (first
        | (go_at_call 13
           refine (size_any a5 hb50 hb51 _).mono ?_
           rintro e w' ⟨rfl, rfl⟩)
        | (go_at_call 14
           refine (refsize_any a5 hb50 hb51 _).mono ?_
           rintro e w' ⟨rfl, rfl⟩))
      go_ret
      exact ⟨rfl, HB9.out⟩
    · have HNO := Lib.hid (show ¬ KeyOk l0 ∨ a2 < 0 from (Classical.em (KeyOk l0)).elim (fun h => .inr (Int.not_le.1 fun h' => hk ⟨h, h'⟩)) .inl)
      clear hk hb20 hb21
      go_enter Tryz.func3, Tryz.ntmps3
      go_wp2_with fail
      refine (Box.small_any _).mono ?_
      rintro e w1 ⟨rfl, hb1⟩
      have hbW := hb1.alloc hb1.size (.cells #[.slice a0 len0 cap0, .slice a1 len1 cap1, .slice a3 len3 cap3, .slice a4 len4 cap4] 22)
      have hcl : ∀ j (hj : j < ([(⟨a0, len0, cap0, l0⟩ : Part), ⟨a1, len1, cap1, l1⟩, ⟨a3, len3, cap3, l3⟩, ⟨a4, len4, cap4, l4⟩] : List Part).length), (w1.alloc (.cells #[.slice a0 len0 cap0, .slice a1 len1 cap1, .slice a3 len3 cap3, .slice a4 len4 cap4] 22)).cell? ⟨w1.heap.size, j, none⟩ = some ([(⟨a0, len0, cap0, l0⟩ : Part), ⟨a1, len1, cap1, l1⟩, ⟨a3, len3, cap3, l3⟩, ⟨a4, len4, cap4, l4⟩] : List Part)[j].val := lits_cell 22 [(⟨a0, len0, cap0, l0⟩ : Part), ⟨a1, len1, cap1, l1⟩, ⟨a3, len3, cap3, l3⟩, ⟨a4, len4, cap4, l4⟩]
      have HCL := Lib.hid hcl
      clear hcl
      go_wp2_with fail
      refine (fits_any w1.heap.size 4 4 [(⟨a0, len0, cap0, l0⟩ : Part), ⟨a1, len1, cap1, l1⟩, ⟨a3, len3, cap3, l3⟩, ⟨a4, len4, cap4, l4⟩] _ rfl (by omega) HCL.out true (decide_eq_true (by simp only [List.mem_cons, List.not_mem_nil, or_false, forall_eq_or_imp, forall_eq]; exact HFIT.out)).symm).mono ?_
      rintro e w2 ⟨rfl, rfl⟩
      clear HCL
      generalize w1.alloc (.cells #[.slice a0 len0 cap0, .slice a1 len1 cap1, .slice a3 len3 cap3, .slice a4 len4 cap4] 22) = W1 at hbW ⊢
      have HB1 := Lib.hid hbW
      clear hbW hb1
      go_wp2_with fail
      refine (lent_any a4 len4 cap4 l4 W1 w.heap.size HB1.out.size HL4.out (by omega) (HR4.out.below HB1.out)).mono ?_
      rintro e w2 ⟨rfl, hrow, hb2⟩
      have hz2 := hb2.size
      have hg2 : W1.heap.size < w2.heap.size := hrow.lt
      have HB2 := Lib.hid (HB1.out.trans (hb2.mono HB1.out.size))
      have HW2 := Lib.hid hrow
      clear hrow hb2
      go_wp2_with fail
      refine (lent_any a0 len0 cap0 l0 w2 w.heap.size HB2.out.size HL0.out (by omega) (HR0.out.below HB2.out)).mono ?_
      rintro e w3 ⟨rfl, hrow, hb3⟩
      have hz3 := hb3.size
      have hg3 : w2.heap.size < w3.heap.size := hrow.lt
      have HB3 := Lib.hid (HB2.out.trans (hb3.mono HB2.out.size))
      have HW3 := Lib.hid hrow
      have HBK3 := Lib.hid hb3
      clear hrow hb3
      go_wp2_with fail
      have HI3 := Lib.hid (HW2.out.below (show Below w2.heap.size w2 w3 from HBK3.out) hg2)
      refine (seal_no1 (some ⟨w2.heap.size, 0, none⟩) len0 (len0 + 1) l0 a1 len1 cap1 a2 a3 len3 cap3 (some ⟨W1.heap.size, 0, none⟩) len4 (len4 + 1) w3 HL0.out HW3.out.rd_take HNM.out HNO.out).mono ?_
      rintro e w4 ⟨rfl, hb4⟩
      have HB4 := Lib.hid (HB3.out.trans (hb4.mono HB3.out.size))
      have hz4 := hb4.size
      have HI4 := Lib.hid (HI3.out.below hb4 (by omega))
      have HK4 := Lib.hid (HW3.out.below hb4 hg3)
      clear hb4 HI3 HW2 HW3 HBK3
      go_wp2_with fail
      refine (refseal_no1 a0 len0 cap0 l0 a1 len1 cap1 a2 a3 len3 cap3 a4 len4 cap4 w4 HL0.out hf0 (rd_now HR0.out HB4.out) HNO.out).mono ?_
      rintro e w5 ⟨rfl, hb5⟩
      have sx := nil_str w5
      generalize str [] = ts at *
      have HB5 := Lib.hid (HB4.out.trans (hb5.mono HB4.out.size))
      have hz5 := hb5.size
      have HI5 := Lib.hid (HI4.out.below hb5 (by omega))
      have HK5 := Lib.hid (HK4.out.below hb5 (by omega))
      clear hb5 HI4 HK4
      go_wp2_with fail
      refine (kept_any a4 len4 cap4 W1.heap.size l4 w5 w.heap.size HL4.out (by omega) (HR4.out.below HB5.out) HI5.out).mono ?_
      rintro e w6 ⟨rfl, rfl⟩
      go_wp2_with fail
      refine (kept_any a0 len0 cap0 w2.heap.size l0 w5 w.heap.size HL0.out (by omega) (HR0.out.below HB5.out) HK5.out).mono ?_
      rintro e w6 ⟨rfl, rfl⟩
      go_wp2_with fail
      clear sx
      have qi : RowIn w5 ⟨some W1.heap.size, len4, len4 + 1⟩ W1.heap.size (W1.heap.size + 1) := orow_row HI5.out (by omega) (by rw [List.length_append, HL4.out]; rfl) (by omega)
      have qk : RowIn w5 ⟨some w2.heap.size, len0, len0 + 1⟩ w2.heap.size (w2.heap.size + 1) := orow_row HK5.out (by omega) (by rw [List.length_append, HL0.out]; rfl) (by omega)
      have hzW := HB1.out.size
      refine (owned3_any w5 w.heap.size (.slice none 0 0) (.slice (some ⟨W1.heap.size, 0, none⟩) len4 (len4 + 1)) (.slice (some ⟨w2.heap.size, 0, none⟩) len0 (len0 + 1)) ⟨none, 0, 0⟩ ⟨some W1.heap.size, len4, len4 + 1⟩ ⟨some w2.heap.size, len0, len0 + 1⟩ 0 0 W1.heap.size (W1.heap.size + 1) w2.heap.size (w2.heap.size + 1) rfl rfl rfl (rowin_nil _ _ _) qi qk (by omega) (by omega) (by omega) (by omega) (by omega) (by omega) (.inl rfl) hzW (by omega) (by omega)).mono ?_
      rintro e w9 ⟨rfl, hb9⟩
      have HB9 := Lib.hid (HB5.out.trans hb9)
      clear hb9 qi qk
      go_wp2_with (first
        | (go_at_call 13
           refine (size_any a5 hb50 hb51 _).mono ?_
           rintro e w' ⟨rfl, rfl⟩)
        | (go_at_call 14
           refine (refsize_any a5 hb50 hb51 _).mono ?_
           rintro e w' ⟨rfl, rfl⟩))
      go_ret
      exact ⟨rfl, HB9.out⟩
  · have HFIT := Lib.hid hfit
    clear hfit hb20 hb21
    go_enter Tryz.func3, Tryz.ntmps3
    go_wp2_with fail
    refine (Box.small_any _).mono ?_
    rintro e w1 ⟨rfl, hb1⟩
    have hbW := hb1.alloc hb1.size (.cells #[.slice a0 len0 cap0, .slice a1 len1 cap1, .slice a3 len3 cap3, .slice a4 len4 cap4] 22)
    have hcl : ∀ j (hj : j < ([(⟨a0, len0, cap0, l0⟩ : Part), ⟨a1, len1, cap1, l1⟩, ⟨a3, len3, cap3, l3⟩, ⟨a4, len4, cap4, l4⟩] : List Part).length), (w1.alloc (.cells #[.slice a0 len0 cap0, .slice a1 len1 cap1, .slice a3 len3 cap3, .slice a4 len4 cap4] 22)).cell? ⟨w1.heap.size, j, none⟩ = some ([(⟨a0, len0, cap0, l0⟩ : Part), ⟨a1, len1, cap1, l1⟩, ⟨a3, len3, cap3, l3⟩, ⟨a4, len4, cap4, l4⟩] : List Part)[j].val := lits_cell 22 [(⟨a0, len0, cap0, l0⟩ : Part), ⟨a1, len1, cap1, l1⟩, ⟨a3, len3, cap3, l3⟩, ⟨a4, len4, cap4, l4⟩]
    have HCL := Lib.hid hcl
    clear hcl
    go_wp2_with fail
    refine (fits_any w1.heap.size 4 4 [(⟨a0, len0, cap0, l0⟩ : Part), ⟨a1, len1, cap1, l1⟩, ⟨a3, len3, cap3, l3⟩, ⟨a4, len4, cap4, l4⟩] _ rfl (by omega) HCL.out false (decide_eq_false (by simp only [List.mem_cons, List.not_mem_nil, or_false, forall_eq_or_imp, forall_eq]; exact HFIT.out)).symm).mono ?_
    rintro e w2 ⟨rfl, rfl⟩
    clear HCL
    generalize w1.alloc (.cells #[.slice a0 len0 cap0, .slice a1 len1 cap1, .slice a3 len3 cap3, .slice a4 len4 cap4] 22) = W1 at hbW ⊢
    have HB1 := Lib.hid hbW
    clear hbW hb1
    go_wp2_with fail
    go_ret
    exact ⟨rfl, HB1.out⟩

set_option maxRecDepth 100000 in
theorem lifted (os : Os) (started : os.Started) (H : Type) (enc : TypeId × Value → H) :
    ReturnsInHanded {} Tryz.checked os 3 .any (Rows.boxSealsSpec.pre6 enc Tryz.prog Tryz.f3 Rows.boxSealsRow.domain false) (Rows.boxSealsSpec.post enc Tryz.prog Tryz.f3 false true false false) := by
  refine returnsInHanded_of_change_sized (C := Tryz.checked) own started (by kernel_rfl) Tryz.func3
    (ChangeSpec.witness6 (enc := enc) (C := Tryz.checked) false ⟨#[], #[.slice none 0 0, .slice none 0 0, .int .i64 0, .slice none 0 0, .slice none 0 0, .int .i64 0], []⟩ 8 (by kernel_rfl) (by kernel_rfl) (by kernel_rfl) (by kernel_rfl)) ?_
  intro W base args ds gs before hval0 hW hcnd hsz0 _
  have hval : ∀ (j : Nat) t v, Tryz.f3.params[j]? = some t → args[j]? = some v → Value.okWide Tryz.prog W .any base t v := hval0
  have hsz : (DataW.weightsEach Tryz.prog (Tryz.f3.params.toList ++ Rows.boxSealsSpec.plain.varTypes Tryz.prog) (ds ++ gs)).all (· ≤ reachBytes) = true := hsz0
  clear hsz0
  have hW' := hW
  obtain ⟨p, q, hA0, hV, rfl, hfz, hnd⟩ := hW
  have hA : DataW.TrodAll enc Tryz.prog W 0 (fun _ => true) true Tryz.f3.params.toList args.toList ds p := hA0
  rw [Tryz.params3] at hA hval hsz
  obtain ⟨v0, vs0, d0, ds0, p0, q0, hargs, rfl, rfl, h0, r0⟩ := trodAll_cons hA
  obtain ⟨v1, vs1, d1, ds1, p1, q1, rfl, rfl, rfl, h1, r1⟩ := trodAll_cons r0
  obtain ⟨v2, vs2, d2, ds2, p2, q2, rfl, rfl, rfl, h2, r2⟩ := trodAll_cons r1
  obtain ⟨v3, vs3, d3, ds3, p3, q3, rfl, rfl, rfl, h3, r3⟩ := trodAll_cons r2
  obtain ⟨v4, vs4, d4, ds4, p4, q4, rfl, rfl, rfl, h4, r4⟩ := trodAll_cons r3
  obtain ⟨v5, vs5, d5, ds5, p5, q5, rfl, rfl, rfl, h5, r5⟩ := trodAll_cons r4
  obtain ⟨rfl, rfl, rfl⟩ := trodAll_nil r5
  obtain rfl : args = #[v0, v1, v2, v3, v4, v5] := by cases args; simp_all
  obtain ⟨rfl, rfl⟩ := trodVars_none hV
  obtain ⟨a0, len0, cap0, rfl⟩ := okWide_slice Tryz.underlying22 (hval 0 22 v0 rfl rfl)
  have k0 := h0
  have lt0 : ∀ x ∈ p0, x.block < W.heap.size := by obtain ⟨m, hm⟩ := k0; exact DataW.trod_lt m _ _ _ hm
  obtain ⟨l0, w0⟩ := open_bytes u8 (by kernel_rfl) (by kernel_rfl) h0 hsz (j := 0) rfl rfl
  obtain ⟨a1, len1, cap1, rfl⟩ := okWide_slice Tryz.underlying22 (hval 1 22 v1 rfl rfl)
  have k1 := h1
  have lt1 : ∀ x ∈ p1, x.block < W.heap.size := by obtain ⟨m, hm⟩ := k1; exact DataW.trod_lt m _ _ _ hm
  obtain ⟨l1, w1⟩ := open_bytes u8 (by kernel_rfl) (by kernel_rfl) h1 hsz (j := 1) rfl rfl
  obtain ⟨a3, len3, cap3, rfl⟩ := okWide_slice Tryz.underlying22 (hval 3 22 v3 rfl rfl)
  have k3 := h3
  have lt3 : ∀ x ∈ p3, x.block < W.heap.size := by obtain ⟨m, hm⟩ := k3; exact DataW.trod_lt m _ _ _ hm
  obtain ⟨l3, w3⟩ := open_bytes u8 (by kernel_rfl) (by kernel_rfl) h3 hsz (j := 3) rfl rfl
  obtain ⟨a4, len4, cap4, rfl⟩ := okWide_slice Tryz.underlying22 (hval 4 22 v4 rfl rfl)
  have k4 := h4
  have lt4 : ∀ x ∈ p4, x.block < W.heap.size := by obtain ⟨m, hm⟩ := k4; exact DataW.trod_lt m _ _ _ hm
  obtain ⟨l4, w4⟩ := open_bytes u8 (by kernel_rfl) (by kernel_rfl) h4 hsz (j := 4) rfl rfl
  clear hsz
  obtain ⟨a2, rfl, rfl, rfl, w2⟩ := open_int Tryz.underlying3 (hval 2 3 v2 rfl rfl) h2
  obtain ⟨a5, rfl, rfl, rfl, w5⟩ := open_int Tryz.underlying3 (hval 5 3 v5 rfl rfl) h5
  clear hA0 hval0
  simp only [List.append_nil] at hW'
  refine (walk a0 len0 cap0 l0 a1 len1 cap1 l1 a2 a3 len3 cap3 l3 a4 len4 cap4 l4 a5 W w0 w1 w2 w3 w4 w5).mono fun e W' ⟨he, bel⟩ => ?_
  subst he
  exact ⟨_, rfl, _, _, _, [], _, [], hW', trodAll_mk1 (shut_bool Tryz.underlying4 _), (trodAll_cons_mk (Below.trod laidOut (by kernel_rfl) (of_decide_eq_true (by kernel_rfl)) k0 bel lt0) (trodAll_cons_mk (Below.trod laidOut (by kernel_rfl) (of_decide_eq_true (by kernel_rfl)) k1 bel lt1) (trodAll_cons_mk (shut_int Tryz.underlying3 w2) (trodAll_cons_mk (Below.trod laidOut (by kernel_rfl) (of_decide_eq_true (by kernel_rfl)) k3 bel lt3) (trodAll_cons_mk (Below.trod laidOut (by kernel_rfl) (of_decide_eq_true (by kernel_rfl)) k4 bel lt4) (trodAll_cons_mk (shut_int Tryz.underlying3 w5) trodAll_mk0)))))), rfl, bel.frame _, fun h => by cases h⟩

theorem over : Rows.boxSealsRow.holds Tryz.pinned (OpenSpec.ofChange Rows.boxSealsSpec) :=
  OpenClaim.holds_of_wide 3 Tryz.f3 rfl rfl rfl rfl rfl rfl rfl ⟨rfl, rfl, rfl, rfl, rfl⟩ rfl rfl rfl rfl rfl (by kernel_rfl) Tryz.func3 (by kernel_rfl)
    (of_decide_eq_true (by kernel_rfl)) (by unfold Func.isWrapper; first | (rw [if_pos (by decide +kernel)]; kernel_rfl) | (rw [if_neg (by decide +kernel)]; exact ⟨rfl, rfl⟩))
    (fun os started H enc _ => lifted os started H enc)

theorem proved : Rows.BoxSealsSaid := over
end Go.Proofs.YtcbihjcnnfohmaaGreat.boxSeals
