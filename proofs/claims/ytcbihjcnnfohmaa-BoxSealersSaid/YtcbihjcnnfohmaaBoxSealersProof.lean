/- The law 'BoxSealers' answers true for every input, and its arguments read afterwards as before; no condition. The frame follows the kit's skeleton; the walk is ours. -/
import Derived.Test.YtcbihjcnnfohmaaRows
import Derived.Test.YtcbihjcnnfohmaaArgs
import Derived.Test.YtcbihjcnnfohmaaBoxSs
import Derived.WalkKit
import Derived.ProofKit
import Derived.OpenShut
import Derived.ShutString
import Derived.ChangeOld
import Derived.Below
import Derived.SizedLaws
namespace Go.Proofs.Ytcbihjcnnfohmaa.boxSealers
open Go.ChangeShapes Go.WideShapes Go.ChangeAt Go.RowKit
set_option linter.unusedVariables false

theorem own : ownKnob Try.prog.godebug = none := by kernel_rfl
theorem laidOut : laidOutB Try.prog = true := by kernel_rfl

open Aes Str Mac Box
set_option linter.unusedSimpArgs false

set_option maxRecDepth 100000 in
set_option maxHeartbeats 4000000 in
theorem walk (a0 : Option Addr) (len0 cap0 : Nat) (l0 : List UInt8) (a1 : Option Addr) (len1 cap1 : Nat) (l1 : List UInt8) (a2 : Int) (a3 : Option Addr) (len3 cap3 : Nat) (l3 : List UInt8) (a4 : Option Addr) (len4 cap4 : Nat) (l4 : List UInt8) (w : World) (w0 : ArgB w a0 len0 cap0 l0) (w1 : ArgB w a1 len1 cap1 l1) (w2 : (Lit.int .i64 a2).wf = true) (w3 : ArgB w a3 len3 cap3 l3) (w4 : ArgB w a4 len4 cap4 l4) :
    Calls Try.prog 15 #[.slice a0 len0 cap0, .slice a1 len1 cap1, .int .i64 a2, .slice a3 len3 cap3, .slice a4 len4 cap4] w fun e w' => e = .returned (.bool true) ∧ Below w.heap.size w w' := by
  obtain ⟨hl0, hf0, hm0, hr0⟩ := w0
  have HL0 := Lib.hid hl0
  have HR0 := Lib.hid hr0
  clear hl0 hr0
  obtain ⟨hl1, hf1, hm1, hr1⟩ := w1
  have HL1 := Lib.hid hl1
  have HR1 := Lib.hid hr1
  clear hl1 hr1
  obtain ⟨hl3, hf3, hm3, hr3⟩ := w3
  have HL3 := Lib.hid hl3
  have HR3 := Lib.hid hr3
  clear hl3 hr3
  obtain ⟨hl4, hf4, hm4, hr4⟩ := w4
  have HL4 := Lib.hid hl4
  have HR4 := Lib.hid hr4
  clear hl4 hr4
  obtain ⟨hb20, hb21⟩ := bounds_i64 w2
  by_cases hfit : len0 ≤ 1024 ∧ len1 ≤ 1024 ∧ len3 ≤ 1024 ∧ len4 ≤ 1024
  · have HFIT := Lib.hid hfit
    obtain ⟨F0, F1, F3, F4⟩ := hfit
    by_cases hn : a2 < 0
    · clear hb20 hb21
      go_enter Try.func15, Try.ntmps15
      go_wp2_with fail
      refine (Box.small_any _).mono ?_
      rintro e w1 ⟨rfl, hb1⟩
      have hbW := hb1.alloc hb1.size (.cells #[.slice a0 len0 cap0, .slice a1 len1 cap1, .slice a3 len3 cap3, .slice a4 len4 cap4] 22)
      have hcl : ∀ j (hj : j < ([(⟨a0, len0, cap0, l0⟩ : Part), ⟨a1, len1, cap1, l1⟩, ⟨a3, len3, cap3, l3⟩, ⟨a4, len4, cap4, l4⟩] : List Part).length), (w1.alloc (.cells #[.slice a0 len0 cap0, .slice a1 len1 cap1, .slice a3 len3 cap3, .slice a4 len4 cap4] 22)).cell? ⟨w1.heap.size, j, none⟩ = some ([(⟨a0, len0, cap0, l0⟩ : Part), ⟨a1, len1, cap1, l1⟩, ⟨a3, len3, cap3, l3⟩, ⟨a4, len4, cap4, l4⟩] : List Part)[j].val := lits_cell 22 [(⟨a0, len0, cap0, l0⟩ : Part), ⟨a1, len1, cap1, l1⟩, ⟨a3, len3, cap3, l3⟩, ⟨a4, len4, cap4, l4⟩]
      have HCL := Lib.hid hcl
      clear hcl
      go_wp2_with fail
      refine (fits_any w1.heap.size 4 4 [(⟨a0, len0, cap0, l0⟩ : Part), ⟨a1, len1, cap1, l1⟩, ⟨a3, len3, cap3, l3⟩, ⟨a4, len4, cap4, l4⟩] _ rfl (by omega) HCL.out true (decide_eq_true (by simp only [List.mem_cons, List.not_mem_nil, or_false, forall_eq_or_imp, forall_eq]; exact HFIT.out)).symm).mono ?_
      rintro e w2 ⟨rfl, rfl⟩
      clear HCL
      generalize w1.alloc (.cells #[.slice a0 len0 cap0, .slice a1 len1 cap1, .slice a3 len3 cap3, .slice a4 len4 cap4] 22) = W1 at hbW ⊢
      have HB1 := Lib.hid hbW
      clear hbW hb1
      go_wp2_with fail
      go_ret
      exact ⟨rfl, HB1.out⟩
    · obtain ⟨nc, rfl⟩ := Int.eq_ofNat_of_zero_le (show 0 ≤ a2 by omega)
      by_cases hm : (nc : Int) = 9223372036854775807
      · rw [hm]
        clear hb20 hb21 hn
        go_enter Try.func15, Try.ntmps15
        go_wp2_with fail
        refine (Box.small_any _).mono ?_
        rintro e w1 ⟨rfl, hb1⟩
        have hbW := hb1.alloc hb1.size (.cells #[.slice a0 len0 cap0, .slice a1 len1 cap1, .slice a3 len3 cap3, .slice a4 len4 cap4] 22)
        have hcl : ∀ j (hj : j < ([(⟨a0, len0, cap0, l0⟩ : Part), ⟨a1, len1, cap1, l1⟩, ⟨a3, len3, cap3, l3⟩, ⟨a4, len4, cap4, l4⟩] : List Part).length), (w1.alloc (.cells #[.slice a0 len0 cap0, .slice a1 len1 cap1, .slice a3 len3 cap3, .slice a4 len4 cap4] 22)).cell? ⟨w1.heap.size, j, none⟩ = some ([(⟨a0, len0, cap0, l0⟩ : Part), ⟨a1, len1, cap1, l1⟩, ⟨a3, len3, cap3, l3⟩, ⟨a4, len4, cap4, l4⟩] : List Part)[j].val := lits_cell 22 [(⟨a0, len0, cap0, l0⟩ : Part), ⟨a1, len1, cap1, l1⟩, ⟨a3, len3, cap3, l3⟩, ⟨a4, len4, cap4, l4⟩]
        have HCL := Lib.hid hcl
        clear hcl
        go_wp2_with fail
        refine (fits_any w1.heap.size 4 4 [(⟨a0, len0, cap0, l0⟩ : Part), ⟨a1, len1, cap1, l1⟩, ⟨a3, len3, cap3, l3⟩, ⟨a4, len4, cap4, l4⟩] _ rfl (by omega) HCL.out true (decide_eq_true (by simp only [List.mem_cons, List.not_mem_nil, or_false, forall_eq_or_imp, forall_eq]; exact HFIT.out)).symm).mono ?_
        rintro e w2 ⟨rfl, rfl⟩
        clear HCL
        generalize w1.alloc (.cells #[.slice a0 len0 cap0, .slice a1 len1 cap1, .slice a3 len3 cap3, .slice a4 len4 cap4] 22) = W1 at hbW ⊢
        have HB1 := Lib.hid hbW
        clear hbW hb1
        go_wp2_with fail
        go_ret
        exact ⟨rfl, HB1.out⟩
      · have HNC := Lib.hid (show nc < 9223372036854775808 by omega)
        have HNX := Lib.hid (show nc < 9223372036854775807 by omega)
        have hmb : ((nc : Int) == 9223372036854775807) = false := by simpa using hm
        have hnl : decide ((nc : Int) < 0) = false := by simp
        clear hb20 hb21 hm hn
        by_cases hk : KeyOk l0
        · have HK := Lib.hid hk
          clear hk
          go_enter Try.func15, Try.ntmps15
          go_wp2_with fail
          refine (Box.small_any _).mono ?_
          rintro e w1 ⟨rfl, hb1⟩
          have hbW := hb1.alloc hb1.size (.cells #[.slice a0 len0 cap0, .slice a1 len1 cap1, .slice a3 len3 cap3, .slice a4 len4 cap4] 22)
          have hcl : ∀ j (hj : j < ([(⟨a0, len0, cap0, l0⟩ : Part), ⟨a1, len1, cap1, l1⟩, ⟨a3, len3, cap3, l3⟩, ⟨a4, len4, cap4, l4⟩] : List Part).length), (w1.alloc (.cells #[.slice a0 len0 cap0, .slice a1 len1 cap1, .slice a3 len3 cap3, .slice a4 len4 cap4] 22)).cell? ⟨w1.heap.size, j, none⟩ = some ([(⟨a0, len0, cap0, l0⟩ : Part), ⟨a1, len1, cap1, l1⟩, ⟨a3, len3, cap3, l3⟩, ⟨a4, len4, cap4, l4⟩] : List Part)[j].val := lits_cell 22 [(⟨a0, len0, cap0, l0⟩ : Part), ⟨a1, len1, cap1, l1⟩, ⟨a3, len3, cap3, l3⟩, ⟨a4, len4, cap4, l4⟩]
          have HCL := Lib.hid hcl
          clear hcl
          go_wp2_with fail
          refine (fits_any w1.heap.size 4 4 [(⟨a0, len0, cap0, l0⟩ : Part), ⟨a1, len1, cap1, l1⟩, ⟨a3, len3, cap3, l3⟩, ⟨a4, len4, cap4, l4⟩] _ rfl (by omega) HCL.out true (decide_eq_true (by simp only [List.mem_cons, List.not_mem_nil, or_false, forall_eq_or_imp, forall_eq]; exact HFIT.out)).symm).mono ?_
          rintro e w2 ⟨rfl, rfl⟩
          clear HCL
          generalize w1.alloc (.cells #[.slice a0 len0 cap0, .slice a1 len1 cap1, .slice a3 len3 cap3, .slice a4 len4 cap4] 22) = W1 at hbW ⊢
          have HB1 := Lib.hid hbW
          clear hbW hb1
          go_wp2_with fail
          refine (snew_yes a0 len0 cap0 l0 a1 len1 cap1 l1 nc W1 HL0.out (by omega) (rd_now HR0.out HB1.out) HK.out HL1.out (by omega) (rd_now HR1.out HB1.out) HNC.out).mono ?_
          rintro e w2 ⟨g2, rfl, hS2, hb2⟩
          have hz2 := hb2.size
          have HS2 := Lib.hid hS2
          have HA2 := Lib.hid ((rd_now HR3.out HB1.out).below hb2)
          have HP2 := Lib.hid ((rd_now HR4.out HB1.out).below hb2)
          have HB2 := Lib.hid (HB1.out.trans (hb2.mono HB1.out.size))
          clear hb2 hS2
          go_wp2_with fail
          refine (sseal_yes W1.heap.size g2 nc l0 l1 a3 len3 cap3 l3 a4 len4 cap4 l4 w2 HS2.out HK.out (by rw [HL1.out]; omega) HNX.out HL3.out (by omega) hf3 (by omega) HA2.out HL4.out (by omega) HP2.out).mono ?_
          rintro e w3 ⟨g3, rfl, hO3, hS3, hF3⟩
          have hb3 : Below w.heap.size w w3 := HB2.out.trans (hF3.toBelow fun k hk => by
            obtain ⟨_, _, _, _, hs⟩ := HS2.out
            have := hs.lo
            have := HB1.out.size
            have := HB2.out.size
            omega)
          have HB3 := Lib.hid hb3
          have HS3 := Lib.hid hS3
          have HX3 := Lib.hid (ownb_rd hO3)
          clear hO3 hS3 hF3 hb3
          go_wp2_with fail
          refine (seal_yes a0 len0 cap0 l0 a1 len1 cap1 l1 nc a3 len3 cap3 l3 a4 len4 cap4 l4 w3 HL0.out (rd_now HR0.out HB3.out) HK.out HL1.out (by omega) (rd_now HR1.out HB3.out) HNC.out HL3.out (by omega) hf3 (by omega) (rd_now HR3.out HB3.out) HL4.out (by omega) (rd_now HR4.out HB3.out)).mono ?_
          rintro e w4 ⟨g4, m4, rfl, hm4, hO4, hb4⟩
          subst hm4
          have s3 := arg_str (n := 24 + len4) (c := 24 + len4) (by rw [sealL_len, HL4.out]) HX3.out hb4
          have s4 := arg_str (n := 24 + len4) (c := 24 + len4) (by rw [sealL_len, HL4.out]) (ownb_rd hO4) (Below.refl _ _)
          have hS4 := HS3.out.below_ hb4
          have HB4 := Lib.hid (HB3.out.trans (hb4.mono HB3.out.size))
          have HS4 := Lib.hid hS4
          have hnw : ((nc + 1 : Nat) : Int) = (nc : Int) + 1 := by omega
          have hw1 : IntKind.i64.wrap ((nc : Int) + 1) = (nc : Int) + 1 := i64_wraps _ (by omega) (by have := HNX.out; omega)
          clear hO4 hb4 hS4
          generalize str (sealL l0 l1 nc l3 l4) = ts at *
          go_wp2_with (go_at_call 40
                       refine (snext_any W1.heap.size g2 (nc + 1) l0 l1 _ HS4.out).mono ?_
                       rintro e w' ⟨rfl, rfl⟩
                       rw [hnw])
          go_ret
          exact ⟨rfl, HB4.out⟩
        · have HK := Lib.hid hk
          have HNE := Lib.hid (show len0 ≠ 16 ∧ len0 ≠ 32 from ⟨fun e => hk (.inl (by rw [HL0.out]; exact e)), fun e => hk (.inr (by rw [HL0.out]; exact e))⟩)
          clear hk
          go_enter Try.func15, Try.ntmps15
          go_wp2_with fail
          refine (Box.small_any _).mono ?_
          rintro e w1 ⟨rfl, hb1⟩
          have hbW := hb1.alloc hb1.size (.cells #[.slice a0 len0 cap0, .slice a1 len1 cap1, .slice a3 len3 cap3, .slice a4 len4 cap4] 22)
          have hcl : ∀ j (hj : j < ([(⟨a0, len0, cap0, l0⟩ : Part), ⟨a1, len1, cap1, l1⟩, ⟨a3, len3, cap3, l3⟩, ⟨a4, len4, cap4, l4⟩] : List Part).length), (w1.alloc (.cells #[.slice a0 len0 cap0, .slice a1 len1 cap1, .slice a3 len3 cap3, .slice a4 len4 cap4] 22)).cell? ⟨w1.heap.size, j, none⟩ = some ([(⟨a0, len0, cap0, l0⟩ : Part), ⟨a1, len1, cap1, l1⟩, ⟨a3, len3, cap3, l3⟩, ⟨a4, len4, cap4, l4⟩] : List Part)[j].val := lits_cell 22 [(⟨a0, len0, cap0, l0⟩ : Part), ⟨a1, len1, cap1, l1⟩, ⟨a3, len3, cap3, l3⟩, ⟨a4, len4, cap4, l4⟩]
          have HCL := Lib.hid hcl
          clear hcl
          go_wp2_with fail
          refine (fits_any w1.heap.size 4 4 [(⟨a0, len0, cap0, l0⟩ : Part), ⟨a1, len1, cap1, l1⟩, ⟨a3, len3, cap3, l3⟩, ⟨a4, len4, cap4, l4⟩] _ rfl (by omega) HCL.out true (decide_eq_true (by simp only [List.mem_cons, List.not_mem_nil, or_false, forall_eq_or_imp, forall_eq]; exact HFIT.out)).symm).mono ?_
          rintro e w2 ⟨rfl, rfl⟩
          clear HCL
          generalize w1.alloc (.cells #[.slice a0 len0 cap0, .slice a1 len1 cap1, .slice a3 len3 cap3, .slice a4 len4 cap4] 22) = W1 at hbW ⊢
          have HB1 := Lib.hid hbW
          clear hbW hb1
          go_wp2_with fail
          refine (snew_no a0 len0 cap0 l0 a1 len1 cap1 (nc : Int) W1 HL0.out (rd_now HR0.out HB1.out) (.inl HK.out)).mono ?_
          rintro e w2 ⟨rfl, hb2⟩
          have HB2 := Lib.hid (HB1.out.trans (hb2.mono HB1.out.size))
          clear hb2
          have h16 : ((len0 : Int) != 16) = true := by have := HNE.out.1; simp; omega
          have h32 : ((len0 : Int) != 32) = true := by have := HNE.out.2; simp; omega
          go_wp2_with fail
          go_ret
          exact ⟨rfl, HB2.out⟩
  · have HFIT := Lib.hid hfit
    clear hfit hb20 hb21
    go_enter Try.func15, Try.ntmps15
    go_wp2_with fail
    refine (Box.small_any _).mono ?_
    rintro e w1 ⟨rfl, hb1⟩
    have hbW := hb1.alloc hb1.size (.cells #[.slice a0 len0 cap0, .slice a1 len1 cap1, .slice a3 len3 cap3, .slice a4 len4 cap4] 22)
    have hcl : ∀ j (hj : j < ([(⟨a0, len0, cap0, l0⟩ : Part), ⟨a1, len1, cap1, l1⟩, ⟨a3, len3, cap3, l3⟩, ⟨a4, len4, cap4, l4⟩] : List Part).length), (w1.alloc (.cells #[.slice a0 len0 cap0, .slice a1 len1 cap1, .slice a3 len3 cap3, .slice a4 len4 cap4] 22)).cell? ⟨w1.heap.size, j, none⟩ = some ([(⟨a0, len0, cap0, l0⟩ : Part), ⟨a1, len1, cap1, l1⟩, ⟨a3, len3, cap3, l3⟩, ⟨a4, len4, cap4, l4⟩] : List Part)[j].val := lits_cell 22 [(⟨a0, len0, cap0, l0⟩ : Part), ⟨a1, len1, cap1, l1⟩, ⟨a3, len3, cap3, l3⟩, ⟨a4, len4, cap4, l4⟩]
    have HCL := Lib.hid hcl
    clear hcl
    go_wp2_with fail
    refine (fits_any w1.heap.size 4 4 [(⟨a0, len0, cap0, l0⟩ : Part), ⟨a1, len1, cap1, l1⟩, ⟨a3, len3, cap3, l3⟩, ⟨a4, len4, cap4, l4⟩] _ rfl (by omega) HCL.out false (decide_eq_false (by simp only [List.mem_cons, List.not_mem_nil, or_false, forall_eq_or_imp, forall_eq]; exact HFIT.out)).symm).mono ?_
    rintro e w2 ⟨rfl, rfl⟩
    clear HCL
    generalize w1.alloc (.cells #[.slice a0 len0 cap0, .slice a1 len1 cap1, .slice a3 len3 cap3, .slice a4 len4 cap4] 22) = W1 at hbW ⊢
    have HB1 := Lib.hid hbW
    clear hbW hb1
    go_wp2_with fail
    go_ret
    exact ⟨rfl, HB1.out⟩

set_option maxRecDepth 100000 in
theorem lifted (os : Os) (started : os.Started) (H : Type) (enc : TypeId × Value → H) :
    ReturnsInHanded {} Try.checked os 15 .any (Rows.boxSealersSpec.pre6 enc Try.prog Try.f15 Rows.boxSealersRow.domain false) (Rows.boxSealersSpec.post enc Try.prog Try.f15 false true false false) := by
  refine returnsInHanded_of_change_sized (C := Try.checked) own started (by kernel_rfl) Try.func15
    (ChangeSpec.witness6 (enc := enc) (C := Try.checked) false ⟨#[], #[.slice none 0 0, .slice none 0 0, .int .i64 0, .slice none 0 0, .slice none 0 0], []⟩ 8 (by kernel_rfl) (by kernel_rfl) (by kernel_rfl) (by kernel_rfl)) ?_
  intro W base args ds gs before hval0 hW hcnd hsz0 _
  have hval : ∀ (j : Nat) t v, Try.f15.params[j]? = some t → args[j]? = some v → Value.okWide Try.prog W .any base t v := hval0
  have hsz : (DataW.weightsEach Try.prog (Try.f15.params.toList ++ Rows.boxSealersSpec.plain.varTypes Try.prog) (ds ++ gs)).all (· ≤ reachBytes) = true := hsz0
  clear hsz0
  have hW' := hW
  obtain ⟨p, q, hA0, hV, rfl, hfz, hnd⟩ := hW
  have hA : DataW.TrodAll enc Try.prog W 0 (fun _ => true) true Try.f15.params.toList args.toList ds p := hA0
  rw [Try.params15] at hA hval hsz
  obtain ⟨v0, vs0, d0, ds0, p0, q0, hargs, rfl, rfl, h0, r0⟩ := trodAll_cons hA
  obtain ⟨v1, vs1, d1, ds1, p1, q1, rfl, rfl, rfl, h1, r1⟩ := trodAll_cons r0
  obtain ⟨v2, vs2, d2, ds2, p2, q2, rfl, rfl, rfl, h2, r2⟩ := trodAll_cons r1
  obtain ⟨v3, vs3, d3, ds3, p3, q3, rfl, rfl, rfl, h3, r3⟩ := trodAll_cons r2
  obtain ⟨v4, vs4, d4, ds4, p4, q4, rfl, rfl, rfl, h4, r4⟩ := trodAll_cons r3
  obtain ⟨rfl, rfl, rfl⟩ := trodAll_nil r4
  obtain rfl : args = #[v0, v1, v2, v3, v4] := by cases args; simp_all
  obtain ⟨rfl, rfl⟩ := trodVars_none hV
  obtain ⟨a0, len0, cap0, rfl⟩ := okWide_slice Try.underlying22 (hval 0 22 v0 rfl rfl)
  have k0 := h0
  have lt0 : ∀ x ∈ p0, x.block < W.heap.size := by obtain ⟨m, hm⟩ := k0; exact DataW.trod_lt m _ _ _ hm
  obtain ⟨l0, w0⟩ := open_bytes u8 (by kernel_rfl) (by kernel_rfl) h0 hsz (j := 0) rfl rfl
  obtain ⟨a1, len1, cap1, rfl⟩ := okWide_slice Try.underlying22 (hval 1 22 v1 rfl rfl)
  have k1 := h1
  have lt1 : ∀ x ∈ p1, x.block < W.heap.size := by obtain ⟨m, hm⟩ := k1; exact DataW.trod_lt m _ _ _ hm
  obtain ⟨l1, w1⟩ := open_bytes u8 (by kernel_rfl) (by kernel_rfl) h1 hsz (j := 1) rfl rfl
  obtain ⟨a3, len3, cap3, rfl⟩ := okWide_slice Try.underlying22 (hval 3 22 v3 rfl rfl)
  have k3 := h3
  have lt3 : ∀ x ∈ p3, x.block < W.heap.size := by obtain ⟨m, hm⟩ := k3; exact DataW.trod_lt m _ _ _ hm
  obtain ⟨l3, w3⟩ := open_bytes u8 (by kernel_rfl) (by kernel_rfl) h3 hsz (j := 3) rfl rfl
  obtain ⟨a4, len4, cap4, rfl⟩ := okWide_slice Try.underlying22 (hval 4 22 v4 rfl rfl)
  have k4 := h4
  have lt4 : ∀ x ∈ p4, x.block < W.heap.size := by obtain ⟨m, hm⟩ := k4; exact DataW.trod_lt m _ _ _ hm
  obtain ⟨l4, w4⟩ := open_bytes u8 (by kernel_rfl) (by kernel_rfl) h4 hsz (j := 4) rfl rfl
  clear hsz
  obtain ⟨a2, rfl, rfl, rfl, w2⟩ := open_int Try.underlying3 (hval 2 3 v2 rfl rfl) h2
  clear hA0 hval0
  simp only [List.append_nil] at hW'
  refine (walk a0 len0 cap0 l0 a1 len1 cap1 l1 a2 a3 len3 cap3 l3 a4 len4 cap4 l4 W w0 w1 w2 w3 w4).mono fun e W' ⟨he, bel⟩ => ?_
  subst he
  exact ⟨_, rfl, _, _, _, [], _, [], hW', trodAll_mk1 (shut_bool Try.underlying4 _), (trodAll_cons_mk (Below.trod laidOut (by kernel_rfl) (of_decide_eq_true (by kernel_rfl)) k0 bel lt0) (trodAll_cons_mk (Below.trod laidOut (by kernel_rfl) (of_decide_eq_true (by kernel_rfl)) k1 bel lt1) (trodAll_cons_mk (shut_int Try.underlying3 w2) (trodAll_cons_mk (Below.trod laidOut (by kernel_rfl) (of_decide_eq_true (by kernel_rfl)) k3 bel lt3) (trodAll_cons_mk (Below.trod laidOut (by kernel_rfl) (of_decide_eq_true (by kernel_rfl)) k4 bel lt4) trodAll_mk0))))), rfl, bel.frame _, fun h => by cases h⟩

theorem over : Rows.boxSealersRow.holds Try.pinned (OpenSpec.ofChange Rows.boxSealersSpec) :=
  OpenClaim.holds_of_wide 15 Try.f15 rfl rfl rfl rfl rfl rfl rfl ⟨rfl, rfl, rfl, rfl, rfl⟩ rfl rfl rfl rfl rfl (by kernel_rfl) Try.func15 (by kernel_rfl)
    (of_decide_eq_true (by kernel_rfl)) (by unfold Func.isWrapper; first | (rw [if_pos (by decide +kernel)]; kernel_rfl) | (rw [if_neg (by decide +kernel)]; exact ⟨rfl, rfl⟩))
    (fun os started H enc _ => lifted os started H enc)

theorem proved : Rows.BoxSealersSaid := over
end Go.Proofs.Ytcbihjcnnfohmaa.boxSealers
