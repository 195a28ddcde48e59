/- The law 'StreamXors' answers true for every input, and its arguments read afterwards as before; no condition. The frame follows the kit's skeleton; the walk is ours. -/
import Derived.Test.YtcbihjcnnfohmaaRows
import Derived.Test.YtcbihjcnnfohmaaArgs
import Derived.Test.YtcbihjcnnfohmaaStrLaw
import Derived.Test.YtcbihjcnnfohmaaStrRefX
import Derived.Test.YtcbihjcnnfohmaaRwsOwn
import Derived.WalkKit
import Derived.ProofKit
import Derived.OpenShut
import Derived.ShutString
import Derived.ChangeOld
import Derived.Below
import Derived.SizedLaws
namespace Go.Proofs.Ytcbihjcnnfohmaa.streamXors
open Go.ChangeShapes Go.WideShapes Go.ChangeAt Go.RowKit
set_option linter.unusedVariables false

theorem own : ownKnob Try.prog.godebug = none := by kernel_rfl
theorem laidOut : laidOutB Try.prog = true := by kernel_rfl

open Aes Str
set_option linter.unusedSimpArgs false
theorem nil_str (w : World) : (convert 22 9 (.slice none 0 0)).run Try.prog w = .ok (.string (str [])) w := (Rd.nil w 0 none).str u8 9 Try.underlying9 0
theorem rowv_str {w w' : World} {g n : Nat} {l : List UInt8} (hn : l.length = n) (h : RowV w 5 g (bvs l)) (hb : Below w.heap.size w w') : (convert 22 9 (.slice (some ⟨g, 0, none⟩) n n)).run Try.prog w' = .ok (.string (str l)) w' := by
  subst hn
  exact ((row_rd h).below hb).str u8 9 Try.underlying9 _

set_option maxRecDepth 100000 in
set_option maxHeartbeats 4000000 in
theorem walk (a0 : Option Addr) (len0 cap0 : Nat) (l0 : List UInt8) (a1 : Int) (a2 : Int) (a3 : Option Addr) (len3 cap3 : Nat) (l3 : List UInt8) (w : World) (w0 : ArgB w a0 len0 cap0 l0) (w1 : (Lit.int .i64 a1).wf = true) (w2 : (Lit.int .i64 a2).wf = true) (w3 : ArgB w a3 len3 cap3 l3) :
    Calls Try.prog 8 #[.slice a0 len0 cap0, .int .i64 a1, .int .i64 a2, .slice a3 len3 cap3] w fun e w' => e = .returned (.bool true) ∧ Below w.heap.size w w' := by
  obtain ⟨hl0, hf0, hm0, hr0⟩ := w0
  obtain ⟨hl3, hf3, hm3, hr3⟩ := w3
  obtain ⟨hb10, hb11⟩ := bounds_i64 w1
  obtain ⟨hb20, hb21⟩ := bounds_i64 w2
  have HL0 := Lib.hid hl0
  have HR0 := Lib.hid hr0
  have HL3 := Lib.hid hl3
  have HR3 := Lib.hid hr3
  have HM0 := Lib.hid (show len0 ≤ 140737488355328 by omega)
  have HM3 := Lib.hid (show len3 ≤ 140737488355328 by omega)
  clear hl0 hr0 hl3 hr3
  by_cases hc : 1024 < len3 ∧ len3 ≤ 65536
  · have d1 : decide ((1024 : Int) < (len3 : Int)) = true := decide_eq_true (by omega)
    have d2 : decide ((len3 : Int) ≤ 65536) = true := decide_eq_true (by omega)
    clear hc hb10 hb11 hb20 hb21
    go_enter Try.func8, Try.ntmps8
    go_wp2_with fail
    refine (Str.small_any _).mono ?_
    rintro e w1 ⟨rfl, hb1⟩
    have HB1 := Lib.hid hb1
    clear hb1
    go_wp2_with fail
    go_ret
    exact ⟨rfl, HB1.out⟩
  · have hc2 : ¬ 1024 < len3 ∨ 65536 < len3 := by omega
    by_cases hk : ¬ KeyOk l0 ∨ a1 < 0 ∨ a2 < 0
    · have H := Lib.hid hk
      have HB := Lib.hid (show a1 < 9223372036854775808 by omega)
      clear hk hb10 hb11 hb20 hb21
      have HC := Lib.hid hc2
      rcases Nat.lt_or_ge 1024 len3 with hc3 | hc3
      · have d1 : decide ((1024 : Int) < (len3 : Int)) = true := decide_eq_true (by omega)
        have d2 : decide ((len3 : Int) ≤ 65536) = false := decide_eq_false (by omega)
        clear hc hc2 hc3
        go_enter Try.func8, Try.ntmps8
        go_wp2_with fail
        refine (Str.small_any _).mono ?_
        rintro e w1 ⟨rfl, hb1⟩
        have hz1 := hb1.size
        have HB1 := Lib.hid hb1
        clear hb1
        go_wp2_with fail
        clear d1 d2
        refine (lent_any a0 len0 cap0 l0 w1 w.heap.size HB1.out.size HL0.out HM0.out (HR0.out.below HB1.out)).mono ?_
        rintro e w2 ⟨rfl, hrow2, hb2⟩
        have hz2 := hb2.size
        have hr2 : w1.heap.size < w2.heap.size := hrow2.lt
        have HB2 := Lib.hid (HB1.out.trans (hb2.mono HB1.out.size))
        have HW2 := Lib.hid hrow2
        clear hrow2 hb2
        go_wp2_with fail
        refine (lent_any a3 len3 cap3 l3 w2 w.heap.size HB2.out.size HL3.out HM3.out (HR3.out.below HB2.out)).mono ?_
        rintro e w3 ⟨rfl, hrow3, hb3⟩
        have hz3 := hb3.size
        have hr3 : w2.heap.size < w3.heap.size := hrow3.lt
        have HB3 := Lib.hid (HB2.out.trans (hb3.mono HB2.out.size))
        have HW3 := Lib.hid hrow3
        have HV3 := Lib.hid (HW2.out.below hb3 hr2)
        clear hrow3 hb3
        go_wp2_with fail
        refine (xor_no1 (some ⟨w1.heap.size, 0, none⟩) len0 _ l0 (some ⟨w2.heap.size, 0, none⟩) len3 _ a1 a2 w3 HL0.out HV3.out.rd_take HB.out H.out).mono ?_
        rintro e w4 ⟨rfl, hb4⟩
        have hz4 := hb4.size
        have HB4 := Lib.hid (HB3.out.trans (hb4.mono HB3.out.size))
        have HW4 := Lib.hid (HW3.out.below hb4 hr3)
        have HV4 := Lib.hid (HV3.out.below hb4 (by omega))
        clear hb4
        go_wp2_with fail
        refine (refxor_no1 a0 len0 cap0 l0 a3 len3 cap3 a1 a2 w4 HL0.out hf0 (rd_now_ HR0.out HB4.out) H.out).mono ?_
        rintro e w5 ⟨rfl, hb5⟩
        have hz5 := hb5.size
        have HB5 := Lib.hid (HB4.out.trans (hb5.mono HB4.out.size))
        have HW5 := Lib.hid (HW4.out.below hb5 (by omega))
        have HV5 := Lib.hid (HV4.out.below hb5 (by omega))
        have s0 := nil_str w5
        clear hb5
        go_wp2_with fail
        refine (kept_any a0 len0 cap0 w1.heap.size l0 w5 w.heap.size HL0.out HM0.out (HR0.out.below HB5.out) HV5.out).mono ?_
        rintro e w6 ⟨rfl, rfl⟩
        go_wp2_with fail
        refine (kept_any a3 len3 cap3 w2.heap.size l3 w5 w.heap.size HL3.out HM3.out (HR3.out.below HB5.out) HW5.out).mono ?_
        rintro e w6 ⟨rfl, rfl⟩
        have q0 : RowIn w5 ⟨none, 0, 0⟩ w5.heap.size w5.heap.size := ⟨⟨Nat.le_refl _, by show 0 ≤ 9223372036854775807; omega, fun _ => ⟨rfl, rfl⟩⟩, fun g hg => by cases hg⟩
        have hxe : (.slice none 0 0 : Value) = ORow.val ⟨none, 0, 0⟩ := rfl
        have qk : RowIn w5 ⟨some w1.heap.size, len0, len0 + 1⟩ w1.heap.size (w1.heap.size + 1) := orow_row HV5.out (by omega) (by rw [List.length_append, HL0.out]; rfl) (by have := HM0.out; omega)
        have qi : RowIn w5 ⟨some w2.heap.size, len3, len3 + 1⟩ w2.heap.size (w2.heap.size + 1) := orow_row HW5.out (by omega) (by rw [List.length_append, HL3.out]; rfl) (by have := HM3.out; omega)
        have hown : Owns (w5.alloc (.cells #[.slice none 0 0, .slice (some ⟨w1.heap.size, 0, none⟩) len0 (len0 + 1), .slice (some ⟨w2.heap.size, 0, none⟩) len3 (len3 + 1)] 22)) (some ⟨w5.heap.size, 0, none⟩) [(⟨none, 0, 0⟩ : ORow), ⟨some w1.heap.size, len0, len0 + 1⟩, ⟨some w2.heap.size, len3, len3 + 1⟩] := by
          have := owns_new (w := w5) 22 [((⟨none, 0, 0⟩ : ORow), w5.heap.size, w5.heap.size), ((⟨some w1.heap.size, len0, len0 + 1⟩ : ORow), w1.heap.size, w1.heap.size + 1), ((⟨some w2.heap.size, len3, len3 + 1⟩ : ORow), w2.heap.size, w2.heap.size + 1)]
            (by
              intro x hx
              simp only [List.mem_cons, List.not_mem_nil, or_false] at hx
              rcases hx with rfl | rfl | rfl
              · exact ⟨q0, by show w5.heap.size ≤ _; omega⟩
              · exact ⟨qk, by show w1.heap.size + 1 ≤ _; omega⟩
              · exact ⟨qi, by show w2.heap.size + 1 ≤ _; omega⟩)
            (by
              simp only [List.pairwise_cons, List.mem_cons, List.not_mem_nil, or_false, forall_eq_or_imp, forall_eq, List.Pairwise.nil, and_true, false_implies, implies_true]
              omega)
          simp only [List.map_cons, List.map_nil] at this
          rw [← hxe] at this
          exact this
        have hlo : ∀ r ∈ [(⟨none, 0, 0⟩ : ORow), (⟨some w1.heap.size, len0, len0 + 1⟩ : ORow), (⟨some w2.heap.size, len3, len3 + 1⟩ : ORow)], ∀ g, r.a = some g → w.heap.size ≤ g := by
          intro r hr g hg
          simp only [List.mem_cons, List.not_mem_nil, or_false] at hr
          rcases hr with rfl | rfl | rfl
          · have := (q0.own g hg).1; omega
          · injection hg with hg; omega
          · injection hg with hg; omega
        have HOWN := Lib.hid hown
        have HLO := Lib.hid hlo
        clear hown hlo q0 qk qi hxe
        go_wp2_with fail
        refine (owned_any _ 3 3 _ _ rfl (by omega) HOWN.out).mono ?_
        rintro e w9 ⟨rfl, hI⟩
        have HB9 := Lib.hid ((HB5.out.alloc HB5.out.size (.cells #[.slice none 0 0, .slice (some ⟨w1.heap.size, 0, none⟩) len0 (len0 + 1), .slice (some ⟨w2.heap.size, 0, none⟩) len3 (len3 + 1)] 22)).trans (hI.below_ HLO.out))
        clear hI
        go_wp2_with fail
        go_ret
        exact ⟨rfl, HB9.out⟩
      · have d1 : decide ((1024 : Int) < (len3 : Int)) = false := decide_eq_false (by omega)
        clear hc hc2 hc3
        go_enter Try.func8, Try.ntmps8
        go_wp2_with fail
        refine (Str.small_any _).mono ?_
        rintro e w1 ⟨rfl, hb1⟩
        have hz1 := hb1.size
        have HB1 := Lib.hid hb1
        clear hb1
        go_wp2_with fail
        clear d1
        refine (lent_any a0 len0 cap0 l0 w1 w.heap.size HB1.out.size HL0.out HM0.out (HR0.out.below HB1.out)).mono ?_
        rintro e w2 ⟨rfl, hrow2, hb2⟩
        have hz2 := hb2.size
        have hr2 : w1.heap.size < w2.heap.size := hrow2.lt
        have HB2 := Lib.hid (HB1.out.trans (hb2.mono HB1.out.size))
        have HW2 := Lib.hid hrow2
        clear hrow2 hb2
        go_wp2_with fail
        refine (lent_any a3 len3 cap3 l3 w2 w.heap.size HB2.out.size HL3.out HM3.out (HR3.out.below HB2.out)).mono ?_
        rintro e w3 ⟨rfl, hrow3, hb3⟩
        have hz3 := hb3.size
        have hr3 : w2.heap.size < w3.heap.size := hrow3.lt
        have HB3 := Lib.hid (HB2.out.trans (hb3.mono HB2.out.size))
        have HW3 := Lib.hid hrow3
        have HV3 := Lib.hid (HW2.out.below hb3 hr2)
        clear hrow3 hb3
        go_wp2_with fail
        refine (xor_no1 (some ⟨w1.heap.size, 0, none⟩) len0 _ l0 (some ⟨w2.heap.size, 0, none⟩) len3 _ a1 a2 w3 HL0.out HV3.out.rd_take HB.out H.out).mono ?_
        rintro e w4 ⟨rfl, hb4⟩
        have hz4 := hb4.size
        have HB4 := Lib.hid (HB3.out.trans (hb4.mono HB3.out.size))
        have HW4 := Lib.hid (HW3.out.below hb4 hr3)
        have HV4 := Lib.hid (HV3.out.below hb4 (by omega))
        clear hb4
        go_wp2_with fail
        refine (refxor_no1 a0 len0 cap0 l0 a3 len3 cap3 a1 a2 w4 HL0.out hf0 (rd_now_ HR0.out HB4.out) H.out).mono ?_
        rintro e w5 ⟨rfl, hb5⟩
        have hz5 := hb5.size
        have HB5 := Lib.hid (HB4.out.trans (hb5.mono HB4.out.size))
        have HW5 := Lib.hid (HW4.out.below hb5 (by omega))
        have HV5 := Lib.hid (HV4.out.below hb5 (by omega))
        have s0 := nil_str w5
        clear hb5
        go_wp2_with fail
        refine (kept_any a0 len0 cap0 w1.heap.size l0 w5 w.heap.size HL0.out HM0.out (HR0.out.below HB5.out) HV5.out).mono ?_
        rintro e w6 ⟨rfl, rfl⟩
        go_wp2_with fail
        refine (kept_any a3 len3 cap3 w2.heap.size l3 w5 w.heap.size HL3.out HM3.out (HR3.out.below HB5.out) HW5.out).mono ?_
        rintro e w6 ⟨rfl, rfl⟩
        have q0 : RowIn w5 ⟨none, 0, 0⟩ w5.heap.size w5.heap.size := ⟨⟨Nat.le_refl _, by show 0 ≤ 9223372036854775807; omega, fun _ => ⟨rfl, rfl⟩⟩, fun g hg => by cases hg⟩
        have hxe : (.slice none 0 0 : Value) = ORow.val ⟨none, 0, 0⟩ := rfl
        have qk : RowIn w5 ⟨some w1.heap.size, len0, len0 + 1⟩ w1.heap.size (w1.heap.size + 1) := orow_row HV5.out (by omega) (by rw [List.length_append, HL0.out]; rfl) (by have := HM0.out; omega)
        have qi : RowIn w5 ⟨some w2.heap.size, len3, len3 + 1⟩ w2.heap.size (w2.heap.size + 1) := orow_row HW5.out (by omega) (by rw [List.length_append, HL3.out]; rfl) (by have := HM3.out; omega)
        have hown : Owns (w5.alloc (.cells #[.slice none 0 0, .slice (some ⟨w1.heap.size, 0, none⟩) len0 (len0 + 1), .slice (some ⟨w2.heap.size, 0, none⟩) len3 (len3 + 1)] 22)) (some ⟨w5.heap.size, 0, none⟩) [(⟨none, 0, 0⟩ : ORow), ⟨some w1.heap.size, len0, len0 + 1⟩, ⟨some w2.heap.size, len3, len3 + 1⟩] := by
          have := owns_new (w := w5) 22 [((⟨none, 0, 0⟩ : ORow), w5.heap.size, w5.heap.size), ((⟨some w1.heap.size, len0, len0 + 1⟩ : ORow), w1.heap.size, w1.heap.size + 1), ((⟨some w2.heap.size, len3, len3 + 1⟩ : ORow), w2.heap.size, w2.heap.size + 1)]
            (by
              intro x hx
              simp only [List.mem_cons, List.not_mem_nil, or_false] at hx
              rcases hx with rfl | rfl | rfl
              · exact ⟨q0, by show w5.heap.size ≤ _; omega⟩
              · exact ⟨qk, by show w1.heap.size + 1 ≤ _; omega⟩
              · exact ⟨qi, by show w2.heap.size + 1 ≤ _; omega⟩)
            (by
              simp only [List.pairwise_cons, List.mem_cons, List.not_mem_nil, or_false, forall_eq_or_imp, forall_eq, List.Pairwise.nil, and_true, false_implies, implies_true]
              omega)
          simp only [List.map_cons, List.map_nil] at this
          rw [← hxe] at this
          exact this
        have hlo : ∀ r ∈ [(⟨none, 0, 0⟩ : ORow), (⟨some w1.heap.size, len0, len0 + 1⟩ : ORow), (⟨some w2.heap.size, len3, len3 + 1⟩ : ORow)], ∀ g, r.a = some g → w.heap.size ≤ g := by
          intro r hr g hg
          simp only [List.mem_cons, List.not_mem_nil, or_false] at hr
          rcases hr with rfl | rfl | rfl
          · have := (q0.own g hg).1; omega
          · injection hg with hg; omega
          · injection hg with hg; omega
        have HOWN := Lib.hid hown
        have HLO := Lib.hid hlo
        clear hown hlo q0 qk qi hxe
        go_wp2_with fail
        refine (owned_any _ 3 3 _ _ rfl (by omega) HOWN.out).mono ?_
        rintro e w9 ⟨rfl, hI⟩
        have HB9 := Lib.hid ((HB5.out.alloc HB5.out.size (.cells #[.slice none 0 0, .slice (some ⟨w1.heap.size, 0, none⟩) len0 (len0 + 1), .slice (some ⟨w2.heap.size, 0, none⟩) len3 (len3 + 1)] 22)).trans (hI.below_ HLO.out))
        clear hI
        go_wp2_with fail
        go_ret
        exact ⟨rfl, HB9.out⟩
    · have HK := Lib.hid (show KeyOk l0 from Classical.byContradiction fun h => hk (.inl h))
      have h1 : 0 ≤ a1 := Int.not_lt.1 fun h => hk (.inr (.inl h))
      have h2 : 0 ≤ a2 := Int.not_lt.1 fun h => hk (.inr (.inr h))
      obtain ⟨nc, rfl⟩ := Int.eq_ofNat_of_zero_le h1
      obtain ⟨at_, rfl⟩ := Int.eq_ofNat_of_zero_le h2
      have HNC := Lib.hid (show nc < 9223372036854775808 by omega)
      clear hk h1 h2 hb10 hb11 hb20 hb21
      by_cases hx : 65536 < len3 ∨ 1099511627776 < at_
      · have HX := Lib.hid hx
        clear hx
        rcases Nat.lt_or_ge 1024 len3 with hc3 | hc3
        · have d1 : decide ((1024 : Int) < (len3 : Int)) = true := decide_eq_true (by omega)
          have d2 : decide ((len3 : Int) ≤ 65536) = false := decide_eq_false (by omega)
          clear hc hc2 hc3
          go_enter Try.func8, Try.ntmps8
          go_wp2_with fail
          refine (Str.small_any _).mono ?_
          rintro e w1 ⟨rfl, hb1⟩
          have hz1 := hb1.size
          have HB1 := Lib.hid hb1
          clear hb1
          go_wp2_with fail
          clear d1 d2
          refine (lent_any a0 len0 cap0 l0 w1 w.heap.size HB1.out.size HL0.out HM0.out (HR0.out.below HB1.out)).mono ?_
          rintro e w2 ⟨rfl, hrow2, hb2⟩
          have hz2 := hb2.size
          have hr2 : w1.heap.size < w2.heap.size := hrow2.lt
          have HB2 := Lib.hid (HB1.out.trans (hb2.mono HB1.out.size))
          have HW2 := Lib.hid hrow2
          clear hrow2 hb2
          go_wp2_with fail
          refine (lent_any a3 len3 cap3 l3 w2 w.heap.size HB2.out.size HL3.out HM3.out (HR3.out.below HB2.out)).mono ?_
          rintro e w3 ⟨rfl, hrow3, hb3⟩
          have hz3 := hb3.size
          have hr3 : w2.heap.size < w3.heap.size := hrow3.lt
          have HB3 := Lib.hid (HB2.out.trans (hb3.mono HB2.out.size))
          have HW3 := Lib.hid hrow3
          have HV3 := Lib.hid (HW2.out.below hb3 hr2)
          clear hrow3 hb3
          go_wp2_with fail
          refine (xor_no2 (some ⟨w1.heap.size, 0, none⟩) len0 _ l0 (some ⟨w2.heap.size, 0, none⟩) len3 _ nc at_ w3 HL0.out HV3.out.rd_take HK.out HNC.out HX.out).mono ?_
          rintro e w4 ⟨rfl, hb4⟩
          have hz4 := hb4.size
          have HB4 := Lib.hid (HB3.out.trans (hb4.mono HB3.out.size))
          have HW4 := Lib.hid (HW3.out.below hb4 hr3)
          have HV4 := Lib.hid (HV3.out.below hb4 (by omega))
          clear hb4
          go_wp2_with fail
          refine (refxor_no2 a0 len0 cap0 l0 a3 len3 cap3 nc at_ w4 HL0.out hf0 (rd_now_ HR0.out HB4.out) HK.out HX.out).mono ?_
          rintro e w5 ⟨rfl, hb5⟩
          have hz5 := hb5.size
          have HB5 := Lib.hid (HB4.out.trans (hb5.mono HB4.out.size))
          have HW5 := Lib.hid (HW4.out.below hb5 (by omega))
          have HV5 := Lib.hid (HV4.out.below hb5 (by omega))
          have s0 := nil_str w5
          clear hb5
          go_wp2_with fail
          refine (kept_any a0 len0 cap0 w1.heap.size l0 w5 w.heap.size HL0.out HM0.out (HR0.out.below HB5.out) HV5.out).mono ?_
          rintro e w6 ⟨rfl, rfl⟩
          go_wp2_with fail
          refine (kept_any a3 len3 cap3 w2.heap.size l3 w5 w.heap.size HL3.out HM3.out (HR3.out.below HB5.out) HW5.out).mono ?_
          rintro e w6 ⟨rfl, rfl⟩
          have q0 : RowIn w5 ⟨none, 0, 0⟩ w5.heap.size w5.heap.size := ⟨⟨Nat.le_refl _, by show 0 ≤ 9223372036854775807; omega, fun _ => ⟨rfl, rfl⟩⟩, fun g hg => by cases hg⟩
          have hxe : (.slice none 0 0 : Value) = ORow.val ⟨none, 0, 0⟩ := rfl
          have qk : RowIn w5 ⟨some w1.heap.size, len0, len0 + 1⟩ w1.heap.size (w1.heap.size + 1) := orow_row HV5.out (by omega) (by rw [List.length_append, HL0.out]; rfl) (by have := HM0.out; omega)
          have qi : RowIn w5 ⟨some w2.heap.size, len3, len3 + 1⟩ w2.heap.size (w2.heap.size + 1) := orow_row HW5.out (by omega) (by rw [List.length_append, HL3.out]; rfl) (by have := HM3.out; omega)
          have hown : Owns (w5.alloc (.cells #[.slice none 0 0, .slice (some ⟨w1.heap.size, 0, none⟩) len0 (len0 + 1), .slice (some ⟨w2.heap.size, 0, none⟩) len3 (len3 + 1)] 22)) (some ⟨w5.heap.size, 0, none⟩) [(⟨none, 0, 0⟩ : ORow), ⟨some w1.heap.size, len0, len0 + 1⟩, ⟨some w2.heap.size, len3, len3 + 1⟩] := by
            have := owns_new (w := w5) 22 [((⟨none, 0, 0⟩ : ORow), w5.heap.size, w5.heap.size), ((⟨some w1.heap.size, len0, len0 + 1⟩ : ORow), w1.heap.size, w1.heap.size + 1), ((⟨some w2.heap.size, len3, len3 + 1⟩ : ORow), w2.heap.size, w2.heap.size + 1)]
              (by
                intro x hx
                simp only [List.mem_cons, List.not_mem_nil, or_false] at hx
                rcases hx with rfl | rfl | rfl
                · exact ⟨q0, by show w5.heap.size ≤ _; omega⟩
                · exact ⟨qk, by show w1.heap.size + 1 ≤ _; omega⟩
                · exact ⟨qi, by show w2.heap.size + 1 ≤ _; omega⟩)
              (by
                simp only [List.pairwise_cons, List.mem_cons, List.not_mem_nil, or_false, forall_eq_or_imp, forall_eq, List.Pairwise.nil, and_true, false_implies, implies_true]
                omega)
            simp only [List.map_cons, List.map_nil] at this
            rw [← hxe] at this
            exact this
          have hlo : ∀ r ∈ [(⟨none, 0, 0⟩ : ORow), (⟨some w1.heap.size, len0, len0 + 1⟩ : ORow), (⟨some w2.heap.size, len3, len3 + 1⟩ : ORow)], ∀ g, r.a = some g → w.heap.size ≤ g := by
            intro r hr g hg
            simp only [List.mem_cons, List.not_mem_nil, or_false] at hr
            rcases hr with rfl | rfl | rfl
            · have := (q0.own g hg).1; omega
            · injection hg with hg; omega
            · injection hg with hg; omega
          have HOWN := Lib.hid hown
          have HLO := Lib.hid hlo
          clear hown hlo q0 qk qi hxe
          go_wp2_with fail
          refine (owned_any _ 3 3 _ _ rfl (by omega) HOWN.out).mono ?_
          rintro e w9 ⟨rfl, hI⟩
          have HB9 := Lib.hid ((HB5.out.alloc HB5.out.size (.cells #[.slice none 0 0, .slice (some ⟨w1.heap.size, 0, none⟩) len0 (len0 + 1), .slice (some ⟨w2.heap.size, 0, none⟩) len3 (len3 + 1)] 22)).trans (hI.below_ HLO.out))
          clear hI
          go_wp2_with fail
          go_ret
          exact ⟨rfl, HB9.out⟩
        · have d1 : decide ((1024 : Int) < (len3 : Int)) = false := decide_eq_false (by omega)
          clear hc hc2 hc3
          go_enter Try.func8, Try.ntmps8
          go_wp2_with fail
          refine (Str.small_any _).mono ?_
          rintro e w1 ⟨rfl, hb1⟩
          have hz1 := hb1.size
          have HB1 := Lib.hid hb1
          clear hb1
          go_wp2_with fail
          clear d1
          refine (lent_any a0 len0 cap0 l0 w1 w.heap.size HB1.out.size HL0.out HM0.out (HR0.out.below HB1.out)).mono ?_
          rintro e w2 ⟨rfl, hrow2, hb2⟩
          have hz2 := hb2.size
          have hr2 : w1.heap.size < w2.heap.size := hrow2.lt
          have HB2 := Lib.hid (HB1.out.trans (hb2.mono HB1.out.size))
          have HW2 := Lib.hid hrow2
          clear hrow2 hb2
          go_wp2_with fail
          refine (lent_any a3 len3 cap3 l3 w2 w.heap.size HB2.out.size HL3.out HM3.out (HR3.out.below HB2.out)).mono ?_
          rintro e w3 ⟨rfl, hrow3, hb3⟩
          have hz3 := hb3.size
          have hr3 : w2.heap.size < w3.heap.size := hrow3.lt
          have HB3 := Lib.hid (HB2.out.trans (hb3.mono HB2.out.size))
          have HW3 := Lib.hid hrow3
          have HV3 := Lib.hid (HW2.out.below hb3 hr2)
          clear hrow3 hb3
          go_wp2_with fail
          refine (xor_no2 (some ⟨w1.heap.size, 0, none⟩) len0 _ l0 (some ⟨w2.heap.size, 0, none⟩) len3 _ nc at_ w3 HL0.out HV3.out.rd_take HK.out HNC.out HX.out).mono ?_
          rintro e w4 ⟨rfl, hb4⟩
          have hz4 := hb4.size
          have HB4 := Lib.hid (HB3.out.trans (hb4.mono HB3.out.size))
          have HW4 := Lib.hid (HW3.out.below hb4 hr3)
          have HV4 := Lib.hid (HV3.out.below hb4 (by omega))
          clear hb4
          go_wp2_with fail
          refine (refxor_no2 a0 len0 cap0 l0 a3 len3 cap3 nc at_ w4 HL0.out hf0 (rd_now_ HR0.out HB4.out) HK.out HX.out).mono ?_
          rintro e w5 ⟨rfl, hb5⟩
          have hz5 := hb5.size
          have HB5 := Lib.hid (HB4.out.trans (hb5.mono HB4.out.size))
          have HW5 := Lib.hid (HW4.out.below hb5 (by omega))
          have HV5 := Lib.hid (HV4.out.below hb5 (by omega))
          have s0 := nil_str w5
          clear hb5
          go_wp2_with fail
          refine (kept_any a0 len0 cap0 w1.heap.size l0 w5 w.heap.size HL0.out HM0.out (HR0.out.below HB5.out) HV5.out).mono ?_
          rintro e w6 ⟨rfl, rfl⟩
          go_wp2_with fail
          refine (kept_any a3 len3 cap3 w2.heap.size l3 w5 w.heap.size HL3.out HM3.out (HR3.out.below HB5.out) HW5.out).mono ?_
          rintro e w6 ⟨rfl, rfl⟩
          have q0 : RowIn w5 ⟨none, 0, 0⟩ w5.heap.size w5.heap.size := ⟨⟨Nat.le_refl _, by show 0 ≤ 9223372036854775807; omega, fun _ => ⟨rfl, rfl⟩⟩, fun g hg => by cases hg⟩
          have hxe : (.slice none 0 0 : Value) = ORow.val ⟨none, 0, 0⟩ := rfl
          have qk : RowIn w5 ⟨some w1.heap.size, len0, len0 + 1⟩ w1.heap.size (w1.heap.size + 1) := orow_row HV5.out (by omega) (by rw [List.length_append, HL0.out]; rfl) (by have := HM0.out; omega)
          have qi : RowIn w5 ⟨some w2.heap.size, len3, len3 + 1⟩ w2.heap.size (w2.heap.size + 1) := orow_row HW5.out (by omega) (by rw [List.length_append, HL3.out]; rfl) (by have := HM3.out; omega)
          have hown : Owns (w5.alloc (.cells #[.slice none 0 0, .slice (some ⟨w1.heap.size, 0, none⟩) len0 (len0 + 1), .slice (some ⟨w2.heap.size, 0, none⟩) len3 (len3 + 1)] 22)) (some ⟨w5.heap.size, 0, none⟩) [(⟨none, 0, 0⟩ : ORow), ⟨some w1.heap.size, len0, len0 + 1⟩, ⟨some w2.heap.size, len3, len3 + 1⟩] := by
            have := owns_new (w := w5) 22 [((⟨none, 0, 0⟩ : ORow), w5.heap.size, w5.heap.size), ((⟨some w1.heap.size, len0, len0 + 1⟩ : ORow), w1.heap.size, w1.heap.size + 1), ((⟨some w2.heap.size, len3, len3 + 1⟩ : ORow), w2.heap.size, w2.heap.size + 1)]
              (by
                intro x hx
                simp only [List.mem_cons, List.not_mem_nil, or_false] at hx
                rcases hx with rfl | rfl | rfl
                · exact ⟨q0, by show w5.heap.size ≤ _; omega⟩
                · exact ⟨qk, by show w1.heap.size + 1 ≤ _; omega⟩
                · exact ⟨qi, by show w2.heap.size + 1 ≤ _; omega⟩)
              (by
                simp only [List.pairwise_cons, List.mem_cons, List.not_mem_nil, or_false, forall_eq_or_imp, forall_eq, List.Pairwise.nil, and_true, false_implies, implies_true]
                omega)
            simp only [List.map_cons, List.map_nil] at this
            rw [← hxe] at this
            exact this
          have hlo : ∀ r ∈ [(⟨none, 0, 0⟩ : ORow), (⟨some w1.heap.size, len0, len0 + 1⟩ : ORow), (⟨some w2.heap.size, len3, len3 + 1⟩ : ORow)], ∀ g, r.a = some g → w.heap.size ≤ g := by
            intro r hr g hg
            simp only [List.mem_cons, List.not_mem_nil, or_false] at hr
            rcases hr with rfl | rfl | rfl
            · have := (q0.own g hg).1; omega
            · injection hg with hg; omega
            · injection hg with hg; omega
          have HOWN := Lib.hid hown
          have HLO := Lib.hid hlo
          clear hown hlo q0 qk qi hxe
          go_wp2_with fail
          refine (owned_any _ 3 3 _ _ rfl (by omega) HOWN.out).mono ?_
          rintro e w9 ⟨rfl, hI⟩
          have HB9 := Lib.hid ((HB5.out.alloc HB5.out.size (.cells #[.slice none 0 0, .slice (some ⟨w1.heap.size, 0, none⟩) len0 (len0 + 1), .slice (some ⟨w2.heap.size, 0, none⟩) len3 (len3 + 1)] 22)).trans (hI.below_ HLO.out))
          clear hI
          go_wp2_with fail
          go_ret
          exact ⟨rfl, HB9.out⟩
      · have HAT := Lib.hid (show at_ ≤ 1099511627776 by omega)
        have hc3 : len3 ≤ 1024 := by omega
        have d1 : decide ((1024 : Int) < (len3 : Int)) = false := decide_eq_false (by omega)
        clear hc hc2 hx
        go_enter Try.func8, Try.ntmps8
        go_wp2_with fail
        refine (Str.small_any _).mono ?_
        rintro e w1 ⟨rfl, hb1⟩
        have hz1 := hb1.size
        have HB1 := Lib.hid hb1
        clear hb1
        go_wp2_with fail
        clear d1
        refine (lent_any a0 len0 cap0 l0 w1 w.heap.size HB1.out.size HL0.out HM0.out (HR0.out.below HB1.out)).mono ?_
        rintro e w2 ⟨rfl, hrow2, hb2⟩
        have hz2 := hb2.size
        have hr2 : w1.heap.size < w2.heap.size := hrow2.lt
        have HB2 := Lib.hid (HB1.out.trans (hb2.mono HB1.out.size))
        have HW2 := Lib.hid hrow2
        clear hrow2 hb2
        go_wp2_with fail
        refine (lent_any a3 len3 cap3 l3 w2 w.heap.size HB2.out.size HL3.out HM3.out (HR3.out.below HB2.out)).mono ?_
        rintro e w3 ⟨rfl, hrow3, hb3⟩
        have hz3 := hb3.size
        have hr3 : w2.heap.size < w3.heap.size := hrow3.lt
        have HB3 := Lib.hid (HB2.out.trans (hb3.mono HB2.out.size))
        have HW3 := Lib.hid hrow3
        have HV3 := Lib.hid (HW2.out.below hb3 hr2)
        clear hrow3 hb3
        go_wp2_with fail
        refine (xor_yes (some ⟨w1.heap.size, 0, none⟩) len0 _ l0 (some ⟨w2.heap.size, 0, none⟩) len3 _ l3 nc at_ HNC.out HAT.out w3 HL0.out HV3.out.rd_take HK.out HL3.out (by omega) HW3.out.rd_take).mono ?_
        rintro e w4 ⟨v4, rfl, ho4, hb4⟩
        obtain ⟨A4, c4, hv4, _, hcc4⟩ := ho4.form
        rw [xorS_length, HL3.out] at hv4 hcc4
        subst hv4
        have hz4 := hb4.size
        have HB4 := Lib.hid (HB3.out.trans (hb4.mono HB3.out.size))
        have HW4 := Lib.hid (HW3.out.below hb4 hr3)
        have HV4 := Lib.hid (HV3.out.below hb4 (by omega))
        have HO4 := Lib.hid ho4
        clear hb4 ho4
        go_wp2_with fail
        refine (refxor_any a0 len0 cap0 l0 a3 len3 cap3 l3 nc at_ HAT.out w4 HL0.out hf0 (rd_now_ HR0.out HB4.out) HK.out HL3.out (by omega) (rd_now_ HR3.out HB4.out)).mono ?_
        rintro e w5 ⟨v5, rfl, ho5, hb5⟩
        obtain ⟨A5, c5, hv5, hr5, hcc5⟩ := ho5.form
        rw [xorS_length, HL3.out] at hv5 hcc5
        subst hv5
        have hz5 := hb5.size
        have HB5 := Lib.hid (HB4.out.trans (hb5.mono HB4.out.size))
        have HW5 := Lib.hid (HW4.out.below hb5 (by omega))
        have HV5 := Lib.hid (HV4.out.below hb5 (by omega))
        have hO5 := HO4.out.below hb5
        have HO5 := Lib.hid hO5
        have s4 := own_str hO5
        have s5 := arg_str (c := c5) (n := len3) (by rw [xorS_length]; exact HL3.out) hr5 (Below.refl _ _)
        clear hr5 hb5 ho5 hO5
        generalize str (xorS l0 nc at_ l3) = tx at *
        go_wp2_with fail
        refine (kept_any a0 len0 cap0 w1.heap.size l0 w5 w.heap.size HL0.out HM0.out (HR0.out.below HB5.out) HV5.out).mono ?_
        rintro e w6 ⟨rfl, rfl⟩
        go_wp2_with fail
        refine (kept_any a3 len3 cap3 w2.heap.size l3 w5 w.heap.size HL3.out HM3.out (HR3.out.below HB5.out) HW5.out).mono ?_
        rintro e w6 ⟨rfl, rfl⟩
        have q4 := toO_own HO5.out
        have hxe := q4.1
        have qk : RowIn w5 ⟨some w1.heap.size, len0, len0 + 1⟩ w1.heap.size (w1.heap.size + 1) := orow_row HV5.out (by omega) (by rw [List.length_append, HL0.out]; rfl) (by have := HM0.out; omega)
        have qi : RowIn w5 ⟨some w2.heap.size, len3, len3 + 1⟩ w2.heap.size (w2.heap.size + 1) := orow_row HW5.out (by omega) (by rw [List.length_append, HL3.out]; rfl) (by have := HM3.out; omega)
        have hown : Owns (w5.alloc (.cells #[.slice A4 len3 c4, .slice (some ⟨w1.heap.size, 0, none⟩) len0 (len0 + 1), .slice (some ⟨w2.heap.size, 0, none⟩) len3 (len3 + 1)] 22)) (some ⟨w5.heap.size, 0, none⟩) [toO (.slice A4 len3 c4), ⟨some w1.heap.size, len0, len0 + 1⟩, ⟨some w2.heap.size, len3, len3 + 1⟩] := by
          have := owns_new (w := w5) 22 [(toO (.slice A4 len3 c4), w3.heap.size, w5.heap.size), ((⟨some w1.heap.size, len0, len0 + 1⟩ : ORow), w1.heap.size, w1.heap.size + 1), ((⟨some w2.heap.size, len3, len3 + 1⟩ : ORow), w2.heap.size, w2.heap.size + 1)]
            (by
              intro x hx
              simp only [List.mem_cons, List.not_mem_nil, or_false] at hx
              rcases hx with rfl | rfl | rfl
              · exact ⟨q4.2.1, by show w5.heap.size ≤ _; omega⟩
              · exact ⟨qk, by show w1.heap.size + 1 ≤ _; omega⟩
              · exact ⟨qi, by show w2.heap.size + 1 ≤ _; omega⟩)
            (by
              simp only [List.pairwise_cons, List.mem_cons, List.not_mem_nil, or_false, forall_eq_or_imp, forall_eq, List.Pairwise.nil, and_true, false_implies, implies_true]
              omega)
          simp only [List.map_cons, List.map_nil] at this
          rw [← hxe] at this
          exact this
        have hlo : ∀ r ∈ [toO (.slice A4 len3 c4), (⟨some w1.heap.size, len0, len0 + 1⟩ : ORow), (⟨some w2.heap.size, len3, len3 + 1⟩ : ORow)], ∀ g, r.a = some g → w.heap.size ≤ g := by
          intro r hr g hg
          simp only [List.mem_cons, List.not_mem_nil, or_false] at hr
          rcases hr with rfl | rfl | rfl
          · have := (q4.2.1.own g hg).1; omega
          · injection hg with hg; omega
          · injection hg with hg; omega
        have HOWN := Lib.hid hown
        have HLO := Lib.hid hlo
        clear hown hlo q4 qk qi hxe
        go_wp2_with fail
        refine (owned_any _ 3 3 _ _ rfl (by omega) HOWN.out).mono ?_
        rintro e w9 ⟨rfl, hI⟩
        have HB9 := Lib.hid ((HB5.out.alloc HB5.out.size (.cells #[.slice A4 len3 c4, .slice (some ⟨w1.heap.size, 0, none⟩) len0 (len0 + 1), .slice (some ⟨w2.heap.size, 0, none⟩) len3 (len3 + 1)] 22)).trans (hI.below_ HLO.out))
        clear hI
        go_wp2_with fail
        go_ret
        exact ⟨rfl, HB9.out⟩

set_option maxRecDepth 100000 in
theorem lifted (os : Os) (started : os.Started) (H : Type) (enc : TypeId × Value → H) :
    ReturnsInHanded {} Try.checked os 8 .any (Rows.streamXorsSpec.pre6 enc Try.prog Try.f8 Rows.streamXorsRow.domain false) (Rows.streamXorsSpec.post enc Try.prog Try.f8 false true false false) := by
  refine returnsInHanded_of_change_sized (C := Try.checked) own started (by kernel_rfl) Try.func8
    (ChangeSpec.witness6 (enc := enc) (C := Try.checked) false ⟨#[], #[.slice none 0 0, .int .i64 0, .int .i64 0, .slice none 0 0], []⟩ 8 (by kernel_rfl) (by kernel_rfl) (by kernel_rfl) (by kernel_rfl)) ?_
  intro W base args ds gs before hval0 hW hcnd hsz0 _
  have hval : ∀ (j : Nat) t v, Try.f8.params[j]? = some t → args[j]? = some v → Value.okWide Try.prog W .any base t v := hval0
  have hsz : (DataW.weightsEach Try.prog (Try.f8.params.toList ++ Rows.streamXorsSpec.plain.varTypes Try.prog) (ds ++ gs)).all (· ≤ reachBytes) = true := hsz0
  clear hsz0
  have hW' := hW
  obtain ⟨p, q, hA0, hV, rfl, hfz, hnd⟩ := hW
  have hA : DataW.TrodAll enc Try.prog W 0 (fun _ => true) true Try.f8.params.toList args.toList ds p := hA0
  rw [Try.params8] at hA hval hsz
  obtain ⟨v0, vs0, d0, ds0, p0, q0, hargs, rfl, rfl, h0, r0⟩ := trodAll_cons hA
  obtain ⟨v1, vs1, d1, ds1, p1, q1, rfl, rfl, rfl, h1, r1⟩ := trodAll_cons r0
  obtain ⟨v2, vs2, d2, ds2, p2, q2, rfl, rfl, rfl, h2, r2⟩ := trodAll_cons r1
  obtain ⟨v3, vs3, d3, ds3, p3, q3, rfl, rfl, rfl, h3, r3⟩ := trodAll_cons r2
  obtain ⟨rfl, rfl, rfl⟩ := trodAll_nil r3
  obtain rfl : args = #[v0, v1, v2, v3] := by cases args; simp_all
  obtain ⟨rfl, rfl⟩ := trodVars_none hV
  obtain ⟨a0, len0, cap0, rfl⟩ := okWide_slice Try.underlying22 (hval 0 22 v0 rfl rfl)
  have k0 := h0
  have lt0 : ∀ x ∈ p0, x.block < W.heap.size := by obtain ⟨m, hm⟩ := k0; exact DataW.trod_lt m _ _ _ hm
  obtain ⟨l0, w0⟩ := open_bytes u8 (by kernel_rfl) (by kernel_rfl) h0 hsz (j := 0) rfl rfl
  obtain ⟨a3, len3, cap3, rfl⟩ := okWide_slice Try.underlying22 (hval 3 22 v3 rfl rfl)
  have k3 := h3
  have lt3 : ∀ x ∈ p3, x.block < W.heap.size := by obtain ⟨m, hm⟩ := k3; exact DataW.trod_lt m _ _ _ hm
  obtain ⟨l3, w3⟩ := open_bytes u8 (by kernel_rfl) (by kernel_rfl) h3 hsz (j := 3) rfl rfl
  clear hsz
  obtain ⟨a1, rfl, rfl, rfl, w1⟩ := open_int Try.underlying3 (hval 1 3 v1 rfl rfl) h1
  obtain ⟨a2, rfl, rfl, rfl, w2⟩ := open_int Try.underlying3 (hval 2 3 v2 rfl rfl) h2
  clear hA0 hval0
  simp only [List.append_nil] at hW'
  refine (walk a0 len0 cap0 l0 a1 a2 a3 len3 cap3 l3 W w0 w1 w2 w3).mono fun e W' ⟨he, bel⟩ => ?_
  subst he
  exact ⟨_, rfl, _, _, _, [], _, [], hW', trodAll_mk1 (shut_bool Try.underlying4 _), (trodAll_cons_mk (Below.trod laidOut (by kernel_rfl) (of_decide_eq_true (by kernel_rfl)) k0 bel lt0) (trodAll_cons_mk (shut_int Try.underlying3 w1) (trodAll_cons_mk (shut_int Try.underlying3 w2) (trodAll_cons_mk (Below.trod laidOut (by kernel_rfl) (of_decide_eq_true (by kernel_rfl)) k3 bel lt3) trodAll_mk0)))), rfl, bel.frame _, fun h => by cases h⟩

theorem over : Rows.streamXorsRow.holds Try.pinned (OpenSpec.ofChange Rows.streamXorsSpec) :=
  OpenClaim.holds_of_wide 8 Try.f8 rfl rfl rfl rfl rfl rfl rfl ⟨rfl, rfl, rfl, rfl, rfl⟩ rfl rfl rfl rfl rfl (by kernel_rfl) Try.func8 (by kernel_rfl)
    (of_decide_eq_true (by kernel_rfl)) (by unfold Func.isWrapper; first | (rw [if_pos (by decide +kernel)]; kernel_rfl) | (rw [if_neg (by decide +kernel)]; exact ⟨rfl, rfl⟩))
    (fun os started H enc _ => lifted os started H enc)

theorem proved : Rows.StreamXorsSaid := over
end Go.Proofs.Ytcbihjcnnfohmaa.streamXors
