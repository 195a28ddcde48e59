/- The law 'StreamBytes' answers true for every input, and its arguments read afterwards as before; no condition. The frame follows the kit's skeleton; the walk is ours. -/
import Derived.Test.YtcbihjcnnfohmaaRows
import Derived.Test.YtcbihjcnnfohmaaArgs
import Derived.Test.YtcbihjcnnfohmaaStrLaw
import Derived.WalkKit
import Derived.ProofKit
import Derived.OpenShut
import Derived.ShutString
import Derived.ChangeOld
import Derived.Below
import Derived.SizedLaws
namespace Go.Proofs.Ytcbihjcnnfohmaa.streamBytes
open Go.ChangeShapes Go.WideShapes Go.ChangeAt Go.RowKit
set_option linter.unusedVariables false

theorem own : ownKnob Try.prog.godebug = none := by kernel_rfl
theorem laidOut : laidOutB Try.prog = true := by kernel_rfl

open Aes Str
set_option linter.unusedSimpArgs false

set_option maxRecDepth 100000 in
set_option maxHeartbeats 4000000 in
theorem walk (a0 : Option Addr) (len0 cap0 : Nat) (l0 : List UInt8) (a1 : Int) (a2 : Int) (a3 : Option Addr) (len3 cap3 : Nat) (l3 : List UInt8) (a4 : Int) (w : World) (w0 : ArgB w a0 len0 cap0 l0) (w1 : (Lit.int .i64 a1).wf = true) (w2 : (Lit.int .i64 a2).wf = true) (w3 : ArgB w a3 len3 cap3 l3) (w4 : (Lit.int .i64 a4).wf = true) :
    Calls Try.prog 12 #[.slice a0 len0 cap0, .int .i64 a1, .int .i64 a2, .slice a3 len3 cap3, .int .i64 a4] w fun e w' => e = .returned (.bool true) ∧ Below w.heap.size w w' := by
  obtain ⟨hl0, hf0, hm0, hr0⟩ := w0
  obtain ⟨hb10, hb11⟩ := bounds_i64 w1
  obtain ⟨hb20, hb21⟩ := bounds_i64 w2
  obtain ⟨hl3, hf3, hm3, hr3⟩ := w3
  obtain ⟨hb40, hb41⟩ := bounds_i64 w4
  have HL0 := Lib.hid hl0
  have HR0 := Lib.hid hr0
  have HL3 := Lib.hid hl3
  have HF3 := Lib.hid hf3
  have HR3 := Lib.hid hr3
  clear hl0 hr0 hl3 hr3 hf3 hf0 hm0 hm3
  by_cases c0 : 1024 < (len3 : Int)
  · have d0 : decide ((1024 : Int) < (len3 : Int)) = true := decide_eq_true c0
    clear c0 hb10 hb11 hb20 hb21 hb40 hb41
    go_enter Try.func12, Try.ntmps12
    go_wp2_with fail
    refine (Str.small_any _).mono ?_
    rintro e w1 ⟨rfl, hb1⟩
    go_wp2_with fail
    go_ret
    exact ⟨rfl, hb1⟩
  have d0 : decide ((1024 : Int) < (len3 : Int)) = false := decide_eq_false c0
  by_cases c1 : a2 < 0
  · have d1 : decide (a2 < (0 : Int)) = true := decide_eq_true c1
    clear c0 c1 hb10 hb11 hb20 hb21 hb40 hb41
    go_enter Try.func12, Try.ntmps12
    go_wp2_with fail
    refine (Str.small_any _).mono ?_
    rintro e w1 ⟨rfl, hb1⟩
    go_wp2_with fail
    go_ret
    exact ⟨rfl, hb1⟩
  have d1 : decide (a2 < (0 : Int)) = false := decide_eq_false c1
  by_cases c2 : 1073741824 < a2
  · have d2 : decide ((1073741824 : Int) < a2) = true := decide_eq_true c2
    clear c0 c1 c2 hb10 hb11 hb20 hb21 hb40 hb41
    go_enter Try.func12, Try.ntmps12
    go_wp2_with fail
    refine (Str.small_any _).mono ?_
    rintro e w1 ⟨rfl, hb1⟩
    go_wp2_with fail
    go_ret
    exact ⟨rfl, hb1⟩
  have d2 : decide ((1073741824 : Int) < a2) = false := decide_eq_false c2
  by_cases c3 : a4 < 0
  · have d3 : decide (a4 < (0 : Int)) = true := decide_eq_true c3
    clear c0 c1 c2 c3 hb10 hb11 hb20 hb21 hb40 hb41
    go_enter Try.func12, Try.ntmps12
    go_wp2_with fail
    refine (Str.small_any _).mono ?_
    rintro e w1 ⟨rfl, hb1⟩
    go_wp2_with fail
    go_ret
    exact ⟨rfl, hb1⟩
  have d3 : decide (a4 < (0 : Int)) = false := decide_eq_false c3
  by_cases c4 : (len3 : Int) ≤ a4
  · have d4 : decide ((len3 : Int) ≤ a4) = true := decide_eq_true c4
    clear c0 c1 c2 c3 c4 hb10 hb11 hb20 hb21 hb40 hb41
    go_enter Try.func12, Try.ntmps12
    go_wp2_with fail
    refine (Str.small_any _).mono ?_
    rintro e w1 ⟨rfl, hb1⟩
    go_wp2_with fail
    go_ret
    exact ⟨rfl, hb1⟩
  have d4 : decide ((len3 : Int) ≤ a4) = false := decide_eq_false c4
  obtain ⟨ct, rfl⟩ := Int.eq_ofNat_of_zero_le (Int.not_lt.1 c3)
  obtain ⟨st, rfl⟩ := Int.eq_ofNat_of_zero_le (Int.not_lt.1 c1)
  have HCT := Lib.hid (show ct < len3 by omega)
  have HL := Lib.hid (show len3 ≤ 1024 by omega)
  have n3 : decide (len3 ≤ ct) = false := decide_eq_false (by omega)
  have HST := Lib.hid (show st ≤ 1073741824 by omega)
  by_cases hk : ¬ KeyOk l0 ∨ a1 < 0
  · have H := Lib.hid (show ¬ KeyOk l0 ∨ a1 < 0 ∨ (st : Int) < 0 from hk.elim .inl fun h => .inr (.inl h))
    have HB := Lib.hid (show a1 < 9223372036854775808 by omega)
    clear hk c0 c1 c2 c3 c4 hb10 hb11 hb20 hb21 hb40 hb41
    go_enter Try.func12, Try.ntmps12
    go_wp2_with fail
    refine (Str.small_any _).mono ?_
    rintro e w1 ⟨rfl, hb1⟩
    have HB1 := Lib.hid hb1
    clear hb1
    go_wp2_with fail
    refine (xor_no1 a0 len0 cap0 l0 a3 len3 cap3 a1 (st : Int) w1 HL0.out (rd_now HR0.out HB1.out) HB.out H.out).mono ?_
    rintro e w2 ⟨rfl, hb2⟩
    have HB2 := Lib.hid (HB1.out.trans (hb2.mono HB1.out.size))
    clear hb2
    go_wp2_with fail
    go_ret
    exact ⟨rfl, HB2.out⟩
  · have HK := Lib.hid (show KeyOk l0 from Classical.byContradiction fun h => hk (.inl h))
    have h1 : 0 ≤ a1 := Int.not_lt.1 fun h => hk (.inr h)
    obtain ⟨nc, rfl⟩ := Int.eq_ofNat_of_zero_le h1
    have HNC := Lib.hid (show nc < 9223372036854775808 by omega)
    obtain ⟨sm, hsm⟩ : ∃ sm, st + ct = sm := ⟨_, rfl⟩
    obtain ⟨q, hq⟩ : ∃ q, sm / 16 = q := ⟨_, rfl⟩
    obtain ⟨r, hr⟩ : ∃ r, sm % 16 = r := ⟨_, rfl⟩
    have mu : IntKind.i64.wrap ((st : Int) + (ct : Int)) = (sm : Int) := by
      rw [show (st : Int) + (ct : Int) = (sm : Int) by omega]
      exact i64_wraps _ (by omega) (by omega)
    have mr : (sm : Int).tmod 16 = (r : Int) := by rw [Int.tmod_eq_emod_of_nonneg (by omega)]; omega
    have MR := Lib.hid mr
    have MU := Lib.hid mu
    have mb : sm ≤ 1073742848 := by omega
    have HQW := Lib.hid (show (sm : Int) / 16 = (q : Int) by omega)
    have HR16 := Lib.hid (show r < 16 by omega)
    have HQB := Lib.hid (show q < 9223372036854775808 by omega)
    have HSM := Lib.hid hsm
    have HQ := Lib.hid hq
    have HRR := Lib.hid hr
    clear hk h1 c0 c1 c2 c3 c4 hb10 hb11 hb20 hb21 hb40 hb41 hsm hq hr mr
    go_enter Try.func12, Try.ntmps12
    go_wp2_with fail
    refine (Str.small_any _).mono ?_
    rintro e w1 ⟨rfl, hb1⟩
    have HB1 := Lib.hid hb1
    clear hb1
    go_wp2_with fail
    refine (xor_yes a0 len0 cap0 l0 a3 len3 cap3 l3 nc st HNC.out (by have := HST.out; omega) w1 HL0.out (rd_now HR0.out HB1.out) HK.out HL3.out (by have := HL.out; omega) (rd_now HR3.out HB1.out)).mono ?_
    rintro e w2 ⟨v2, rfl, ho2, hb2⟩
    have hx2 : (xorS l0 nc st l3).length = len3 := by rw [xorS_length, HL3.out]
    obtain ⟨A2, c2, hv2, _, hcc2⟩ := ho2.form
    rw [hx2] at hv2 hcc2
    subst hv2
    have HX2 := Lib.hid hx2
    have HB2 := Lib.hid (HB1.out.trans (hb2.mono HB1.out.size))
    have HO2 := Lib.hid ho2
    clear hb2 ho2 hx2
    go_wp2_with fail
    rw [HQW.out]
    refine (pad_yes a0 len0 cap0 l0 nc q HNC.out HQB.out w2 w.heap.size HB2.out.size HL0.out (HR0.out.below HB2.out) HK.out).mono ?_
    rintro e w3 ⟨v3, rfl, ho3, hb3⟩
    have hx3 := padL_length HK.out nc q
    obtain ⟨A3, c3, hv3, _, hcc3⟩ := ho3.form
    rw [hx3] at hv3 hcc3
    subst hv3
    have HB3 := Lib.hid (HB2.out.trans (hb3.mono HB2.out.size))
    have hO2 := HO2.out.below hb3
    obtain ⟨ad2, hA2, _, hc2⟩ := rd_some2 (own_rd hO2) (by rw [HX2.out]; have := HCT.out; omega)
    subst hA2
    obtain ⟨ad3, hA3, _, hc3⟩ := rd_some2 (own_rd ho3) (by rw [hx3]; omega)
    subst hA3
    obtain ⟨ad1, hA1, hab1, hc1⟩ := rd_some2 HR3.out (by rw [HL3.out]; have := HCT.out; omega)
    subst hA1
    have k1 := (HB3.out.cell (p := ad1.add ct) (by rw [add_block]; exact hab1)).trans (hc1 ct (by rw [HL3.out]; exact HCT.out))
    have k2 := hc2 ct (by rw [HX2.out]; exact HCT.out)
    have k3 := hc3 r (by rw [hx3]; exact HR16.out)
    rw [xorS_getD (by rw [HL3.out]; exact HCT.out), HSM.out, HQ.out, HRR.out] at k2
    have hx := u8x (l3.getD ct 0) (at_ (padL l0 nc q) r)
    rw [show (padL l0 nc q).getD r 0 = at_ (padL l0 nc q) r from rfl] at k3
    rw [bv_int] at k1 k2 k3
    generalize (l3.getD ct 0 ^^^ at_ (padL l0 nc q) r).toNat = z0 at *
    generalize (l3.getD ct 0).toNat = z1 at *
    generalize (at_ (padL l0 nc q) r).toNat = z2 at *
    have mr := MR.out
    have mu := MU.out
    have i1 : (ct : Int) < (len3 : Int) := by have := HCT.out; omega
    have i2 : (r : Int) < 16 := by have := HR16.out; omega
    clear hb3 ho3 hx3 hc1 hc2 hc3 hO2 hcc2 hcc3 hab1
    go_wp2_with fail
    go_quiet (fail)
    go_wp2_with fail
    go_ret
    exact ⟨rfl, HB3.out.trans (below_drewN _ _ _)⟩

set_option maxRecDepth 100000 in
theorem lifted (os : Os) (started : os.Started) (H : Type) (enc : TypeId × Value → H) :
    ReturnsInHanded {} Try.checked os 12 .any (Rows.streamBytesSpec.pre6 enc Try.prog Try.f12 Rows.streamBytesRow.domain false) (Rows.streamBytesSpec.post enc Try.prog Try.f12 false true false false) := by
  refine returnsInHanded_of_change_sized (C := Try.checked) own started (by kernel_rfl) Try.func12
    (ChangeSpec.witness6 (enc := enc) (C := Try.checked) false ⟨#[], #[.slice none 0 0, .int .i64 0, .int .i64 0, .slice none 0 0, .int .i64 0], []⟩ 8 (by kernel_rfl) (by kernel_rfl) (by kernel_rfl) (by kernel_rfl)) ?_
  intro W base args ds gs before hval0 hW hcnd hsz0 _
  have hval : ∀ (j : Nat) t v, Try.f12.params[j]? = some t → args[j]? = some v → Value.okWide Try.prog W .any base t v := hval0
  have hsz : (DataW.weightsEach Try.prog (Try.f12.params.toList ++ Rows.streamBytesSpec.plain.varTypes Try.prog) (ds ++ gs)).all (· ≤ reachBytes) = true := hsz0
  clear hsz0
  have hW' := hW
  obtain ⟨p, q, hA0, hV, rfl, hfz, hnd⟩ := hW
  have hA : DataW.TrodAll enc Try.prog W 0 (fun _ => true) true Try.f12.params.toList args.toList ds p := hA0
  rw [Try.params12] at hA hval hsz
  obtain ⟨v0, vs0, d0, ds0, p0, q0, hargs, rfl, rfl, h0, r0⟩ := trodAll_cons hA
  obtain ⟨v1, vs1, d1, ds1, p1, q1, rfl, rfl, rfl, h1, r1⟩ := trodAll_cons r0
  obtain ⟨v2, vs2, d2, ds2, p2, q2, rfl, rfl, rfl, h2, r2⟩ := trodAll_cons r1
  obtain ⟨v3, vs3, d3, ds3, p3, q3, rfl, rfl, rfl, h3, r3⟩ := trodAll_cons r2
  obtain ⟨v4, vs4, d4, ds4, p4, q4, rfl, rfl, rfl, h4, r4⟩ := trodAll_cons r3
  obtain ⟨rfl, rfl, rfl⟩ := trodAll_nil r4
  obtain rfl : args = #[v0, v1, v2, v3, v4] := by cases args; simp_all
  obtain ⟨rfl, rfl⟩ := trodVars_none hV
  obtain ⟨a0, len0, cap0, rfl⟩ := okWide_slice Try.underlying22 (hval 0 22 v0 rfl rfl)
  have k0 := h0
  have lt0 : ∀ x ∈ p0, x.block < W.heap.size := by obtain ⟨m, hm⟩ := k0; exact DataW.trod_lt m _ _ _ hm
  obtain ⟨l0, w0⟩ := open_bytes u8 (by kernel_rfl) (by kernel_rfl) h0 hsz (j := 0) rfl rfl
  obtain ⟨a3, len3, cap3, rfl⟩ := okWide_slice Try.underlying22 (hval 3 22 v3 rfl rfl)
  have k3 := h3
  have lt3 : ∀ x ∈ p3, x.block < W.heap.size := by obtain ⟨m, hm⟩ := k3; exact DataW.trod_lt m _ _ _ hm
  obtain ⟨l3, w3⟩ := open_bytes u8 (by kernel_rfl) (by kernel_rfl) h3 hsz (j := 3) rfl rfl
  clear hsz
  obtain ⟨a1, rfl, rfl, rfl, w1⟩ := open_int Try.underlying3 (hval 1 3 v1 rfl rfl) h1
  obtain ⟨a2, rfl, rfl, rfl, w2⟩ := open_int Try.underlying3 (hval 2 3 v2 rfl rfl) h2
  obtain ⟨a4, rfl, rfl, rfl, w4⟩ := open_int Try.underlying3 (hval 4 3 v4 rfl rfl) h4
  clear hA0 hval0
  simp only [List.append_nil] at hW'
  refine (walk a0 len0 cap0 l0 a1 a2 a3 len3 cap3 l3 a4 W w0 w1 w2 w3 w4).mono fun e W' ⟨he, bel⟩ => ?_
  subst he
  exact ⟨_, rfl, _, _, _, [], _, [], hW', trodAll_mk1 (shut_bool Try.underlying4 _), (trodAll_cons_mk (Below.trod laidOut (by kernel_rfl) (of_decide_eq_true (by kernel_rfl)) k0 bel lt0) (trodAll_cons_mk (shut_int Try.underlying3 w1) (trodAll_cons_mk (shut_int Try.underlying3 w2) (trodAll_cons_mk (Below.trod laidOut (by kernel_rfl) (of_decide_eq_true (by kernel_rfl)) k3 bel lt3) (trodAll_cons_mk (shut_int Try.underlying3 w4) trodAll_mk0))))), rfl, bel.frame _, fun h => by cases h⟩

theorem over : Rows.streamBytesRow.holds Try.pinned (OpenSpec.ofChange Rows.streamBytesSpec) :=
  OpenClaim.holds_of_wide 12 Try.f12 rfl rfl rfl rfl rfl rfl rfl ⟨rfl, rfl, rfl, rfl, rfl⟩ rfl rfl rfl rfl rfl (by kernel_rfl) Try.func12 (by kernel_rfl)
    (of_decide_eq_true (by kernel_rfl)) (by unfold Func.isWrapper; first | (rw [if_pos (by decide +kernel)]; kernel_rfl) | (rw [if_neg (by decide +kernel)]; exact ⟨rfl, rfl⟩))
    (fun os started H enc _ => lifted os started H enc)

theorem proved : Rows.StreamBytesSaid := over
end Go.Proofs.Ytcbihjcnnfohmaa.streamBytes
