/- The law 'StreamPads' answers true for every input, and its arguments read afterwards as before; no condition. The frame follows the kit's skeleton; the walk is ours. -/
import Derived.Test.YtcbihjcnnfohmaaRows
import Derived.Test.YtcbihjcnnfohmaaArgs
import Derived.Test.YtcbihjcnnfohmaaStrLaw
import Derived.Test.YtcbihjcnnfohmaaStrRefX
import Derived.WalkKit
import Derived.ProofKit
import Derived.OpenShut
import Derived.ShutString
import Derived.ChangeOld
import Derived.Below
import Derived.SizedLaws
namespace Go.Proofs.Ytcbihjcnnfohmaa.streamPads
open Go.ChangeShapes Go.WideShapes Go.ChangeAt Go.RowKit
set_option linter.unusedVariables false

theorem own : ownKnob Try.prog.godebug = none := by kernel_rfl
theorem laidOut : laidOutB Try.prog = true := by kernel_rfl

open Aes Str
set_option linter.unusedSimpArgs false
theorem nil_str (w : World) : (convert 22 9 (.slice none 0 0)).run Try.prog w = .ok (.string (str [])) w := (Rd.nil w 0 none).str u8 9 Try.underlying9 0
theorem rowv_str {w w' : World} {g n : Nat} {l : List UInt8} (hn : l.length = n) (h : RowV w 5 g (bvs l)) (hb : Below w.heap.size w w') : (convert 22 9 (.slice (some ⟨g, 0, none⟩) n n)).run Try.prog w' = .ok (.string (str l)) w' := by
  subst hn
  exact ((row_rd h).below hb).str u8 9 Try.underlying9 _

set_option maxRecDepth 100000 in
set_option maxHeartbeats 4000000 in
theorem walk (a0 : Option Addr) (len0 cap0 : Nat) (l0 : List UInt8) (a1 : Int) (a2 : Int) (w : World) (w0 : ArgB w a0 len0 cap0 l0) (w1 : (Lit.int .i64 a1).wf = true) (w2 : (Lit.int .i64 a2).wf = true) :
    Calls Try.prog 9 #[.slice a0 len0 cap0, .int .i64 a1, .int .i64 a2] w fun e w' => e = .returned (.bool true) ∧ Below w.heap.size w w' := by
  obtain ⟨hl0, hf0, hm0, hr0⟩ := w0
  obtain ⟨hb10, hb11⟩ := bounds_i64 w1
  obtain ⟨hb20, hb21⟩ := bounds_i64 w2
  have HL0 := Lib.hid hl0
  have HR0 := Lib.hid hr0
  clear hl0 hr0
  by_cases hk : ¬ KeyOk l0 ∨ a1 < 0 ∨ a2 < 0
  · have H := Lib.hid hk
    have HB := Lib.hid (show a1 < 9223372036854775808 by omega)
    clear hk hb10 hb11 hb20 hb21
    go_enter Try.func9, Try.ntmps9
    go_wp2_with fail
    refine (Str.small_any _).mono ?_
    rintro e w1 ⟨rfl, hb1⟩
    have HB1 := Lib.hid hb1
    clear hb1
    go_wp2_with fail
    refine (pad_no a0 len0 cap0 l0 a1 a2 w1 w.heap.size HB1.out.size HL0.out (HR0.out.below HB1.out) HB.out H.out).mono ?_
    rintro e w2 ⟨rfl, hb2⟩
    have HB2 := Lib.hid (HB1.out.trans (hb2.mono HB1.out.size))
    clear hb2
    go_wp2_with fail
    refine (refpad_no a0 len0 cap0 l0 a1 a2 w2 HL0.out hf0 (rd_now_ HR0.out HB2.out) H.out).mono ?_
    rintro e w3 ⟨rfl, hb3⟩
    have HB3 := Lib.hid (HB2.out.trans (hb3.mono HB2.out.size))
    have s0 := nil_str w3
    clear hb3
    go_wp2_with fail
    go_ret
    exact ⟨rfl, HB3.out⟩
  · have HK := Lib.hid (show KeyOk l0 from Classical.byContradiction fun h => hk (.inl h))
    have h1 : 0 ≤ a1 := Int.not_lt.1 fun h => hk (.inr (.inl h))
    have h2 : 0 ≤ a2 := Int.not_lt.1 fun h => hk (.inr (.inr h))
    obtain ⟨nc, rfl⟩ := Int.eq_ofNat_of_zero_le h1
    obtain ⟨bk, rfl⟩ := Int.eq_ofNat_of_zero_le h2
    have HNC := Lib.hid (show nc < 9223372036854775808 by omega)
    have HBK := Lib.hid (show bk < 9223372036854775808 by omega)
    clear hk h1 h2 hb10 hb11 hb20 hb21
    go_enter Try.func9, Try.ntmps9
    go_wp2_with fail
    refine (Str.small_any _).mono ?_
    rintro e w1 ⟨rfl, hb1⟩
    have HB1 := Lib.hid hb1
    clear hb1
    go_wp2_with fail
    refine (pad_yes a0 len0 cap0 l0 nc bk HNC.out HBK.out w1 w.heap.size HB1.out.size HL0.out (HR0.out.below HB1.out) HK.out).mono ?_
    rintro e w2 ⟨v2, rfl, ho2, hb2⟩
    obtain ⟨A2, c2, hv2, _, hcc2⟩ := ho2.form
    rw [padL_length HK.out] at hv2 hcc2
    subst hv2
    have HB2 := Lib.hid (HB1.out.trans (hb2.mono HB1.out.size))
    have HO2 := Lib.hid ho2
    clear hb2 ho2
    go_wp2_with fail
    refine (refpad_yes a0 len0 cap0 l0 nc bk w2 HL0.out hf0 (rd_now_ HR0.out HB2.out) HK.out).mono ?_
    rintro e w3 ⟨gv, rfl, hg3, hgl, hb3⟩
    have HB3 := Lib.hid (HB2.out.trans (hb3.mono HB2.out.size))
    have s2 := own_str (HO2.out.below hb3)
    have s3 := rowv_str (padL_length HK.out nc bk) hg3 (Below.refl _ _)
    clear hb3 hg3 hgl
    generalize str (padL l0 nc bk) = tx at *
    go_wp2_with fail
    go_ret
    exact ⟨rfl, HB3.out⟩

set_option maxRecDepth 100000 in
theorem lifted (os : Os) (started : os.Started) (H : Type) (enc : TypeId × Value → H) :
    ReturnsInHanded {} Try.checked os 9 .any (Rows.streamPadsSpec.pre6 enc Try.prog Try.f9 Rows.streamPadsRow.domain false) (Rows.streamPadsSpec.post enc Try.prog Try.f9 false true false false) := by
  refine returnsInHanded_of_change_sized (C := Try.checked) own started (by kernel_rfl) Try.func9
    (ChangeSpec.witness6 (enc := enc) (C := Try.checked) false ⟨#[], #[.slice none 0 0, .int .i64 0, .int .i64 0], []⟩ 8 (by kernel_rfl) (by kernel_rfl) (by kernel_rfl) (by kernel_rfl)) ?_
  intro W base args ds gs before hval0 hW hcnd hsz0 _
  have hval : ∀ (j : Nat) t v, Try.f9.params[j]? = some t → args[j]? = some v → Value.okWide Try.prog W .any base t v := hval0
  have hsz : (DataW.weightsEach Try.prog (Try.f9.params.toList ++ Rows.streamPadsSpec.plain.varTypes Try.prog) (ds ++ gs)).all (· ≤ reachBytes) = true := hsz0
  clear hsz0
  have hW' := hW
  obtain ⟨p, q, hA0, hV, rfl, hfz, hnd⟩ := hW
  have hA : DataW.TrodAll enc Try.prog W 0 (fun _ => true) true Try.f9.params.toList args.toList ds p := hA0
  rw [Try.params9] at hA hval hsz
  obtain ⟨v0, vs0, d0, ds0, p0, q0, hargs, rfl, rfl, h0, r0⟩ := trodAll_cons hA
  obtain ⟨v1, vs1, d1, ds1, p1, q1, rfl, rfl, rfl, h1, r1⟩ := trodAll_cons r0
  obtain ⟨v2, vs2, d2, ds2, p2, q2, rfl, rfl, rfl, h2, r2⟩ := trodAll_cons r1
  obtain ⟨rfl, rfl, rfl⟩ := trodAll_nil r2
  obtain rfl : args = #[v0, v1, v2] := by cases args; simp_all
  obtain ⟨rfl, rfl⟩ := trodVars_none hV
  obtain ⟨a0, len0, cap0, rfl⟩ := okWide_slice Try.underlying22 (hval 0 22 v0 rfl rfl)
  have k0 := h0
  have lt0 : ∀ x ∈ p0, x.block < W.heap.size := by obtain ⟨m, hm⟩ := k0; exact DataW.trod_lt m _ _ _ hm
  obtain ⟨l0, w0⟩ := open_bytes u8 (by kernel_rfl) (by kernel_rfl) h0 hsz (j := 0) rfl rfl
  clear hsz
  obtain ⟨a1, rfl, rfl, rfl, w1⟩ := open_int Try.underlying3 (hval 1 3 v1 rfl rfl) h1
  obtain ⟨a2, rfl, rfl, rfl, w2⟩ := open_int Try.underlying3 (hval 2 3 v2 rfl rfl) h2
  clear hA0 hval0
  simp only [List.append_nil] at hW'
  refine (walk a0 len0 cap0 l0 a1 a2 W w0 w1 w2).mono fun e W' ⟨he, bel⟩ => ?_
  subst he
  exact ⟨_, rfl, _, _, _, [], _, [], hW', trodAll_mk1 (shut_bool Try.underlying4 _), (trodAll_cons_mk (Below.trod laidOut (by kernel_rfl) (of_decide_eq_true (by kernel_rfl)) k0 bel lt0) (trodAll_cons_mk (shut_int Try.underlying3 w1) (trodAll_cons_mk (shut_int Try.underlying3 w2) trodAll_mk0))), rfl, bel.frame _, fun h => by cases h⟩

theorem over : Rows.streamPadsRow.holds Try.pinned (OpenSpec.ofChange Rows.streamPadsSpec) :=
  OpenClaim.holds_of_wide 9 Try.f9 rfl rfl rfl rfl rfl rfl rfl ⟨rfl, rfl, rfl, rfl, rfl⟩ rfl rfl rfl rfl rfl (by kernel_rfl) Try.func9 (by kernel_rfl)
    (of_decide_eq_true (by kernel_rfl)) (by unfold Func.isWrapper; first | (rw [if_pos (by decide +kernel)]; kernel_rfl) | (rw [if_neg (by decide +kernel)]; exact ⟨rfl, rfl⟩))
    (fun os started H enc _ => lifted os started H enc)

theorem proved : Rows.StreamPadsSaid := over
end Go.Proofs.Ytcbihjcnnfohmaa.streamPads
