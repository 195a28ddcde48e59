/- The law 'ShaWords' answers true for every input, and its arguments read afterwards as before; no condition. The frame follows the kit's skeleton; the walk is ours. -/
import Derived.Test.YtoklpohpfoacpaaRows
import Derived.Test.YtoklpohpfoacpaaArgs
import Derived.Test.YtoklpohpfoacpaaShaTop
import Derived.Test.YtoklpohpfoacpaaShaRefRoot
import Derived.WalkKit
import Derived.ProofKit
import Derived.OpenShut
import Derived.ShutString
import Derived.ChangeOld
import Derived.Below
import Derived.SizedLaws
namespace Go.Proofs.Ytoklpohpfoacpaa.shaWords
open Go.ChangeShapes Go.WideShapes Go.ChangeAt Go.RowKit
set_option linter.unusedVariables false

theorem own : ownKnob Try.prog.godebug = none := by kernel_rfl
theorem laidOut : laidOutB Try.prog = true := by kernel_rfl

open Sha

set_option maxRecDepth 100000 in
set_option maxHeartbeats 2000000 in
theorem walk (a0 : Int) (w : World) (w0 : (Lit.int .i64 a0).wf = true) :
    Calls Try.prog 8 #[.int .i64 a0] w fun e w' => e = .returned (.bool true) ∧ Below w.heap.size w w' := by
  obtain ⟨hb0, hb1⟩ := bounds_i64 w0
  clear w0
  go_enter Try.func8, Try.ntmps8
  go_wp2_with fail
  refine (small_any _).mono ?_
  rintro e w1 ⟨rfl, hb1'⟩
  have hz1 := hb1'.size
  generalize hx : (if a0 < 0 ∨ 64 ≤ a0 then (0 : Int) else ((kw.getD a0.toNat 0 : Nat) : Int)) = x
  generalize hy : (if a0 < 0 ∨ 8 ≤ a0 then (0 : Int) else ((hw.getD a0.toNat 0 : Nat) : Int)) = y
  have HX := Lib.hid hx
  have HY := Lib.hid hy
  clear hx hy
  go_wp2_with fail
  refine (shaword_any a0 hb0 hb1 _).mono ?_
  rw [HX.out]
  rintro e w2 ⟨rfl, hb2⟩
  have hbw2 := hb1'.trans (hb2.mono hz1)
  have hz2 := hbw2.size
  go_wp2_with fail
  refine (refword_any a0 hb0 hb1 _).mono ?_
  rw [HX.out]
  rintro e w3 ⟨rfl, hb3⟩
  have hbw3 := hbw2.trans (hb3.mono hz2)
  have hz3 := hbw3.size
  go_wp2_with fail
  refine (shastart_any a0 hb0 hb1 _).mono ?_
  rw [HY.out]
  rintro e w4 ⟨rfl, hb4⟩
  have hbw4 := hbw3.trans (hb4.mono hz3)
  have hz4 := hbw4.size
  go_wp2_with fail
  refine (refstart_any a0 hb0 hb1 _).mono ?_
  rw [HY.out]
  rintro e w5 ⟨rfl, hb5⟩
  have hbw5 := hbw4.trans (hb5.mono hz4)
  clear hb1' hb2 hb3 hb4 hb5
  go_wp2_with fail
  go_ret
  exact ⟨rfl, hbw5⟩

set_option maxRecDepth 100000 in
theorem lifted (os : Os) (started : os.Started) (H : Type) (enc : TypeId × Value → H) :
    ReturnsInHanded {} Try.checked os 8 .any (Rows.shaWordsSpec.pre6 enc Try.prog Try.f8 Rows.shaWordsRow.domain false) (Rows.shaWordsSpec.post enc Try.prog Try.f8 false true false false) := by
  refine returnsInHanded_of_change_sized (C := Try.checked) own started (by kernel_rfl) Try.func8
    (ChangeSpec.witness6 (enc := enc) (C := Try.checked) false ⟨#[], #[.int .i64 0], []⟩ 8 (by kernel_rfl) (by kernel_rfl) (by kernel_rfl) (by kernel_rfl)) ?_
  intro W base args ds gs before hval0 hW hcnd hsz0 _
  have hval : ∀ (j : Nat) t v, Try.f8.params[j]? = some t → args[j]? = some v → Value.okWide Try.prog W .any base t v := hval0
  have hsz : (DataW.weightsEach Try.prog (Try.f8.params.toList ++ Rows.shaWordsSpec.plain.varTypes Try.prog) (ds ++ gs)).all (· ≤ reachBytes) = true := hsz0
  clear hsz0
  have hW' := hW
  obtain ⟨p, q, hA0, hV, rfl, hfz, hnd⟩ := hW
  have hA : DataW.TrodAll enc Try.prog W 0 (fun _ => true) true Try.f8.params.toList args.toList ds p := hA0
  rw [Try.params8] at hA hval hsz
  obtain ⟨v0, vs0, d0, ds0, p0, q0, hargs, rfl, rfl, h0, r0⟩ := trodAll_cons hA
  obtain ⟨rfl, rfl, rfl⟩ := trodAll_nil r0
  obtain rfl : args = #[v0] := by cases args; simp_all
  obtain ⟨rfl, rfl⟩ := trodVars_none hV
  clear hsz
  obtain ⟨a0, rfl, rfl, rfl, w0⟩ := open_int Try.underlying3 (hval 0 3 v0 rfl rfl) h0
  clear hA0 hval0
  simp only [List.append_nil] at hW'
  refine (walk a0 W w0).mono fun e W' ⟨he, bel⟩ => ?_
  subst he
  exact ⟨_, rfl, _, _, _, [], _, [], hW', trodAll_mk1 (shut_bool Try.underlying4 _), (trodAll_cons_mk (shut_int Try.underlying3 w0) trodAll_mk0), rfl, bel.frame _, fun h => by cases h⟩

theorem over : Rows.shaWordsRow.holds Try.pinned (OpenSpec.ofChange Rows.shaWordsSpec) :=
  OpenClaim.holds_of_wide 8 Try.f8 rfl rfl rfl rfl rfl rfl rfl ⟨rfl, rfl, rfl, rfl, rfl⟩ rfl rfl rfl rfl rfl (by kernel_rfl) Try.func8 (by kernel_rfl)
    (of_decide_eq_true (by kernel_rfl)) (by unfold Func.isWrapper; first | (rw [if_pos (by decide +kernel)]; kernel_rfl) | (rw [if_neg (by decide +kernel)]; exact ⟨rfl, rfl⟩))
    (fun os started H enc _ => lifted os started H enc)

theorem proved : Rows.ShaWordsSaid := over
end Go.Proofs.Ytoklpohpfoacpaa.shaWords
