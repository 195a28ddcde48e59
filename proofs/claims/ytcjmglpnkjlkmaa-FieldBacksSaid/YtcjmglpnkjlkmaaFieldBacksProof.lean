/- The law 'FieldBacks' answers true for every input, and its arguments read afterwards as before; no condition. The frame is the kit's skeleton; the walk is ours. -/
import Derived.Test.YtcjmglpnkjlkmaaRows
import Derived.Test.YtcjmglpnkjlkmaaFldMaps
import Derived.WalkKit
import Derived.ProofKit
import Derived.OpenShut
namespace Go.Proofs.Ytcjmglpnkjlkmaa.fieldBacks
open Go.ChangeShapes Go.WideShapes Go.ChangeAt Go.RowKit
set_option linter.unusedVariables false      -- a walk need not use every 'w<i>' (that an integer argument fits its kind)

theorem own : ownKnob Try.prog.godebug = none := by kernel_rfl

open Fld Go.IntWalk

set_option maxHeartbeats 400000 in
theorem walk (a0 : Int) (a1 : Int) (w0 : (Lit.int .u8 a0).wf = true) (w1 : (Lit.int .u8 a1).wf = true) (w : World) :
    Calls Try.prog 7 #[.int .u8 a0, .int .u8 a1] w fun e w' => e = .returned (.bool true) ∧ Grown w w' := by
  obtain ⟨b00, b01⟩ := bounds_u8 w0
  obtain ⟨A, rfl⟩ := Int.eq_ofNat_of_zero_le b00
  have hA : A < 256 := by omega
  obtain ⟨b10, b11⟩ := bounds_u8 w1
  obtain ⟨B, rfl⟩ := Int.eq_ofNat_of_zero_le b10
  have hB : B < 256 := by omega
  have l1 := box_lt A hA
  have l2 := unbox_lt A hA
  obtain ⟨m1, m2⟩ := box_moves A hA
  have e1 : (((unbox (box A) : Nat) : Int) == (A : Int)) = true := by rw [beq_iff_eq, unbox_box A hA]
  have e2 : (((box (unbox A) : Nat) : Int) == (A : Int)) = true := by rw [beq_iff_eq, box_unbox A hA]
  have e3 : (((box A : Nat) : Int) != (A : Int)) = true := by rw [bne_iff_ne]; omega
  have e4 : (((box A : Nat) : Int) != 255 - (A : Int)) = true := by rw [bne_iff_ne]; omega
  have e5 : (((box A : Nat) : Int) == ((box B : Nat) : Int)) = ((A : Int) == (B : Int)) := by
    have := box_inj A B hA hB
    rw [Bool.eq_iff_iff, beq_iff_eq, beq_iff_eq]; omega
  clear m1 m2
  rcases ha : ((A : Int) == (B : Int)) with _ | _
  all_goals
    rw [ha] at e5
    go_enter Try.func7, Try.ntmps7
    go_wp2_with (first | (go_at_call 11; refine (small_any _).mono ?_; rintro e w' ⟨rfl, rfl⟩) | (go_at_call 18; refine (box_any _ (by omega) (by omega) _).mono ?_; rintro e w' ⟨rfl, rfl⟩) | (go_at_call 20; refine (unbox_any _ (by omega) (by omega) _).mono ?_; rintro e w' ⟨rfl, rfl⟩))
    go_ret
    exact ⟨rfl, Grown.refl _⟩

set_option maxRecDepth 100000 in
theorem lifted (os : Os) (started : os.Started) (H : Type) (enc : TypeId × Value → H) :
    ReturnsInHanded {} Try.checked os 7 .any (Rows.fieldBacksSpec.pre6 enc Try.prog Try.f7 Rows.fieldBacksRow.domain false) (Rows.fieldBacksSpec.post enc Try.prog Try.f7 false true false false) := by
  refine returnsInHanded_of_change (C := Try.checked) own started (by kernel_rfl) Try.func7
    (ChangeSpec.witness6 (enc := enc) (C := Try.checked) false ⟨#[], #[.int .u8 0, .int .u8 0], []⟩ 8 (by kernel_rfl) (by kernel_rfl) (by kernel_rfl) (by kernel_rfl)) ?_
  intro W base args ds gs before hval0 hW hcnd _
  have hval : ∀ (j : Nat) t v, Try.f7.params[j]? = some t → args[j]? = some v → Value.okWide Try.prog W .any base t v := hval0
  have hW' := hW
  obtain ⟨p, q, hA0, hV, rfl, hfz, hnd⟩ := hW
  have hA : DataW.TrodAll enc Try.prog W 0 (fun _ => true) true Try.f7.params.toList args.toList ds p := hA0
  rw [Try.params7] at hA hval
  obtain ⟨v0, vs0, d0, ds0, p0, q0, hargs, rfl, rfl, h0, r0⟩ := trodAll_cons hA
  obtain ⟨v1, vs1, d1, ds1, p1, q1, rfl, rfl, rfl, h1, r1⟩ := trodAll_cons r0
  obtain ⟨rfl, rfl, rfl⟩ := trodAll_nil r1
  obtain rfl : args = #[v0, v1] := by cases args; simp_all
  obtain ⟨rfl, rfl⟩ := trodVars_none hV
  obtain ⟨a0, rfl, rfl, rfl, w0⟩ := open_int Try.underlying5 (hval 0 5 v0 rfl rfl) h0
  obtain ⟨a1, rfl, rfl, rfl, w1⟩ := open_int Try.underlying5 (hval 1 5 v1 rfl rfl) h1
  clear hA0 hval0
  simp only [List.append_nil] at hW'
  refine (walk a0 a1 w0 w1 W).mono fun e W' ⟨he, hg⟩ => ?_
  subst he
  exact ⟨_, rfl, post_of_same (pa := []) (pv := []) hW' (fun _ _ _ => (trodAll_cons_mk (shut_bool Try.underlying4 _) trodAll_mk0)) (fun sp _ => (trodAll_cons_mk (shut_int Try.underlying5 w0) (trodAll_cons_mk (shut_int Try.underlying5 w1) trodAll_mk0))) (fun _ _ => rfl) rfl
    (hg.frame _) hg.2.1 (ok_one (by kernel_rfl) rfl (okWide_bool_mk Try.underlying4 _))⟩

theorem over : Rows.fieldBacksRow.holds Try.pinned (OpenSpec.ofChange Rows.fieldBacksSpec) :=
  OpenClaim.holds_of_wide 7 Try.f7 rfl rfl rfl rfl rfl rfl rfl ⟨rfl, rfl, rfl, rfl, rfl⟩ rfl rfl rfl rfl rfl (by kernel_rfl) Try.func7 (by kernel_rfl)
    (of_decide_eq_true (by kernel_rfl)) (by unfold Func.isWrapper; first | (rw [if_pos (by decide +kernel)]; kernel_rfl) | (rw [if_neg (by decide +kernel)]; exact ⟨rfl, rfl⟩))
    (fun os started H enc _ => lifted os started H enc)

theorem proved : Rows.FieldBacksSaid :=
  over
end Go.Proofs.Ytcjmglpnkjlkmaa.fieldBacks
