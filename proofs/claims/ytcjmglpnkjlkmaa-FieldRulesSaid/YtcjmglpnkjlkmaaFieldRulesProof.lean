/- The law 'FieldRules' answers true for every input, and its arguments read afterwards as before; no condition. The frame is the kit's skeleton; the walk is ours. -/
import Derived.Test.YtcjmglpnkjlkmaaRows
import Derived.Test.YtcjmglpnkjlkmaaFldMaps
import Derived.WalkKit
import Derived.ProofKit
import Derived.OpenShut
namespace Go.Proofs.Ytcjmglpnkjlkmaa.fieldRules
open Go.ChangeShapes Go.WideShapes Go.ChangeAt Go.RowKit
set_option linter.unusedVariables false      -- a walk need not use every 'w<i>' (that an integer argument fits its kind)

theorem own : ownKnob Try.prog.godebug = none := by kernel_rfl

open Fld Go.IntWalk

set_option maxHeartbeats 400000 in
theorem walk (a0 : Int) (a1 : Int) (a2 : Int) (w0 : (Lit.int .u8 a0).wf = true) (w1 : (Lit.int .u8 a1).wf = true) (w2 : (Lit.int .u8 a2).wf = true) (w : World) :
    Calls Try.prog 6 #[.int .u8 a0, .int .u8 a1, .int .u8 a2] w fun e w' => e = .returned (.bool true) ∧ Grown w w' := by
  obtain ⟨b00, b01⟩ := bounds_u8 w0
  obtain ⟨A, rfl⟩ := Int.eq_ofNat_of_zero_le b00
  have hA : A < 256 := by omega
  obtain ⟨b10, b11⟩ := bounds_u8 w1
  obtain ⟨B, rfl⟩ := Int.eq_ofNat_of_zero_le b10
  have hB : B < 256 := by omega
  obtain ⟨b20, b21⟩ := bounds_u8 w2
  obtain ⟨C, rfl⟩ := Int.eq_ofNat_of_zero_le b20
  have hC : C < 256 := by omega
  have xBC := xor_lt hB hC
  have x1 : bits BinOp.xor IntKind.u8 (B : Int) (C : Int) = ((B ^^^ C : Nat) : Int) := u8_xor_nat B C hB hC
  have l1 := gm_lt A B hA
  have l2 := gm_lt A C hA
  have l3 := gm_lt B C hB
  have l4 := inv_lt A hA
  have x2 : bits BinOp.xor IntKind.u8 ((gm A B : Nat) : Int) ((gm A C : Nat) : Int) = ((gm A B ^^^ gm A C : Nat) : Int) := u8_xor_nat _ _ l1 l2
  have e1 : (((gm A B : Nat) : Int) == ((gm B A : Nat) : Int)) = true := by rw [beq_iff_eq, gm_comm A B hA hB]
  have e2 : (((gm (gm A B) C : Nat) : Int) == ((gm A (gm B C) : Nat) : Int)) = true := by rw [beq_iff_eq, gm_assoc A B C hA hB hC]
  have e3 : (((gm A (B ^^^ C) : Nat) : Int) == ((gm A B ^^^ gm A C : Nat) : Int)) = true := by rw [beq_iff_eq, gm_xor_right]
  have e4 : (((gm A 1 : Nat) : Int) == (A : Int)) = true := by rw [beq_iff_eq, gm_one A hA]
  have e6 : (((inv (inv A) : Nat) : Int) == (A : Int)) = true := by rw [beq_iff_eq, inv_inv A hA]
  have e7 : ((A : Int) == 0) = false → (((gm A (inv A) : Nat) : Int) == 1) = true := by
    intro h; rw [beq_iff_eq, gm_inv A hA (by rw [beq_eq_false_iff_ne] at h; omega)]; rfl
  have e5 : (((gm A B : Nat) : Int) == 0) = ((A : Int) == 0 || (B : Int) == 0) := by
    have := gm_eq_zero A B hA hB
    rw [Bool.eq_iff_iff, Bool.or_eq_true, beq_iff_eq, beq_iff_eq, beq_iff_eq]; omega
  rcases ha : ((A : Int) == 0) with _ | _
  · have e8 := e7 ha
    rcases hb : ((B : Int) == 0) with _ | _
    all_goals
      rw [ha, hb] at e5
      clear e7
      rw [show ∀ x : Bool, (false || x) = x from fun _ => rfl] at e5
      go_enter Try.func6, Try.ntmps6
      go_wp2_with (first | (go_at_call 11; refine (small_any _).mono ?_; rintro e w' ⟨rfl, rfl⟩) | (go_at_call 12; refine (mul_any _ _ (by omega) (by omega) (by omega) (by omega) _).mono ?_; rintro e w' ⟨rfl, rfl⟩) | (go_at_call 16; refine (inv_any _ (by omega) (by omega) _).mono ?_; rintro e w' ⟨rfl, rfl⟩))
      go_ret
      exact ⟨rfl, Grown.refl _⟩
  · rw [ha] at e5
    clear e7
    rw [show ∀ x : Bool, (true || x) = true from fun _ => rfl] at e5
    go_enter Try.func6, Try.ntmps6
    go_wp2_with (first | (go_at_call 11; refine (small_any _).mono ?_; rintro e w' ⟨rfl, rfl⟩) | (go_at_call 12; refine (mul_any _ _ (by omega) (by omega) (by omega) (by omega) _).mono ?_; rintro e w' ⟨rfl, rfl⟩) | (go_at_call 16; refine (inv_any _ (by omega) (by omega) _).mono ?_; rintro e w' ⟨rfl, rfl⟩))
    go_ret
    exact ⟨rfl, Grown.refl _⟩

set_option maxRecDepth 100000 in
theorem lifted (os : Os) (started : os.Started) (H : Type) (enc : TypeId × Value → H) :
    ReturnsInHanded {} Try.checked os 6 .any (Rows.fieldRulesSpec.pre6 enc Try.prog Try.f6 Rows.fieldRulesRow.domain false) (Rows.fieldRulesSpec.post enc Try.prog Try.f6 false true false false) := by
  refine returnsInHanded_of_change (C := Try.checked) own started (by kernel_rfl) Try.func6
    (ChangeSpec.witness6 (enc := enc) (C := Try.checked) false ⟨#[], #[.int .u8 0, .int .u8 0, .int .u8 0], []⟩ 8 (by kernel_rfl) (by kernel_rfl) (by kernel_rfl) (by kernel_rfl)) ?_
  intro W base args ds gs before hval0 hW hcnd _
  have hval : ∀ (j : Nat) t v, Try.f6.params[j]? = some t → args[j]? = some v → Value.okWide Try.prog W .any base t v := hval0
  have hW' := hW
  obtain ⟨p, q, hA0, hV, rfl, hfz, hnd⟩ := hW
  have hA : DataW.TrodAll enc Try.prog W 0 (fun _ => true) true Try.f6.params.toList args.toList ds p := hA0
  rw [Try.params6] at hA hval
  obtain ⟨v0, vs0, d0, ds0, p0, q0, hargs, rfl, rfl, h0, r0⟩ := trodAll_cons hA
  obtain ⟨v1, vs1, d1, ds1, p1, q1, rfl, rfl, rfl, h1, r1⟩ := trodAll_cons r0
  obtain ⟨v2, vs2, d2, ds2, p2, q2, rfl, rfl, rfl, h2, r2⟩ := trodAll_cons r1
  obtain ⟨rfl, rfl, rfl⟩ := trodAll_nil r2
  obtain rfl : args = #[v0, v1, v2] := by cases args; simp_all
  obtain ⟨rfl, rfl⟩ := trodVars_none hV
  obtain ⟨a0, rfl, rfl, rfl, w0⟩ := open_int Try.underlying5 (hval 0 5 v0 rfl rfl) h0
  obtain ⟨a1, rfl, rfl, rfl, w1⟩ := open_int Try.underlying5 (hval 1 5 v1 rfl rfl) h1
  obtain ⟨a2, rfl, rfl, rfl, w2⟩ := open_int Try.underlying5 (hval 2 5 v2 rfl rfl) h2
  clear hA0 hval0
  simp only [List.append_nil] at hW'
  refine (walk a0 a1 a2 w0 w1 w2 W).mono fun e W' ⟨he, hg⟩ => ?_
  subst he
  exact ⟨_, rfl, post_of_same (pa := []) (pv := []) hW' (fun _ _ _ => (trodAll_cons_mk (shut_bool Try.underlying4 _) trodAll_mk0)) (fun sp _ => (trodAll_cons_mk (shut_int Try.underlying5 w0) (trodAll_cons_mk (shut_int Try.underlying5 w1) (trodAll_cons_mk (shut_int Try.underlying5 w2) trodAll_mk0)))) (fun _ _ => rfl) rfl
    (hg.frame _) hg.2.1 (ok_one (by kernel_rfl) rfl (okWide_bool_mk Try.underlying4 _))⟩

theorem over : Rows.fieldRulesRow.holds Try.pinned (OpenSpec.ofChange Rows.fieldRulesSpec) :=
  OpenClaim.holds_of_wide 6 Try.f6 rfl rfl rfl rfl rfl rfl rfl ⟨rfl, rfl, rfl, rfl, rfl⟩ rfl rfl rfl rfl rfl (by kernel_rfl) Try.func6 (by kernel_rfl)
    (of_decide_eq_true (by kernel_rfl)) (by unfold Func.isWrapper; first | (rw [if_pos (by decide +kernel)]; kernel_rfl) | (rw [if_neg (by decide +kernel)]; exact ⟨rfl, rfl⟩))
    (fun os started H enc _ => lifted os started H enc)

theorem proved : Rows.FieldRulesSaid :=
  over
end Go.Proofs.Ytcjmglpnkjlkmaa.fieldRules
