/- The law 'FieldPowers' answers true for every input, and its arguments read afterwards as before; no condition. The frame is the kit's skeleton; the walk is ours. -/
import Derived.Test.YtcjmglpnkjlkmaaRows
import Derived.Test.YtcjmglpnkjlkmaaFldMaps
import Derived.WalkKit
import Derived.ProofKit
import Derived.OpenShut
namespace Go.Proofs.Ytcjmglpnkjlkmaa.fieldPowers
open Go.ChangeShapes Go.WideShapes Go.ChangeAt Go.RowKit
set_option linter.unusedVariables false      -- a walk need not use every 'w<i>' (that an integer argument fits its kind)

theorem own : ownKnob Try.prog.godebug = none := by kernel_rfl

open Fld Go.IntWalk
theorem times_le (a k : Nat) : times a k ≤ k := by
  induction k with
  | zero => exact Nat.le_refl 0
  | succ k ih => rw [times]; split <;> omega
theorem run3_cnt : ∀ a : Nat, a < 256 → cnt a (run3 255 1) = if a = 0 then 0 else 1 := by decide +kernel
theorem times_eq (a : Nat) (ha : a < 256) : times a 255 = if a = 0 then 0 else 1 := by
  have h := cnt_run3 a 255 0
  rw [show times a 0 = 0 from rfl, show gpow 3 0 = 1 from rfl, run3_cnt a ha] at h
  rw [show 0 + 255 = 255 from rfl] at h
  omega

set_option maxRecDepth 100000 in
set_option maxHeartbeats 400000 in
theorem walk (a0 : Int) (w0 : (Lit.int .u8 a0).wf = true) (w : World) :
    Calls Try.prog 9 #[.int .u8 a0] w fun e w' => e = .returned (.bool true) ∧ Grown w w' := by
  obtain ⟨b00, b01⟩ := bounds_u8 w0
  obtain ⟨A, rfl⟩ := Int.eq_ofNat_of_zero_le b00
  have hA : A < 256 := by omega
  have ht := times_eq A hA
  go_enter Try.func9, Try.ntmps9
  go_wp2_with (go_at_call 11; refine (small_any _).mono ?_; rintro e w' ⟨rfl, rfl⟩)
  go_loop [4, 5] (fun t i => ∃ k : Nat, k ≤ 255 ∧ i = .int .i64 k ∧ t = .int .i64 (times A k : Nat)) (fun _ i => 255 - (intOf i).toNat)
  case atStart => exact ⟨0, by omega, rfl, rfl⟩
  case round =>
    obtain ⟨k, hk, rfl, rfl⟩ := hrel
    have hle := times_le A k
    by_cases hlt : k < 255
    · by_cases he : gpow 3 k = A
      · have hb : (((gpow 3 k : Nat) : Int) == (A : Int)) = true := by rw [beq_iff_eq, he]
        have E := Lib.hid he
        clear he
        go_wp2_with (go_at_call 14; refine (pow_any _ _ (by omega) (by omega) (by omega) _).mono ?_; rintro e w' ⟨rfl, rfl⟩)
        go_round
        case rel =>
          refine ⟨k + 1, by omega, by go_num, ?_⟩
          rw [times, if_pos E.out]; go_num
        case measure => simp [intOf]; omega
      · have hb : (((gpow 3 k : Nat) : Int) == (A : Int)) = false := by rw [beq_eq_false_iff_ne]; omega
        have E := Lib.hid he
        clear he
        go_wp2_with (go_at_call 14; refine (pow_any _ _ (by omega) (by omega) (by omega) _).mono ?_; rintro e w' ⟨rfl, rfl⟩)
        go_round
        case rel =>
          refine ⟨k + 1, by omega, by go_num, ?_⟩
          rw [times, if_neg E.out]; go_num
        case measure => simp [intOf]; omega
    · have hk2 : k = 255 := by omega
      subst hk2
      by_cases h0 : A = 0
      · have z1 : ((A : Int) == 0) = true := by rw [beq_iff_eq]; omega
        have z2 : ((A : Int) != 0) = false := by simp [h0]
        have z3 : (((times A 255 : Nat) : Int) == 0) = true := by rw [beq_iff_eq, ht, if_pos h0]; rfl
        clear ht h0
        go_wp2
        go_ret
        exact ⟨rfl, Grown.refl _⟩
      · have z1 : ((A : Int) == 0) = false := by rw [beq_eq_false_iff_ne]; omega
        have z2 : ((A : Int) != 0) = true := by rw [bne_iff_ne]; omega
        have z3 : (((times A 255 : Nat) : Int) == 1) = true := by rw [beq_iff_eq, ht, if_neg h0]; rfl
        clear ht h0
        go_wp2
        go_ret
        exact ⟨rfl, Grown.refl _⟩

set_option maxRecDepth 100000 in
theorem lifted (os : Os) (started : os.Started) (H : Type) (enc : TypeId × Value → H) :
    ReturnsInHanded {} Try.checked os 9 .any (Rows.fieldPowersSpec.pre6 enc Try.prog Try.f9 Rows.fieldPowersRow.domain false) (Rows.fieldPowersSpec.post enc Try.prog Try.f9 false true false false) := by
  refine returnsInHanded_of_change (C := Try.checked) own started (by kernel_rfl) Try.func9
    (ChangeSpec.witness6 (enc := enc) (C := Try.checked) false ⟨#[], #[.int .u8 0], []⟩ 8 (by kernel_rfl) (by kernel_rfl) (by kernel_rfl) (by kernel_rfl)) ?_
  intro W base args ds gs before hval0 hW hcnd _
  have hval : ∀ (j : Nat) t v, Try.f9.params[j]? = some t → args[j]? = some v → Value.okWide Try.prog W .any base t v := hval0
  have hW' := hW
  obtain ⟨p, q, hA0, hV, rfl, hfz, hnd⟩ := hW
  have hA : DataW.TrodAll enc Try.prog W 0 (fun _ => true) true Try.f9.params.toList args.toList ds p := hA0
  rw [Try.params9] at hA hval
  obtain ⟨v0, vs0, d0, ds0, p0, q0, hargs, rfl, rfl, h0, r0⟩ := trodAll_cons hA
  obtain ⟨rfl, rfl, rfl⟩ := trodAll_nil r0
  obtain rfl : args = #[v0] := by cases args; simp_all
  obtain ⟨rfl, rfl⟩ := trodVars_none hV
  obtain ⟨a0, rfl, rfl, rfl, w0⟩ := open_int Try.underlying5 (hval 0 5 v0 rfl rfl) h0
  clear hA0 hval0
  simp only [List.append_nil] at hW'
  refine (walk a0 w0 W).mono fun e W' ⟨he, hg⟩ => ?_
  subst he
  exact ⟨_, rfl, post_of_same (pa := []) (pv := []) hW' (fun _ _ _ => (trodAll_cons_mk (shut_bool Try.underlying4 _) trodAll_mk0)) (fun sp _ => (trodAll_cons_mk (shut_int Try.underlying5 w0) trodAll_mk0)) (fun _ _ => rfl) rfl
    (hg.frame _) hg.2.1 (ok_one (by kernel_rfl) rfl (okWide_bool_mk Try.underlying4 _))⟩

theorem over : Rows.fieldPowersRow.holds Try.pinned (OpenSpec.ofChange Rows.fieldPowersSpec) :=
  OpenClaim.holds_of_wide 9 Try.f9 rfl rfl rfl rfl rfl rfl rfl ⟨rfl, rfl, rfl, rfl, rfl⟩ rfl rfl rfl rfl rfl (by kernel_rfl) Try.func9 (by kernel_rfl)
    (of_decide_eq_true (by kernel_rfl)) (by unfold Func.isWrapper; first | (rw [if_pos (by decide +kernel)]; kernel_rfl) | (rw [if_neg (by decide +kernel)]; exact ⟨rfl, rfl⟩))
    (fun os started H enc _ => lifted os started H enc)

theorem proved : Rows.FieldPowersSaid :=
  over
end Go.Proofs.Ytcjmglpnkjlkmaa.fieldPowers
