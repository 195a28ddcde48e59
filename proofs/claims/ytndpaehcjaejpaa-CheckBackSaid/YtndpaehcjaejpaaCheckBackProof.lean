/- The law 'CheckBack' answers true for every input, and its arguments read afterwards as before; no condition. The frame follows the kit's skeleton; the walk is ours. -/
import Derived.Test.YtndpaehcjaejpaaRows
import Derived.Test.YtndpaehcjaejpaaArgs
import Derived.Test.YtndpaehcjaejpaaCheckSmall
import Derived.Test.YtndpaehcjaejpaaCrcMore
import Derived.Deep.QuietTactic
import Derived.BigQuiet
import Derived.WalkKit
import Derived.ProofKit
import Derived.OpenShut
import Derived.ShutString
import Derived.ChangeOld
import Derived.Below
import Derived.SizedLaws
namespace Go.Proofs.Ytndpaehcjaejpaa.checkBack
open Go.ChangeShapes Go.WideShapes Go.ChangeAt Go.RowKit
set_option linter.unusedVariables false

theorem own : ownKnob Try.prog.godebug = none := by kernel_rfl
theorem laidOut : laidOutB Try.prog = true := by kernel_rfl

open Crc
theorem pad_get (l : List UInt8) (N k : Nat) (h : k < (pad l N).length) : (pad l N)[k] = if hk : k < l.length then l[k] else 0 := by
  have h' : k < (l ++ List.replicate (N - 4 - l.length) (0 : UInt8)).length := h
  have e : (pad l N)[k] = (l ++ List.replicate (N - 4 - l.length) (0 : UInt8))[k]'h' := rfl
  refine e.trans ?_
  rw [List.getElem_append]
  split <;> simp
theorem wrap_small' (M : Nat) (h : M ≤ 4092) : IntKind.i64.wrap ((M : Int) + 4 - 4) = (M : Int) := by
  have e : (M : Int) + 4 - 4 = (M : Int) := by omega
  rw [e]
  exact Crc.wrap_small (M : Int) ⟨by omega, by omega⟩
theorem ret_bool {a b : Bool} (h : a = b) : Ending.returned (.bool a) = .returned (.bool b) := by rw [h]

set_option maxRecDepth 100000 in
set_option maxHeartbeats 2000000 in
theorem walk (a0 : Option Addr) (len0 cap0 : Nat) (l0 : List UInt8) (a1 : Int) (w : World) (w0 : ArgB w a0 len0 cap0 l0) (w1 : (Lit.int .i64 a1).wf = true) :
    Calls Try.prog 5 #[.slice a0 len0 cap0, .int .i64 a1] w fun e w' => e = .returned (.bool true) ∧ Below w.heap.size w w' := by
  obtain ⟨hl0, hf0, hm0, hr0⟩ := w0
  obtain ⟨hb10, hb11⟩ := bounds_i64 w1
  have HL0 := Lib.hid hl0
  have HB0 := Lib.hid hb10
  have HB1 := Lib.hid hb11
  clear hb10 hb11
  by_cases hc1 : a1 ≤ 4 ∨ 4096 < a1
  · have e1 : layE l0 a1 = 1 := by unfold layE; rw [if_pos hc1]
    have e2 : layB l0 a1 = [] := by unfold layB; rw [if_pos hc1]
    have H1 := Lib.hid e1
    have H2 := Lib.hid e2
    clear e1 e2 hl0 w1
    by_cases h4 : a1 ≤ 4
    all_goals
      have h5 : a1 ≤ 4 ∨ (4 < a1 ∧ 4096 < a1) := by omega
      clear h5
      go_enter Try.func5, Try.ntmps5
      go_wp2_with (first
        | (go_at_call 9; refine (small_any _).mono ?_; rintro e w1 ⟨rfl, hb1⟩)
        | (go_at_call 14
           refine (lay_any a0 len0 cap0 a1 l0 w1 w.heap.size hb1.size HL0.out (by omega) (hr0.below hb1) HB0.out HB1.out).mono ?_
           rw [H1.out, H2.out]
           rintro e w2 ⟨v2, rfl, hO2, hb2⟩
           obtain ⟨A2, c2, rfl, _, _⟩ := hO2.form
           have hbw2 := hb1.trans (hb2.mono hb1.size)
           clear hO2 hb2))
      go_ret
      exact ⟨ret_bool (by first | (simp; done) | (simp; omega)), hbw2⟩
  · by_cases hc2 : a1 - 4 < (l0.length : Int)
    · have e1 : layE l0 a1 = 2 := by unfold layE; rw [if_neg hc1, if_pos hc2]
      have e2 : layB l0 a1 = [] := by unfold layB; rw [if_neg hc1, if_pos hc2]
      have H1 := Lib.hid e1
      have H2 := Lib.hid e2
      have h6 : 5 ≤ a1 := by omega
      have h7 : a1 ≤ 4096 := by omega
      clear e1 e2 hl0 w1 hc1 hc2
      go_enter Try.func5, Try.ntmps5
      go_wp2_with (first
        | (go_at_call 9; refine (small_any _).mono ?_; rintro e w1 ⟨rfl, hb1⟩)
        | (go_at_call 14
           refine (lay_any a0 len0 cap0 a1 l0 w1 w.heap.size hb1.size HL0.out (by omega) (hr0.below hb1) HB0.out HB1.out).mono ?_
           rw [H1.out, H2.out]
           rintro e w2 ⟨v2, rfl, hO2, hb2⟩
           obtain ⟨A2, c2, rfl, _, _⟩ := hO2.form
           have hbw2 := hb1.trans (hb2.mono hb1.size)
           clear hO2 hb2))
      go_ret
      exact ⟨ret_bool (by first | (simp; done) | (simp; omega)), hbw2⟩
    · have e1 : layE l0 a1 = 0 := by unfold layE; rw [if_neg hc1, if_neg hc2]
      have e2 : layB l0 a1 = sealed' (pad l0 a1.toNat) := by unfold layB; rw [if_neg hc1, if_neg hc2]
      obtain ⟨N, rfl⟩ := Int.eq_ofNat_of_zero_le (show 0 ≤ a1 by omega)
      simp only [Int.toNat_natCast] at e2
      obtain ⟨M, rfl⟩ : ∃ M, N = M + 4 := ⟨N - 4, by omega⟩
      have h1 : 1 ≤ M := by omega
      have h2 : M ≤ 4092 := by omega
      have h3 : len0 ≤ M := by omega
      have hpl := pad_length l0 (M + 4) (by omega)
      rw [Nat.add_sub_cancel] at hpl
      have hgs : ∀ k (h : k < (pad l0 (M + 4)).length), (pad l0 (M + 4))[k] = if hk : k < l0.length then l0[k] else 0 := fun k h => pad_get l0 (M+4) k h
      generalize pad l0 (M + 4) = D at *
      obtain ⟨t1, t2⟩ := take_sealed_ok D (by omega) (by omega)
      have hsl := sealed_length D
      rw [hpl] at hsl
      have H1 := Lib.hid e1
      have H2 := Lib.hid e2
      have T1 := Lib.hid t1
      have T2 := Lib.hid t2
      have HSL := Lib.hid hsl
      have HPL := Lib.hid hpl
      have HG := Lib.hid hgs
      clear e1 e2 t1 t2 hl0 w1 hc1 hc2 hsl hpl hgs
      go_enter Try.func5, Try.ntmps5
      go_wp2_with (first
        | (go_at_call 9; refine (small_any _).mono ?_; rintro e w1 ⟨rfl, hb1⟩)
        | (go_at_call 14
           refine (lay_any a0 len0 cap0 _ l0 w1 w.heap.size hb1.size HL0.out (by omega) (hr0.below hb1) HB0.out HB1.out).mono ?_
           rw [H1.out, H2.out]
           rintro e w2 ⟨v2, rfl, hO2, hb2⟩
           obtain ⟨A2, c2, rfl, hR2, hc2⟩ := hO2.form
           have hbw2 := hb1.trans (hb2.mono hb1.size)
           rw [HSL.out] at hc2 ⊢
           clear hO2 hb2 HB0 HB1)
        | (go_at_call 15
           refine (take_any A2 (M+4) c2 (sealed' D) w2 w2.heap.size (Nat.le_refl _) HSL.out hc2 (by omega) hR2).mono ?_
           rw [T1.out, T2.out]
           rintro e w3 ⟨v3, rfl, hO3, hb3⟩
           obtain ⟨A3, c3, rfl, hR3, hc3⟩ := hO3.form
           have hbw3 := hbw2.trans (hb3.mono hbw2.size)
           have hR03 := hr0.below hbw3
           have hs3 := hbw3.size
           rw [HPL.out]
           have e2 : IntKind.i64.wrap ((M : Int) + 4 - 4) = (M : Int) := wrap_small' M h2
           have q3 : (len0 : Int) ≤ (M : Int) := by omega
           clear hO3 hb3 hR2 h3))
      have hbl := Below.refl w3.heap.size w3
      go_loopw [10] (fun i wr => ∃ k : Nat, k ≤ M ∧ i = .int .i64 k ∧ Below w3.heap.size w3 wr) (fun i _ => M - (intOf i).toNat)
      case atStart => exact ⟨0, by omega, rfl, hbl⟩
      case round =>
        obtain ⟨k, hk, rfl, hbr⟩ := hrel
        have hs4 := hbr.size
        have hR3r := hR3.below hbr
        have hR0r := (hR03.more hs3).below hbr
        have hbwr := hbw3.trans (hbr.mono hs3)
        clear hbl
        by_cases hlt : k < M
        · have hkD : k < D.length := by rw [HPL.out]; exact hlt
          obtain ⟨ad3, rfl, _, hc3k⟩ := hR3r.at_ hkD
          have hgk := HG.out k hkD
          by_cases hin : k < len0
          · have hkl : k < l0.length := by rw [HL0.out]; exact hin
            obtain ⟨ad0, rfl, _, hc0k⟩ := hR0r.at_ hkl
            rw [dif_pos hkl] at hgk
            rw [hgk] at hc3k
            unfold bv at hc3k hc0k
            generalize l0[k].toNat = x at hc3k hc0k
            have g0 : (0 : Int) ≤ (k : Int) := by omega
            have g1 : (k : Int) < (len0 : Int) := by omega
            have g2 : (k : Int) < (M : Int) := by omega
            have g3 : decide (len0 ≤ k) = false := by simp; omega
            have g4 : decide (k < len0) = true := by simp; omega
            clear hgk hR3r hR0r
            go_wp2_with fail
            go_quiet (fail)
            go_wp2
            go_roundw
            case rel => exact ⟨k + 1, by omega, by go_num, hbr.trans (below_drewN _ _ _)⟩
            case measure => simp [intOf]; omega
          · rw [dif_neg (by rw [HL0.out]; exact hin)] at hgk
            rw [hgk] at hc3k
            have hz : bv 0 = .int .u8 0 := rfl
            rw [hz] at hc3k
            have g0 : (0 : Int) ≤ (k : Int) := by omega
            have g1 : decide (k < len0) = false := by simp; omega
            have g2 : (k : Int) < (M : Int) := by omega
            have g3 : decide (len0 ≤ k) = true := by simp; omega
            clear hgk hR3r hR0r hz
            go_wp2_with fail
            go_quiet (fail)
            go_wp2
            go_roundw
            case rel => exact ⟨k + 1, by omega, by go_num, hbr.trans (below_drewN _ _ _)⟩
            case measure => simp [intOf]; omega
        · go_wp2
          go_ret
          exact ⟨rfl, hbwr⟩

set_option maxRecDepth 100000 in
theorem lifted (os : Os) (started : os.Started) (H : Type) (enc : TypeId × Value → H) :
    ReturnsInHanded {} Try.checked os 5 .any (Rows.checkBackSpec.pre6 enc Try.prog Try.f5 Rows.checkBackRow.domain false) (Rows.checkBackSpec.post enc Try.prog Try.f5 false true false false) := by
  refine returnsInHanded_of_change_sized (C := Try.checked) own started (by kernel_rfl) Try.func5
    (ChangeSpec.witness6 (enc := enc) (C := Try.checked) false ⟨#[], #[.slice none 0 0, .int .i64 0], []⟩ 8 (by kernel_rfl) (by kernel_rfl) (by kernel_rfl) (by kernel_rfl)) ?_
  intro W base args ds gs before hval0 hW hcnd hsz0 _
  have hval : ∀ (j : Nat) t v, Try.f5.params[j]? = some t → args[j]? = some v → Value.okWide Try.prog W .any base t v := hval0
  have hsz : (DataW.weightsEach Try.prog (Try.f5.params.toList ++ Rows.checkBackSpec.plain.varTypes Try.prog) (ds ++ gs)).all (· ≤ reachBytes) = true := hsz0
  clear hsz0
  have hW' := hW
  obtain ⟨p, q, hA0, hV, rfl, hfz, hnd⟩ := hW
  have hA : DataW.TrodAll enc Try.prog W 0 (fun _ => true) true Try.f5.params.toList args.toList ds p := hA0
  rw [Try.params5] at hA hval hsz
  obtain ⟨v0, vs0, d0, ds0, p0, q0, hargs, rfl, rfl, h0, r0⟩ := trodAll_cons hA
  obtain ⟨v1, vs1, d1, ds1, p1, q1, rfl, rfl, rfl, h1, r1⟩ := trodAll_cons r0
  obtain ⟨rfl, rfl, rfl⟩ := trodAll_nil r1
  obtain rfl : args = #[v0, v1] := by cases args; simp_all
  obtain ⟨rfl, rfl⟩ := trodVars_none hV
  obtain ⟨a0, len0, cap0, rfl⟩ := okWide_slice Try.underlying22 (hval 0 22 v0 rfl rfl)
  have k0 := h0
  have lt0 : ∀ x ∈ p0, x.block < W.heap.size := by obtain ⟨m, hm⟩ := k0; exact DataW.trod_lt m _ _ _ hm
  obtain ⟨l0, w0⟩ := open_bytes u8 (by kernel_rfl) (by kernel_rfl) h0 hsz (j := 0) rfl rfl
  clear hsz
  obtain ⟨a1, rfl, rfl, rfl, w1⟩ := open_int Try.underlying3 (hval 1 3 v1 rfl rfl) h1
  clear hA0 hval0
  simp only [List.append_nil] at hW'
  refine (walk a0 len0 cap0 l0 a1 W w0 w1).mono fun e W' ⟨he, bel⟩ => ?_
  subst he
  exact ⟨_, rfl, _, _, _, [], _, [], hW', trodAll_mk1 (shut_bool Try.underlying4 _), (trodAll_cons_mk (Below.trod laidOut (by kernel_rfl) (of_decide_eq_true (by kernel_rfl)) k0 bel lt0) (trodAll_cons_mk (shut_int Try.underlying3 w1) trodAll_mk0)), rfl, bel.frame _, fun h => by cases h⟩

theorem over : Rows.checkBackRow.holds Try.pinned (OpenSpec.ofChange Rows.checkBackSpec) :=
  OpenClaim.holds_of_wide 5 Try.f5 rfl rfl rfl rfl rfl rfl rfl ⟨rfl, rfl, rfl, rfl, rfl⟩ rfl rfl rfl rfl rfl (by kernel_rfl) Try.func5 (by kernel_rfl)
    (of_decide_eq_true (by kernel_rfl)) (by unfold Func.isWrapper; first | (rw [if_pos (by decide +kernel)]; kernel_rfl) | (rw [if_neg (by decide +kernel)]; exact ⟨rfl, rfl⟩))
    (fun os started H enc _ => lifted os started H enc)

theorem proved : Rows.CheckBackSaid := over
end Go.Proofs.Ytndpaehcjaejpaa.checkBack
