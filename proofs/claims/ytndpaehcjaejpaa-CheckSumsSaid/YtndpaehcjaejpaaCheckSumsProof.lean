/- The law 'CheckSums' answers true for every input, and its arguments read afterwards as before; no condition. The frame follows the kit's skeleton; the walk is ours. -/
import Derived.Test.YtndpaehcjaejpaaRows
import Derived.Test.YtndpaehcjaejpaaArgs
import Derived.Test.YtndpaehcjaejpaaCheckSmall
import Derived.Test.YtndpaehcjaejpaaOwned
import Derived.WalkKit
import Derived.ProofKit
import Derived.OpenShut
import Derived.ShutString
import Derived.ChangeOld
import Derived.Below
import Derived.SizedLaws
namespace Go.Proofs.Ytndpaehcjaejpaa.checkSums
open Go.ChangeShapes Go.WideShapes Go.ChangeAt Go.RowKit
set_option linter.unusedVariables false

theorem own : ownKnob Try.prog.godebug = none := by kernel_rfl
theorem laidOut : laidOutB Try.prog = true := by kernel_rfl

open Crc

set_option maxRecDepth 100000 in
set_option maxHeartbeats 400000 in
theorem walk (a0 : Option Addr) (len0 cap0 : Nat) (l0 : List UInt8) (a1 : Option Addr) (len1 cap1 : Nat) (l1 : List UInt8) (w : World) (w0 : ArgB w a0 len0 cap0 l0) (w1 : ArgB w a1 len1 cap1 l1) :
    Calls Try.prog 3 #[.slice a0 len0 cap0, .slice a1 len1 cap1] w fun e w' => e = .returned (.bool true) ∧ Below w.heap.size w w' := by
  obtain ⟨hl0, hf0, hm0, hr0⟩ := w0
  obtain ⟨hl1, hf1, hm1, hr1⟩ := w1
  by_cases hbig : 1048576 < len0 ∨ 1048576 < len1
  · rcases hbig with h | h
    · go_enter Try.func3, Try.ntmps3
      go_wp2_with (go_at_call 9; refine (small_any _).mono ?_; rintro e w1 ⟨rfl, hb1⟩)
      go_ret
      exact ⟨rfl, hb1⟩
    · by_cases h0 : 1048576 < len0
      all_goals
        go_enter Try.func3, Try.ntmps3
        go_wp2_with (go_at_call 9; refine (small_any _).mono ?_; rintro e w1 ⟨rfl, hb1⟩)
        go_ret
        exact ⟨rfl, hb1⟩
  · have h0 : len0 ≤ 1048576 := by omega
    have h1 : len1 ≤ 1048576 := by omega
    clear hbig
    have HL0 := Lib.hid hl0
    have HL1 := Lib.hid hl1
    clear hl0 hl1
    go_enter Try.func3, Try.ntmps3
    go_wp2_with (first
      | (go_at_call 9
         refine (small_any _).mono ?_
         rintro e w1 ⟨rfl, hb1⟩
         have hR0 := hr0.below hb1)
      | (go_at_call 10
         refine (lent_any a0 len0 cap0 l0 _ w.heap.size hb1.size HL0.out (by omega) hR0).mono ?_
         rintro e w2 ⟨rfl, hrow2, hb2⟩
         have hbw2 := hb1.trans (hb2.mono hb1.size)
         have hs2 := hbw2.size
         clear hb2 hR0)
      | (go_at_call 11
         have hP := parts_new 22 [⟨some ⟨w1.heap.size, 0, none⟩, len0, len0 + 1, l0⟩, ⟨a1, len1, cap1, l1⟩] (w := w2) (Nat.le_refl _) (by
           intro p hp
           simp only [List.mem_cons, List.not_mem_nil, or_false] at hp
           rcases hp with rfl | rfl
           · exact ⟨HL0.out, (by show len0 ≤ _; omega), hrow2.rd_take⟩
           · exact ⟨HL1.out, (by show len1 ≤ _; omega), (hr1.below hbw2).more hs2⟩)
         refine (sum_any _ 2 2 _ _ _ (by simp) rfl (by omega) hP).mono ?_
         have hbo : bytesOf [⟨some ⟨w1.heap.size, 0, none⟩, len0, len0 + 1, l0⟩, ⟨a1, len1, cap1, l1⟩] = l0 ++ l1 := by simp [bytesOf]
         rw [hbo]
         rintro e w3 ⟨rfl, hb3⟩
         have hb3' : Below w2.heap.size w2 w3 := ((Below.refl _ _).alloc (Nat.le_refl _) _).trans (hb3.mono (by simp))
         have hbw3 := hbw2.trans (hb3'.mono hs2)
         have hs3 := hbw3.size
         have hrow3 := hrow2.below hb3' hrow2.lt
         have hR03 := hr0.below hbw3
         have hR13 := hr1.below hbw3
         clear hb3 hb3' hP hbo hrow2)
      | (go_at_call 12
         refine (kept_any a0 len0 cap0 w1.heap.size l0 w3 w.heap.size HL0.out (by omega) hR03 hrow3).mono ?_
         rintro e w4 ⟨rfl, rfl⟩
         have hOe := own_empty (w := w3) 5 hs3
         have hbe := hbw3.alloc hs3 (.cells #[] 5)
         have hRe0 := hR03.alloc hs3 (.cells #[] 5)
         have hse := hbe.size)
      | (with_reducible refine at_slot 36 ?_
         refine wpList_append_u8 u8 (by simp [Region.wanted, yielded]) (.tmp 34) (.tmp 35) rfl w.heap.size _ [] _ len0 cap0 l0 w.heap.size rfl rfl hOe hRe0 HL0.out (by simp; omega) hse ?_
         intro v5 w5 hO5 hg5 hat5
         have hb5 := below_grown hbe hg5 hse hOe (Nat.le_refl _)
         have hs5 := hb5.size
         have hR15 := hr1.below hb5
         rw [List.nil_append] at hO5
         clear hg5 hat5)
      | (with_reducible refine at_slot 38 ?_
         refine wpList_append_u8 u8 (by simp [Region.wanted, yielded]) (.tmp 36) (.tmp 37) rfl w.heap.size v5 l0 _ len1 cap1 l1 w.heap.size rfl rfl hO5 hR15 HL1.out (by rw [HL0.out]; omega) hs5 ?_
         intro v6 w6 hO6 hg6 hat6
         have hb6 := below_grown hb5 hg6 hs5 hO5 (Nat.le_refl _)
         obtain ⟨A6, c6, rfl, hR6, hc6⟩ := hO6.form
         clear hg6 hat6)
      | (go_at_call 13
         refine (refsum_any A6 _ c6 (l0 ++ l1) w6 _ (by simp) (by rw [HL0.out, HL1.out]; omega) hR6).mono ?_
         rintro e w7 ⟨rfl, rfl⟩))
    go_ret
    exact ⟨rfl, hb6⟩

set_option maxRecDepth 100000 in
theorem lifted (os : Os) (started : os.Started) (H : Type) (enc : TypeId × Value → H) :
    ReturnsInHanded {} Try.checked os 3 .any (Rows.checkSumsSpec.pre6 enc Try.prog Try.f3 Rows.checkSumsRow.domain false) (Rows.checkSumsSpec.post enc Try.prog Try.f3 false true false false) := by
  refine returnsInHanded_of_change_sized (C := Try.checked) own started (by kernel_rfl) Try.func3
    (ChangeSpec.witness6 (enc := enc) (C := Try.checked) false ⟨#[], #[.slice none 0 0, .slice none 0 0], []⟩ 8 (by kernel_rfl) (by kernel_rfl) (by kernel_rfl) (by kernel_rfl)) ?_
  intro W base args ds gs before hval0 hW hcnd hsz0 _
  have hval : ∀ (j : Nat) t v, Try.f3.params[j]? = some t → args[j]? = some v → Value.okWide Try.prog W .any base t v := hval0
  have hsz : (DataW.weightsEach Try.prog (Try.f3.params.toList ++ Rows.checkSumsSpec.plain.varTypes Try.prog) (ds ++ gs)).all (· ≤ reachBytes) = true := hsz0
  clear hsz0
  have hW' := hW
  obtain ⟨p, q, hA0, hV, rfl, hfz, hnd⟩ := hW
  have hA : DataW.TrodAll enc Try.prog W 0 (fun _ => true) true Try.f3.params.toList args.toList ds p := hA0
  rw [Try.params3] at hA hval hsz
  obtain ⟨v0, vs0, d0, ds0, p0, q0, hargs, rfl, rfl, h0, r0⟩ := trodAll_cons hA
  obtain ⟨v1, vs1, d1, ds1, p1, q1, rfl, rfl, rfl, h1, r1⟩ := trodAll_cons r0
  obtain ⟨rfl, rfl, rfl⟩ := trodAll_nil r1
  obtain rfl : args = #[v0, v1] := by cases args; simp_all
  obtain ⟨rfl, rfl⟩ := trodVars_none hV
  obtain ⟨a0, len0, cap0, rfl⟩ := okWide_slice Try.underlying22 (hval 0 22 v0 rfl rfl)
  have k0 := h0
  have lt0 : ∀ x ∈ p0, x.block < W.heap.size := by obtain ⟨m, hm⟩ := k0; exact DataW.trod_lt m _ _ _ hm
  obtain ⟨l0, w0⟩ := open_bytes u8 (by kernel_rfl) (by kernel_rfl) h0 hsz (j := 0) rfl rfl
  obtain ⟨a1, len1, cap1, rfl⟩ := okWide_slice Try.underlying22 (hval 1 22 v1 rfl rfl)
  have k1 := h1
  have lt1 : ∀ x ∈ p1, x.block < W.heap.size := by obtain ⟨m, hm⟩ := k1; exact DataW.trod_lt m _ _ _ hm
  obtain ⟨l1, w1⟩ := open_bytes u8 (by kernel_rfl) (by kernel_rfl) h1 hsz (j := 1) rfl rfl
  clear hsz
  clear hA0 hval0
  simp only [List.append_nil] at hW'
  refine (walk a0 len0 cap0 l0 a1 len1 cap1 l1 W w0 w1).mono fun e W' ⟨he, bel⟩ => ?_
  subst he
  exact ⟨_, rfl, _, _, _, [], _, [], hW', trodAll_mk1 (shut_bool Try.underlying4 _), (trodAll_cons_mk (Below.trod laidOut (by kernel_rfl) (of_decide_eq_true (by kernel_rfl)) k0 bel lt0) (trodAll_cons_mk (Below.trod laidOut (by kernel_rfl) (of_decide_eq_true (by kernel_rfl)) k1 bel lt1) trodAll_mk0)), rfl, bel.frame _, fun h => by cases h⟩

theorem over : Rows.checkSumsRow.holds Try.pinned (OpenSpec.ofChange Rows.checkSumsSpec) :=
  OpenClaim.holds_of_wide 3 Try.f3 rfl rfl rfl rfl rfl rfl rfl ⟨rfl, rfl, rfl, rfl, rfl⟩ rfl rfl rfl rfl rfl (by kernel_rfl) Try.func3 (by kernel_rfl)
    (of_decide_eq_true (by kernel_rfl)) (by unfold Func.isWrapper; first | (rw [if_pos (by decide +kernel)]; kernel_rfl) | (rw [if_neg (by decide +kernel)]; exact ⟨rfl, rfl⟩))
    (fun os started H enc _ => lifted os started H enc)

theorem proved : Rows.CheckSumsSaid := over
end Go.Proofs.Ytndpaehcjaejpaa.checkSums
