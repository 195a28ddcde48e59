/- The law 'CheckSectors' answers true for every input, and its arguments read afterwards as before; no condition. The frame follows the kit's skeleton; the walk is ours. -/
import Derived.Test.YtndpaehcjaejpaaRows
import Derived.Test.YtndpaehcjaejpaaArgs
import Derived.Test.YtndpaehcjaejpaaCheckSmall
import Derived.Test.YtndpaehcjaejpaaOwned
import Derived.WalkKit
import Derived.ProofKit
import Derived.OpenShut
import Derived.ShutString
import Derived.ChangeOld
import Derived.Below
import Derived.SizedLaws
namespace Go.Proofs.Ytndpaehcjaejpaa.checkSectors
open Go.ChangeShapes Go.WideShapes Go.ChangeAt Go.RowKit
set_option linter.unusedVariables false

theorem own : ownKnob Try.prog.godebug = none := by kernel_rfl
theorem laidOut : laidOutB Try.prog = true := by kernel_rfl

open Crc

set_option maxRecDepth 100000 in
set_option maxHeartbeats 800000 in
theorem walk (a0 : Option Addr) (len0 cap0 : Nat) (l0 : List UInt8) (a1 : Int) (a2 : Option Addr) (len2 cap2 : Nat) (l2 : List UInt8) (w : World) (w0 : ArgB w a0 len0 cap0 l0) (w1 : (Lit.int .i64 a1).wf = true) (w2 : ArgB w a2 len2 cap2 l2) :
    Calls Try.prog 4 #[.slice a0 len0 cap0, .int .i64 a1, .slice a2 len2 cap2] w fun e w' => e = .returned (.bool true) ∧ Below w.heap.size w w' := by
  obtain ⟨hl0, hf0, hm0, hr0⟩ := w0
  obtain ⟨hb10, hb11⟩ := bounds_i64 w1
  obtain ⟨hl2, hf2, hm2, hr2⟩ := w2
  obtain ⟨X, hX⟩ : ∃ X, layB l0 a1 = X := ⟨_, rfl⟩
  obtain ⟨E1, hE1⟩ : ∃ E, layE l0 a1 = E := ⟨_, rfl⟩
  obtain ⟨Y, hY⟩ : ∃ Y, takeB l2 = Y := ⟨_, rfl⟩
  obtain ⟨E2, hE2⟩ : ∃ E, takeE l2 = E := ⟨_, rfl⟩
  have HX := Lib.hid hX
  have HE1 := Lib.hid hE1
  have HY := Lib.hid hY
  have HE2 := Lib.hid hE2
  have HL0 := Lib.hid hl0
  have HL2 := Lib.hid hl2
  clear hX hE1 hY hE2 hl0 hl2 w1
  go_enter Try.func4, Try.ntmps4
  go_wp2_with (first
    | (go_at_call 9
       refine (small_any _).mono ?_
       rintro e w1 ⟨rfl, hb1⟩
       have hR0 := hr0.below hb1)
    | (go_at_call 10
       with_reducible show Calls _ _ #[Value.slice a0 _ _] _ _
       refine (lent_any a0 len0 cap0 l0 _ w.heap.size hb1.size HL0.out (by omega) hR0).mono ?_
       rintro e w2 ⟨rfl, hrow2, hb2⟩
       have hb12 := hb1.trans (hb2.mono hb1.size)
       have hs2 := hrow2.lt
       have hR2 := hr2.below hb12
       have hs1 := hb1.size
       clear hb1 hb2 hR0)
    | (go_at_call 10
       with_reducible show Calls _ _ #[Value.slice a2 _ _] _ _
       refine (lent_any a2 len2 cap2 l2 _ w.heap.size hb12.size HL2.out (by omega) hR2).mono ?_
       rintro e w3 ⟨rfl, hrow3, hb3⟩
       have hb13 := hb12.trans (hb3.mono hb12.size)
       have hrow23 := hrow2.below hb3 hs2
       have hs3 := hrow3.lt
       clear hb12 hrow2 hb3 hR2)
    | (go_at_call 14
       refine (lay_any _ len0 (len0+1) a1 l0 w3 w3.heap.size (Nat.le_refl _) HL0.out (by omega) hrow23.rd_take hb10 hb11).mono ?_
       rw [HX.out, HE1.out]
       rintro e w4 ⟨v4, rfl, hO4, hb4⟩
       obtain ⟨r4, e4, q4⟩ := orow hO4
       obtain ⟨A4, c4, rfl, _, _⟩ := hO4.form
       have HE4 := Lib.hid e4
       clear e4
       have hb14 := hb13.trans (hb4.mono hb13.size)
       have hrow24 := hrow23.below hb4 (by omega)
       have hrow34 := hrow3.below hb4 hs3
       have hs4 := hb4.size
       clear hb13 hb4 hrow23 hrow3)
    | (go_at_call 15
       refine (take_any _ len2 (len2+1) l2 w4 w4.heap.size (Nat.le_refl _) HL2.out (by omega) (by omega) hrow34.rd_take).mono ?_
       rw [HY.out, HE2.out]
       rintro e w5 ⟨v5, rfl, hO5, hb5⟩
       obtain ⟨r5, e5, q5⟩ := orow hO5
       obtain ⟨A5, c5, rfl, _, _⟩ := hO5.form
       have HE5 := Lib.hid e5
       have q45 := q4.below hb5 (Nat.le_refl _)
       clear e5 q4
       have hb15 := hb14.trans (hb5.mono hb14.size)
       have hrow25 := hrow24.below hb5 (by omega)
       have hrow35 := hrow34.below hb5 (by omega)
       have hO45 := hO4.below hb5
       have hs5 := hb5.size
       have hR05 := hr0.below hb15
       clear hb14 hb5 hrow24 hrow34)
    | (go_at_call 16
       refine (reflay_any a0 len0 cap0 a1 l0 w5 w.heap.size hb15.size HL0.out (by omega) hR05 hb10 hb11).mono ?_
       rw [HX.out, HE1.out]
       rintro e w6 ⟨v6, rfl, hO6, hb6⟩
       obtain ⟨A6, c6, rfl, _, _⟩ := hO6.form
       have hb16 := hb15.trans (hb6.mono hb15.size)
       have hrow26 := hrow25.below hb6 (by omega)
       have hrow36 := hrow35.below hb6 (by omega)
       have hO46 := hO45.below (hb6.mono (by omega))
       have hO56 := hO5.below hb6
       have hs6 := hb6.size
       have q46 := q45.below hb6 (by omega)
       have q56 := q5.below hb6 (Nat.le_refl _)
       clear q45 q5
       have hR26 := hr2.below hb16
       clear hb15 hb6 hrow25 hrow35 hO45 hR05)
    | (go_at_call 17
       refine (reftake_any a2 len2 cap2 l2 w6 w.heap.size hb16.size HL2.out hf2 (by omega) hR26).mono ?_
       rw [HY.out, HE2.out]
       rintro e w7 ⟨v7, rfl, hO7, hb7⟩
       obtain ⟨A7, c7, rfl, hR7, _⟩ := hO7.form
       have hb17 := hb16.trans (hb7.mono hb16.size)
       have hrow27 := hrow26.below hb7 (by omega)
       have hrow37 := hrow36.below hb7 (by omega)
       have hO47 := hO46.below (hb7.mono (by omega))
       have hO57 := hO56.below (hb7.mono (by omega))
       have hO67 := hO6.below hb7
       have hs7 := hb7.size
       have q47 := q46.below hb7 (by omega)
       have q57 := q56.below hb7 (by omega)
       clear q46 q56
       have hR07 := hr0.below hb17
       have hR27 := hr2.below hb17
       have s4 := (Rd.of_own hO47).str u8 9 Try.underlying9 c4
       have s5 := (Rd.of_own hO57).str u8 9 Try.underlying9 c5
       have s6 := (Rd.of_own hO67).str u8 9 Try.underlying9 c6
       have s7 := hR7.str u8 9 Try.underlying9 c7
       generalize str X = SX at s4 s6
       generalize str Y = SY at s5 s7
       clear hb16 hb7 hrow26 hrow36 hO46 hO56 hR26)
    | (go_at_call 12
       with_reducible show Calls _ _ #[_, Value.slice a0 _ _] _ _
       refine (kept_any a0 len0 cap0 w1.heap.size l0 w7 w.heap.size HL0.out (by omega) hR07 hrow27).mono ?_
       rintro e w8 ⟨rfl, rfl⟩)
    | (go_at_call 12
       with_reducible show Calls _ _ #[_, Value.slice a2 _ _] _ _
       refine (kept_any a2 len2 cap2 w2.heap.size l2 w7 w.heap.size HL2.out (by omega) hR27 hrow37).mono ?_
       rintro e w8 ⟨rfl, rfl⟩)
    | (go_at_call 18
       have hown : Owns (w7.alloc (.cells #[.slice A4 X.length c4, .slice A5 Y.length c5, .slice (some ⟨w1.heap.size, 0, none⟩) len0 (len0 + 1), .slice (some ⟨w2.heap.size, 0, none⟩) len2 (len2 + 1)] 22)) (some ⟨w7.heap.size, 0, none⟩)
           [r4, r5, ⟨some w1.heap.size, len0, len0 + 1⟩, ⟨some w2.heap.size, len2, len2 + 1⟩] := by
         have qi := orow_row hrow27 (n := len0) (m := len0 + 1) (by omega) (by simp [HL0.out]) (by omega)
         have ql := orow_row hrow37 (n := len2) (m := len2 + 1) (by omega) (by simp [HL2.out]) (by omega)
         have := owns_new (w := w7) 22 [(r4, w3.heap.size, w4.heap.size), (r5, w4.heap.size, w5.heap.size), (⟨some w1.heap.size, len0, len0 + 1⟩, w1.heap.size, w1.heap.size + 1), (⟨some w2.heap.size, len2, len2 + 1⟩, w2.heap.size, w2.heap.size + 1)]
           (by
             intro x hx
             simp only [List.mem_cons, List.not_mem_nil, or_false] at hx
             rcases hx with rfl | rfl | rfl | rfl
             · exact ⟨q47, by show w4.heap.size ≤ _; omega⟩
             · exact ⟨q57, by show w5.heap.size ≤ _; omega⟩
             · exact ⟨qi, by show w1.heap.size + 1 ≤ _; omega⟩
             · exact ⟨ql, by show w2.heap.size + 1 ≤ _; omega⟩)
           (by
             simp only [List.pairwise_cons, List.mem_cons, List.not_mem_nil, or_false, forall_eq_or_imp, forall_eq, List.Pairwise.nil, and_true, false_implies, implies_true]
             omega)
         simp only [List.map_cons, List.map_nil] at this
         rw [← HE4.out, ← HE5.out] at this
         exact this
       refine (owned_any _ 4 4 _ _ rfl (by omega) hown).mono ?_
       rintro e w9 ⟨rfl, hI⟩
       have hb79 : Below w.heap.size (w7.alloc (.cells #[.slice A4 X.length c4, .slice A5 Y.length c5, .slice (some ⟨w1.heap.size, 0, none⟩) len0 (len0 + 1), .slice (some ⟨w2.heap.size, 0, none⟩) len2 (len2 + 1)] 22)) w9 := hI.below_ (by
         intro r hr g hg
         simp only [List.mem_cons, List.not_mem_nil, or_false] at hr
         rcases hr with rfl | rfl | rfl | rfl
         · have := (q47.own g hg).1; omega
         · have := (q57.own g hg).1; omega
         · injection hg with hg; omega
         · injection hg with hg; omega)
       have hfin := (hb17.alloc hb17.size (.cells #[.slice A4 X.length c4, .slice A5 Y.length c5, .slice (some ⟨w1.heap.size, 0, none⟩) len0 (len0 + 1), .slice (some ⟨w2.heap.size, 0, none⟩) len2 (len2 + 1)] 22)).trans hb79
       clear hI hb79 hown))
  go_ret
  exact ⟨rfl, hfin⟩

set_option maxRecDepth 100000 in
theorem lifted (os : Os) (started : os.Started) (H : Type) (enc : TypeId × Value → H) :
    ReturnsInHanded {} Try.checked os 4 .any (Rows.checkSectorsSpec.pre6 enc Try.prog Try.f4 Rows.checkSectorsRow.domain false) (Rows.checkSectorsSpec.post enc Try.prog Try.f4 false true false false) := by
  refine returnsInHanded_of_change_sized (C := Try.checked) own started (by kernel_rfl) Try.func4
    (ChangeSpec.witness6 (enc := enc) (C := Try.checked) false ⟨#[], #[.slice none 0 0, .int .i64 0, .slice none 0 0], []⟩ 8 (by kernel_rfl) (by kernel_rfl) (by kernel_rfl) (by kernel_rfl)) ?_
  intro W base args ds gs before hval0 hW hcnd hsz0 _
  have hval : ∀ (j : Nat) t v, Try.f4.params[j]? = some t → args[j]? = some v → Value.okWide Try.prog W .any base t v := hval0
  have hsz : (DataW.weightsEach Try.prog (Try.f4.params.toList ++ Rows.checkSectorsSpec.plain.varTypes Try.prog) (ds ++ gs)).all (· ≤ reachBytes) = true := hsz0
  clear hsz0
  have hW' := hW
  obtain ⟨p, q, hA0, hV, rfl, hfz, hnd⟩ := hW
  have hA : DataW.TrodAll enc Try.prog W 0 (fun _ => true) true Try.f4.params.toList args.toList ds p := hA0
  rw [Try.params4] at hA hval hsz
  obtain ⟨v0, vs0, d0, ds0, p0, q0, hargs, rfl, rfl, h0, r0⟩ := trodAll_cons hA
  obtain ⟨v1, vs1, d1, ds1, p1, q1, rfl, rfl, rfl, h1, r1⟩ := trodAll_cons r0
  obtain ⟨v2, vs2, d2, ds2, p2, q2, rfl, rfl, rfl, h2, r2⟩ := trodAll_cons r1
  obtain ⟨rfl, rfl, rfl⟩ := trodAll_nil r2
  obtain rfl : args = #[v0, v1, v2] := by cases args; simp_all
  obtain ⟨rfl, rfl⟩ := trodVars_none hV
  obtain ⟨a0, len0, cap0, rfl⟩ := okWide_slice Try.underlying22 (hval 0 22 v0 rfl rfl)
  have k0 := h0
  have lt0 : ∀ x ∈ p0, x.block < W.heap.size := by obtain ⟨m, hm⟩ := k0; exact DataW.trod_lt m _ _ _ hm
  obtain ⟨l0, w0⟩ := open_bytes u8 (by kernel_rfl) (by kernel_rfl) h0 hsz (j := 0) rfl rfl
  obtain ⟨a2, len2, cap2, rfl⟩ := okWide_slice Try.underlying22 (hval 2 22 v2 rfl rfl)
  have k2 := h2
  have lt2 : ∀ x ∈ p2, x.block < W.heap.size := by obtain ⟨m, hm⟩ := k2; exact DataW.trod_lt m _ _ _ hm
  obtain ⟨l2, w2⟩ := open_bytes u8 (by kernel_rfl) (by kernel_rfl) h2 hsz (j := 2) rfl rfl
  clear hsz
  obtain ⟨a1, rfl, rfl, rfl, w1⟩ := open_int Try.underlying3 (hval 1 3 v1 rfl rfl) h1
  clear hA0 hval0
  simp only [List.append_nil] at hW'
  refine (walk a0 len0 cap0 l0 a1 a2 len2 cap2 l2 W w0 w1 w2).mono fun e W' ⟨he, bel⟩ => ?_
  subst he
  exact ⟨_, rfl, _, _, _, [], _, [], hW', trodAll_mk1 (shut_bool Try.underlying4 _), (trodAll_cons_mk (Below.trod laidOut (by kernel_rfl) (of_decide_eq_true (by kernel_rfl)) k0 bel lt0) (trodAll_cons_mk (shut_int Try.underlying3 w1) (trodAll_cons_mk (Below.trod laidOut (by kernel_rfl) (of_decide_eq_true (by kernel_rfl)) k2 bel lt2) trodAll_mk0))), rfl, bel.frame _, fun h => by cases h⟩

theorem over : Rows.checkSectorsRow.holds Try.pinned (OpenSpec.ofChange Rows.checkSectorsSpec) :=
  OpenClaim.holds_of_wide 4 Try.f4 rfl rfl rfl rfl rfl rfl rfl ⟨rfl, rfl, rfl, rfl, rfl⟩ rfl rfl rfl rfl rfl (by kernel_rfl) Try.func4 (by kernel_rfl)
    (of_decide_eq_true (by kernel_rfl)) (by unfold Func.isWrapper; first | (rw [if_pos (by decide +kernel)]; kernel_rfl) | (rw [if_neg (by decide +kernel)]; exact ⟨rfl, rfl⟩))
    (fun os started H enc _ => lifted os started H enc)

theorem proved : Rows.CheckSectorsSaid := over
end Go.Proofs.Ytndpaehcjaejpaa.checkSectors
