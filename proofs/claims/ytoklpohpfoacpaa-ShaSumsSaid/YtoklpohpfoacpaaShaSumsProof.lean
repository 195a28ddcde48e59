/- The law 'ShaSums' answers true for every input, and its arguments read afterwards as before; no condition. The frame follows the kit's skeleton; the walk is ours. -/
import Derived.Test.YtoklpohpfoacpaaRows
import Derived.Test.YtoklpohpfoacpaaArgs
import Derived.Test.YtoklpohpfoacpaaShaTop
import Derived.Test.YtoklpohpfoacpaaShaRefSum
import Derived.Test.YtoklpohpfoacpaaOwned
import Derived.Deep.RegionWith
import Derived.Deep.RegionHeld3
import Derived.Deep.DrawnRows
import Derived.WalkKit
import Derived.ProofKit
import Derived.OpenShut
import Derived.ShutString
import Derived.ChangeOld
import Derived.Below
import Derived.SizedLaws
namespace Go.Proofs.Ytoklpohpfoacpaa.shaSums
open Go.ChangeShapes Go.WideShapes Go.ChangeAt Go.RowKit
set_option linter.unusedVariables false

theorem own : ownKnob Try.prog.godebug = none := by kernel_rfl
theorem laidOut : laidOutB Try.prog = true := by kernel_rfl

open Sha
attribute [local go_sem ↓] Go.wp_at_zero Go.wp_at_succ
set_option linter.unusedSimpArgs false
theorem sha_len (l : List UInt8) : (sha l).length = 32 := by
  unfold sha
  obtain ⟨a, b, c, d, e, f, g, i, h, _⟩ := (blocks_eight ((padded l).length / 64) hw_eight (padded l)).parts
  rw [h]; rfl

set_option maxRecDepth 100000 in
set_option maxHeartbeats 1000000 in
theorem walk (a0 : Option Addr) (len0 cap0 : Nat) (l0 : List UInt8) (a1 : Option Addr) (len1 cap1 : Nat) (l1 : List UInt8) (w : World) (w0 : ArgB w a0 len0 cap0 l0) (w1 : ArgB w a1 len1 cap1 l1) :
    Calls Try.prog 3 #[.slice a0 len0 cap0, .slice a1 len1 cap1] w fun e w' => e = .returned (.bool true) ∧ Below w.heap.size w w' := by
  obtain ⟨hl0, hf0, hm0, hr0⟩ := w0
  obtain ⟨hl1, hf1, hm1, hr1⟩ := w1
  by_cases hbig : 65536 < len0 ∨ 65536 < len1
  · rcases hbig with h | h
    · go_enter Try.func3, Try.ntmps3
      go_wp2_with (go_at_call 10; refine (small_any _).mono ?_; rintro e w1 ⟨rfl, hb1⟩)
      go_ret
      exact ⟨rfl, hb1⟩
    · by_cases h0 : 65536 < len0
      all_goals
        go_enter Try.func3, Try.ntmps3
        go_wp2_with (go_at_call 10; refine (small_any _).mono ?_; rintro e w1 ⟨rfl, hb1⟩)
        go_ret
        exact ⟨rfl, hb1⟩
  · have h0 : len0 ≤ 65536 := by omega
    have h1 : len1 ≤ 65536 := by omega
    clear hbig
    have HL0 := Lib.hid hl0
    have HL1 := Lib.hid hl1
    have HE := Lib.hid (sha_len (l0 ++ l1))
    clear hl0 hl1
    go_enter Try.func3, Try.ntmps3
    go_wp2_with (first
      | (go_at_call 10
         refine (small_any _).mono ?_
         rintro e w1 ⟨rfl, hb1⟩
         have hR0 := hr0.below hb1)
      | (go_at_call 11
         refine (lent_any a0 len0 cap0 l0 _ w.heap.size hb1.size HL0.out (by omega) hR0).mono ?_
         rintro e w2 ⟨rfl, hrow2, hb2⟩
         have hbw2 := hb1.trans (hb2.mono hb1.size)
         have hs2 := hbw2.size
         have hs12 := hb2.size
         have hz12 : w1.heap.size < w2.heap.size := hrow2.lt
         have hz1 := hb1.size
         clear hb2 hR0)
      | (go_at_call 12
         have hq := parts_new (w := w2) (S := fun k => k < w2.heap.size) (T' := fun x => x < (w2.alloc (.cells #[.slice (some ⟨w1.heap.size, 0, none⟩) len0 (len0 + 1), .slice a1 len1 cap1] 22)).heap.size) 22 [(⟨some ⟨w1.heap.size, 0, none⟩, len0, len0 + 1, l0⟩ : Part), ⟨a1, len1, cap1, l1⟩]
           (by
             intro p hp
             simp only [List.mem_cons, List.not_mem_nil, or_false] at hp
             rcases hp with rfl | rfl
             · exact ⟨HL0.out, (by show len0 ≤ len0 + 1; omega), (by show len0 + 1 ≤ 9223372036854775807; omega), hrow2.rd_take.s (fun _ h => h)⟩
             · exact ⟨HL1.out, hf1, (by show cap1 ≤ 9223372036854775807; omega), ((hr1.below hbw2).more hs2).s (fun _ h => h)⟩) (fun _ h => h) (by simp) (fun x hx => by simp; omega)
         refine (shasum_any _ 2 2 [(⟨some ⟨w1.heap.size, 0, none⟩, len0, len0 + 1, l0⟩ : Part), ⟨a1, len1, cap1, l1⟩] _ hq rfl (by omega) (by simp [bytesOf]; have := HL0.out; have := HL1.out; omega)).mono ?_
         rw [show bytesOf [(⟨some ⟨w1.heap.size, 0, none⟩, len0, len0 + 1, l0⟩ : Part), ⟨a1, len1, cap1, l1⟩] = l0 ++ l1 by simp [bytesOf]]
         rintro e w3 ⟨v3, rfl, hO3, hb3⟩
         obtain ⟨r3, hv3, hq3⟩ := orow hO3
         obtain ⟨A3, c3, hv3', hR3, _⟩ := hO3.form
         have HV3 := Lib.hid (hv3'.symm.trans hv3)
         subst hv3'
         clear hv3
         rw [HE.out] at HV3 ⊢
         have hb23 : Below w2.heap.size w2 w3 := ((Below.refl _ _).alloc (Nat.le_refl _) _).trans (hb3.mono (by simp))
         have hbw3 := hbw2.trans (hb23.mono hs2)
         have hs3 := hbw3.size
         have hs23 := hb23.size
         have hrow3 := hrow2.below hb23 hrow2.lt
         have hR03 := hr0.below hbw3
         have hR13 := hr1.below hbw3
         have hq3' : RowIn w3 r3 (w2.heap.size + 1) w3.heap.size := by simpa using hq3
         have hs3c := hR3.str u8 9 Try.underlying9 c3
         rw [HE.out] at hs3c
         have HR3 := Lib.hid hR3
         have HQ3 := Lib.hid hq3'
         clear hb3 hq hO3 hrow2 hq3 hq3' hR3)
      | (go_at_call 13
         refine (kept_any a0 len0 cap0 w1.heap.size l0 w3 w.heap.size HL0.out (by omega) hR03 hrow3).mono ?_
         rintro e w4 ⟨rfl, rfl⟩))
    have hOe : OwnV (w3.drew.alloc (.cells #[] 5)) 5 w.heap.size (.slice (some ⟨w3.heap.size, 0, none⟩) 0 0) (bvs []) := OwnV.row (xs := bvs []) (heap_alloc_new w3.drew _) hs3 rfl (by omega)
    have hbe : Below w.heap.size w (w3.drew.alloc (.cells #[] 5)) := hbw3.drew.alloc hs3 _
    have hb3e : Below w3.heap.size w3 (w3.drew.alloc (.cells #[] 5)) := (Below.refl w3.heap.size w3).drew.alloc (Nat.le_refl _) _
    have hse := hbe.size
    have hR3e : Rd ((w3.alloc (.cells #[] 5)).drew) w3.heap.size A3 (sha (l0 ++ l1)) := HR3.out.below hb3e
    have hsd : (convert 22 9 (.slice A3 32 c3)).run Try.prog w3.drew = .ok (.string (str (sha (l0 ++ l1)))) w3.drew := by
      have := Rd.str u8 9 Try.underlying9 (w := w3.drew) (B := w3.heap.size) (l := sha (l0 ++ l1)) HR3.out c3
      rw [HE.out] at this; exact this
    have hsa : (convert 22 9 (.slice A3 32 c3)).run Try.prog (w3.alloc (.cells #[] 5)).drew = .ok (.string (str (sha (l0 ++ l1)))) (w3.alloc (.cells #[] 5)).drew := by
      have := Rd.str u8 9 Try.underlying9 hR3e c3
      rw [HE.out] at this; exact this
    have HOE := Lib.hid hOe
    have HBE := Lib.hid hbe
    have HB3E := Lib.hid hb3e
    have HSD := Lib.hid hsd
    have HSA := Lib.hid hsa
    have HS5 := Lib.hid (fun W (hb : Below w3.heap.size w3 W) => (show (convert 22 9 (.slice A3 32 c3)).run Try.prog W = .ok (.string (str (sha (l0 ++ l1)))) W from by
      have := Rd.str u8 9 Try.underlying9 (HR3.out.below hb) c3
      rw [HE.out] at this; exact this))
    clear hOe hbe hb3e hR3e hsd hsa hs3c
    go_wp2_with fail
    refine wp_region_held_drew (S := fun w' => (convert 22 9 (.slice A3 32 c3)).run Try.prog w' = .ok (.string (str (sha (l0 ++ l1)))) w') (by kernel_rfl) (HSD.out) (fun hHeld => ?_)
    refine wpAnyH_take (i := 0) (v := ?_) rfl (by kernel_rfl) (by kernel_rfl) (by kernel_rfl) (fun _ _ _ h => h) (Or.inl ⟨by kernel_rfl, ?_⟩) (by assumption) ?_
    rotate_left
    · (intro w hSw; (try dsimp only at hSw); go_simp; first | done | with_reducible rfl)
    (try simp only [Act.put, List.setIfInBounds_toArray, List.set_cons_zero, List.set_cons_succ])
    refine wpAnyH_take (i := 1) (v := ?_) rfl (by kernel_rfl) (by kernel_rfl) (by kernel_rfl) (fun _ _ _ h => h) (Or.inl ⟨by kernel_rfl, ?_⟩) (by assumption) ?_
    rotate_left
    · (intro w hSw; (try dsimp only at hSw); go_simp; first | done | with_reducible rfl)
    (try simp only [Act.put, List.setIfInBounds_toArray, List.set_cons_zero, List.set_cons_succ])
    refine wpAnyH_take (i := 3) (v := ?_) rfl (by kernel_rfl) (by kernel_rfl) (by kernel_rfl) (fun _ _ _ h => h) (Or.inl ⟨by kernel_rfl, ?_⟩) (by assumption) ?_
    rotate_left
    · (intro w hSw; (try dsimp only at hSw); go_simp; first | done | with_reducible rfl)
    (try simp only [Act.put, List.setIfInBounds_toArray, List.set_cons_zero, List.set_cons_succ])
    refine wpAnyH_take (i := 5) (v := ?_) rfl (by kernel_rfl) (by kernel_rfl) (by kernel_rfl) (fun _ _ _ h => h) (Or.inl ⟨by kernel_rfl, ?_⟩) (by assumption) ?_
    rotate_left
    · (intro w hSw; (try dsimp only at hSw); go_simp; first | done | with_reducible rfl)
    (try simp only [Act.put, List.setIfInBounds_toArray, List.set_cons_zero, List.set_cons_succ])
    refine wpAnyH_ready (rs := [2]) (by kernel_rfl) (by simp) ?_
    refine AllReadyH.cons rfl (fun KK hKK => ?_) AllReadyH.nil
    go_simp
    refine hKK.out _ _ ?_ (fun hHeld => ?_)
    · (first | exact HSA.out | assumption)
    clear hKK KK
    (try simp only [Act.put, List.setIfInBounds_toArray, List.set_cons_zero, List.set_cons_succ])
    refine wpAnyH_ready (rs := [4]) (by kernel_rfl) (by simp) ?_
    refine AllReadyH.cons rfl (fun KK hKK => ?_) AllReadyH.nil
    refine step_append_v u8.el (by rfl) (.tmp 32) (.tmp 33) rfl w.heap.size _ (bvs []) _ len0 cap0 (bvs l0) rfl rfl HOE.out (by rw [bvs_length]; exact HL0.out) ((hr0.below HBE.out).news len0 HL0.out) (bvs_one _) (by simp [bvs]; omega) (by simp [bvs]; omega) hse ?_
    intro v5 w5 hO5 hg5 hat5
    have hb5 := HBE.out.grown hg5 hse (fun x hx => (HOE.out.lt x hx).1)
    have hb35 : Below w3.heap.size w3 w5 := HB3E.out.grown hg5 HB3E.out.size (fun x hx => by injection hx with hx; rw [← hx]; exact Nat.le_refl _)
    have hs5 := hb5.size
    have hs35 := hb35.size
    have hO5' : OwnV w5 5 w.heap.size v5 (bvs l0) := by simpa [bvs] using hO5
    have hO5b : ∀ x, v5.ownBlock = some x → w3.heap.size ≤ x := fun x hx => by
      rcases hat5 with h | h
      · rw [h] at hx; injection hx with hx; rw [← hx]; exact Nat.le_refl _
      · rw [h] at hx; injection hx with hx; rw [← hx]; exact HB3E.out.size
    have HO5 := Lib.hid hO5'
    have HB5 := Lib.hid hb5
    have HB35 := Lib.hid hb35
    have HO5B := Lib.hid hO5b
    clear hO5 hg5 hat5 hO5' hb5 hb35 hO5b
    refine hKK.out _ _ ?_ (fun hHeld => ?_)
    · (exact HS5.out _ HB35.out)
    clear hKK KK
    (try simp only [Act.put, List.setIfInBounds_toArray, List.set_cons_zero, List.set_cons_succ])
    refine wpAnyH_ready (rs := [6]) (by kernel_rfl) (by simp) ?_
    refine AllReadyH.cons rfl (fun KK hKK => ?_) AllReadyH.nil
    refine step_append_v u8.el (by rfl) (.tmp 34) (.tmp 35) rfl w.heap.size _ (bvs l0) _ len1 cap1 (bvs l1) rfl rfl HO5.out (by rw [bvs_length]; exact HL1.out) ((hr1.below HB5.out).news len1 HL1.out) (bvs_one _) (by rw [bvs_length, HL0.out]; omega) (by rw [bvs_length, HL0.out]; omega) hs5 ?_
    intro v6 w6 hO6 hg6 hat6
    have hb6 := HB5.out.grown hg6 hs5 (fun x hx => (HO5.out.lt x hx).1)
    have hb36 : Below w3.heap.size w3 w6 := HB35.out.grown hg6 hs35 (fun x hx => HO5B.out x hx)
    have hs6 := hb6.size
    have hO6' : OwnB w6 5 w.heap.size v6 (l0 ++ l1) := by unfold OwnB; rw [bvs_append]; exact hO6
    obtain ⟨A6, c6, hv6, hR6, _⟩ := hO6'.form
    rw [List.length_append, HL0.out, HL1.out] at hv6
    subst hv6
    have HR6 := Lib.hid hR6
    have HB6 := Lib.hid hb6
    have HB36 := Lib.hid hb36
    have hs36 := hb36.size
    clear hO6 hg6 hat6 hb6 hb36 hR6
    refine hKK.out _ _ ?_ (fun hHeld => ?_)
    · (exact HS5.out _ HB36.out)
    clear hKK KK
    (try simp only [Act.put, List.setIfInBounds_toArray, List.set_cons_zero, List.set_cons_succ])
    refine wpAnyH_ready (rs := [7]) (by kernel_rfl) (by simp) ?_
    refine AllReadyH.cons rfl (fun KK hKK => ?_) AllReadyH.nil
    go_simp
    refine (refsum_any A6 (len0 + len1) c6 (l0 ++ l1) w6 w6.heap.size (Nat.le_refl _) (by rw [List.length_append, HL0.out, HL1.out]) (by omega) HR6.out).mono ?_
    rintro e w7 ⟨v7, rfl, hO7, hb7⟩
    obtain ⟨A7, c7, rfl, hR7, _⟩ := OwnB.form hO7
    have hbw7 := HB6.out.trans (hb7.mono hs6)
    have hb37 := HB36.out.trans (hb7.mono hs36)
    have hs7 := hR7.str u8 9 Try.underlying9 c7
    rw [HE.out] at hs7 ⊢
    have HB37 := Lib.hid hb37
    have HBW7 := Lib.hid hbw7
    have hs37 := HS5.out _ hb37
    clear hO7 hR7 hb7 hb37 hbw7
    go_wp2_with fail
    refine hKK.out _ _ ?_ (fun hHeld => ?_)
    · (exact HS5.out _ HB37.out)
    clear hKK KK
    (try simp only [Act.put, List.setIfInBounds_toArray, List.set_cons_zero, List.set_cons_succ])
    refine wpAnyH_ready (rs := [8]) (by kernel_rfl) (by simp) ?_
    refine AllReadyH.cons rfl (fun KK hKK => ?_) AllReadyH.nil
    go_simp
    refine hKK.out _ _ ?_ (fun hHeld => ?_)
    · (first | exact HSA.out | assumption)
    clear hKK KK
    (try simp only [Act.put, List.setIfInBounds_toArray, List.set_cons_zero, List.set_cons_succ])
    refine wpAnyH_ready (rs := [9]) (by kernel_rfl) (by simp) ?_
    refine AllReadyH.cons rfl (fun KK hKK => ?_) AllReadyH.nil
    go_simp
    refine hKK.out _ _ ?_ (fun hHeld => ?_)
    · (first | exact HSA.out | assumption)
    clear hKK KK
    (try simp only [Act.put, List.setIfInBounds_toArray, List.set_cons_zero, List.set_cons_succ])
    refine wpAnyH_ready (rs := [10]) (by kernel_rfl) (by simp) ?_
    refine AllReadyH.cons rfl (fun KK hKK => ?_) AllReadyH.nil
    go_simp
    refine hKK.out _ _ ?_ (fun hHeld => ?_)
    · (first | exact HSA.out | assumption)
    clear hKK KK
    (try simp only [Act.put, List.setIfInBounds_toArray, List.set_cons_zero, List.set_cons_succ])
    refine wpAnyH_done (by kernel_rfl) ?_ _
    go_wp2_with (go_at_call 15
                 have hbw7 := HBW7.out
                 have hs7w := hbw7.size
                 have hz37 := HB37.out.size
                 have hown : Owns (w7.alloc (.cells #[.slice A3 32 c3, .slice (some ⟨w1.heap.size, 0, none⟩) len0 (len0 + 1)] 22)) (some ⟨w7.heap.size, 0, none⟩) [r3, ⟨some w1.heap.size, len0, len0 + 1⟩] := by
                   have qi := orow_row (hrow3.below HB37.out hrow3.lt) (n := len0) (m := len0 + 1) (by omega) (by simp [HL0.out]) (by omega)
                   have q3 := HQ3.out.below HB37.out (Nat.le_refl _)
                   have := owns_new (w := w7) 22 [(r3, w2.heap.size + 1, w3.heap.size), (⟨some w1.heap.size, len0, len0 + 1⟩, w1.heap.size, w1.heap.size + 1)]
                     (by
                       intro x hx
                       simp only [List.mem_cons, List.not_mem_nil, or_false] at hx
                       rcases hx with rfl | rfl
                       · exact ⟨q3, by show w3.heap.size ≤ _; omega⟩
                       · exact ⟨qi, by show w1.heap.size + 1 ≤ _; omega⟩)
                     (by
                       simp only [List.pairwise_cons, List.mem_cons, List.not_mem_nil, or_false, forall_eq_or_imp, forall_eq, List.Pairwise.nil, and_true, false_implies, implies_true]
                       omega)
                   simp only [List.map_cons, List.map_nil] at this
                   rw [← HV3.out] at this
                   exact this
                 refine (owned_any _ 2 2 _ _ rfl (by omega) hown).mono ?_
                 rintro e w9 ⟨rfl, hI⟩
                 have hb79 : Below w.heap.size (w7.alloc (.cells #[.slice A3 32 c3, .slice (some ⟨w1.heap.size, 0, none⟩) len0 (len0 + 1)] 22)) w9 := hI.below_ (by
                   intro r hr g hg
                   simp only [List.mem_cons, List.not_mem_nil, or_false] at hr
                   rcases hr with rfl | rfl
                   · have := (HQ3.out.own g hg).1; omega
                   · injection hg with hg; omega)
                 have hbw9 := (hbw7.alloc hs7w (.cells #[.slice A3 32 c3, .slice (some ⟨w1.heap.size, 0, none⟩) len0 (len0 + 1)] 22)).trans hb79
                 clear hown hI hb79)
    go_ret
    exact ⟨rfl, hbw9⟩

set_option maxRecDepth 100000 in
theorem lifted (os : Os) (started : os.Started) (H : Type) (enc : TypeId × Value → H) :
    ReturnsInHanded {} Try.checked os 3 .any (Rows.shaSumsSpec.pre6 enc Try.prog Try.f3 Rows.shaSumsRow.domain false) (Rows.shaSumsSpec.post enc Try.prog Try.f3 false true false false) := by
  refine returnsInHanded_of_change_sized (C := Try.checked) own started (by kernel_rfl) Try.func3
    (ChangeSpec.witness6 (enc := enc) (C := Try.checked) false ⟨#[], #[.slice none 0 0, .slice none 0 0], []⟩ 8 (by kernel_rfl) (by kernel_rfl) (by kernel_rfl) (by kernel_rfl)) ?_
  intro W base args ds gs before hval0 hW hcnd hsz0 _
  have hval : ∀ (j : Nat) t v, Try.f3.params[j]? = some t → args[j]? = some v → Value.okWide Try.prog W .any base t v := hval0
  have hsz : (DataW.weightsEach Try.prog (Try.f3.params.toList ++ Rows.shaSumsSpec.plain.varTypes Try.prog) (ds ++ gs)).all (· ≤ reachBytes) = true := hsz0
  clear hsz0
  have hW' := hW
  obtain ⟨p, q, hA0, hV, rfl, hfz, hnd⟩ := hW
  have hA : DataW.TrodAll enc Try.prog W 0 (fun _ => true) true Try.f3.params.toList args.toList ds p := hA0
  rw [Try.params3] at hA hval hsz
  obtain ⟨v0, vs0, d0, ds0, p0, q0, hargs, rfl, rfl, h0, r0⟩ := trodAll_cons hA
  obtain ⟨v1, vs1, d1, ds1, p1, q1, rfl, rfl, rfl, h1, r1⟩ := trodAll_cons r0
  obtain ⟨rfl, rfl, rfl⟩ := trodAll_nil r1
  obtain rfl : args = #[v0, v1] := by cases args; simp_all
  obtain ⟨rfl, rfl⟩ := trodVars_none hV
  obtain ⟨a0, len0, cap0, rfl⟩ := okWide_slice Try.underlying22 (hval 0 22 v0 rfl rfl)
  have k0 := h0
  have lt0 : ∀ x ∈ p0, x.block < W.heap.size := by obtain ⟨m, hm⟩ := k0; exact DataW.trod_lt m _ _ _ hm
  obtain ⟨l0, w0⟩ := open_bytes u8 (by kernel_rfl) (by kernel_rfl) h0 hsz (j := 0) rfl rfl
  obtain ⟨a1, len1, cap1, rfl⟩ := okWide_slice Try.underlying22 (hval 1 22 v1 rfl rfl)
  have k1 := h1
  have lt1 : ∀ x ∈ p1, x.block < W.heap.size := by obtain ⟨m, hm⟩ := k1; exact DataW.trod_lt m _ _ _ hm
  obtain ⟨l1, w1⟩ := open_bytes u8 (by kernel_rfl) (by kernel_rfl) h1 hsz (j := 1) rfl rfl
  clear hsz
  clear hA0 hval0
  simp only [List.append_nil] at hW'
  refine (walk a0 len0 cap0 l0 a1 len1 cap1 l1 W w0 w1).mono fun e W' ⟨he, bel⟩ => ?_
  subst he
  exact ⟨_, rfl, _, _, _, [], _, [], hW', trodAll_mk1 (shut_bool Try.underlying4 _), (trodAll_cons_mk (Below.trod laidOut (by kernel_rfl) (of_decide_eq_true (by kernel_rfl)) k0 bel lt0) (trodAll_cons_mk (Below.trod laidOut (by kernel_rfl) (of_decide_eq_true (by kernel_rfl)) k1 bel lt1) trodAll_mk0)), rfl, bel.frame _, fun h => by cases h⟩

theorem over : Rows.shaSumsRow.holds Try.pinned (OpenSpec.ofChange Rows.shaSumsSpec) :=
  OpenClaim.holds_of_wide 3 Try.f3 rfl rfl rfl rfl rfl rfl rfl ⟨rfl, rfl, rfl, rfl, rfl⟩ rfl rfl rfl rfl rfl (by kernel_rfl) Try.func3 (by kernel_rfl)
    (of_decide_eq_true (by kernel_rfl)) (by unfold Func.isWrapper; first | (rw [if_pos (by decide +kernel)]; kernel_rfl) | (rw [if_neg (by decide +kernel)]; exact ⟨rfl, rfl⟩))
    (fun os started H enc _ => lifted os started H enc)

theorem proved : Rows.ShaSumsSaid := over
end Go.Proofs.Ytoklpohpfoacpaa.shaSums
