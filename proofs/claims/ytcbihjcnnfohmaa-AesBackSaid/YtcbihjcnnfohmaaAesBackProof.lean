/- The law 'AesBack' answers true for every input, and its arguments read afterwards as before; no condition. The frame follows the kit's skeleton; the walk is ours. -/
import Derived.Test.YtcbihjcnnfohmaaRows
import Derived.Test.YtcbihjcnnfohmaaArgs
import Derived.Test.YtcbihjcnnfohmaaAesLaw
import Derived.WalkKit
import Derived.ProofKit
import Derived.OpenShut
import Derived.ShutString
import Derived.ChangeOld
import Derived.Below
import Derived.SizedLaws
namespace Go.Proofs.Ytcbihjcnnfohmaa.aesBack
open Go.ChangeShapes Go.WideShapes Go.ChangeAt Go.RowKit
set_option linter.unusedVariables false

theorem own : ownKnob Try.prog.godebug = none := by kernel_rfl
theorem laidOut : laidOutB Try.prog = true := by kernel_rfl

open Aes
set_option linter.unusedSimpArgs false

set_option maxRecDepth 100000 in
set_option maxHeartbeats 4000000 in
theorem walk (a0 : Option Addr) (len0 cap0 : Nat) (l0 : List UInt8) (a1 : Option Addr) (len1 cap1 : Nat) (l1 : List UInt8) (a2 : Option Addr) (len2 cap2 : Nat) (l2 : List UInt8) (w : World) (w0 : ArgB w a0 len0 cap0 l0) (w1 : ArgB w a1 len1 cap1 l1) (w2 : ArgB w a2 len2 cap2 l2) :
    Calls Try.prog 4 #[.slice a0 len0 cap0, .slice a1 len1 cap1, .slice a2 len2 cap2] w fun e w' => e = .returned (.bool true) ∧ Below w.heap.size w w' := by
  obtain ⟨hl0, hf0, hm0, hr0⟩ := w0
  obtain ⟨hl1, hf1, hm1, hr1⟩ := w1
  obtain ⟨hl2, hf2, hm2, hr2⟩ := w2
  have HL0 := Lib.hid hl0
  have HL1 := Lib.hid hl1
  have HL2 := Lib.hid hl2
  have HR0 := Lib.hid hr0
  have HR1 := Lib.hid hr1
  have HR2 := Lib.hid hr2
  clear hl0 hl1 hl2 hr0 hr1 hr2
  by_cases hk : KeyOk l0
  · have HK := Lib.hid hk
    clear hk
    by_cases e1 : len1 = 16
    · subst e1
      by_cases e2 : len2 = 16
      · subst e2
        go_enter Try.func4, Try.ntmps4
        go_wp2_with fail
        refine (small_any _).mono ?_
        rintro e w1 ⟨rfl, hb1⟩
        have hz1 := hb1.size
        go_wp2_with fail
        refine (new_any a0 len0 cap0 l0 _ w.heap.size hz1 HL0.out (HR0.out.below hb1) HK.out).mono ?_
        rintro e w2 ⟨g, B2, rfl, hK2, hb2⟩
        have hbw2 := hb1.trans (hb2.mono hz1)
        have hz2 := hb2.size
        have HK2 := Lib.hid (show KeyIs w2 w1.heap.size B2 g l0 from .inl hK2)
        have HB2 := Lib.hid hbw2
        clear hK2 hb2 hbw2
        go_wp2_with fail
        refine (enc_any w1.heap.size B2 g l0 l1 a1 cap1 _ HK2.out (by omega) HL1.out hf1 (arg_off (base := 0) HR1.out HB2.out (fun k hk => by have := (HK2.out.lt k hk).1; omega))).mono ?_
        rintro e w3 ⟨v3, B3, rfl, hO3, hK3, hF3, hB3, hv3⟩
        have hel3 : (enc l0 l1).length = 16 := enc_length HK.out HL1.out
        obtain ⟨A3, c3, hve3, _, hcc3⟩ := hO3.form
        rw [hel3] at hve3 hcc3
        subst hve3
        have hbw3 := HB2.out.trans (off_below HK2.out hF3 hz1 (by omega))
        have hz3 := Nat.le_trans hz2 hF3.size
        have HK3 := Lib.hid (show KeyIs w3 w1.heap.size B3 g l0 from .inr hK3)
        have HB3 := Lib.hid hbw3
        have HOx3 := Lib.hid hO3
        have HVx3 := Lib.hid hv3
        have HEx := Lib.hid hel3
        clear hO3 hK3 hF3 hB3 hv3 hbw3 hel3
        go_wp2_with fail
        refine (enc_any w1.heap.size B3 g l0 l2 a2 cap2 _ HK3.out (by omega) HL2.out hf2 (arg_off (base := 0) HR2.out HB3.out (fun k hk => by have := (HK3.out.lt k hk).1; omega))).mono ?_
        rintro e w4 ⟨v4, B4, rfl, hO4, hK4, hF4, hB4, hv4⟩
        have hel4 : (enc l0 l2).length = 16 := enc_length HK.out HL2.out
        obtain ⟨A4, c4, hve4, _, hcc4⟩ := hO4.form
        rw [hel4] at hve4 hcc4
        subst hve4
        have hbw4 := HB3.out.trans (off_below HK3.out hF4 hz1 (by omega))
        have hz4 := Nat.le_trans hz3 hF4.size
        obtain ⟨hox4, hvx4⟩ := own_step HOx3.out HVx3.out hF4 hB4
        have HOx4 := Lib.hid hox4
        have HVx4 := Lib.hid hvx4
        clear hox4 hvx4
        have HK4 := Lib.hid (show KeyIs w4 w1.heap.size B4 g l0 from .inr hK4)
        have HB4 := Lib.hid hbw4
        have HOy4 := Lib.hid hO4
        have HVy4 := Lib.hid hv4
        have HEy := Lib.hid hel4
        clear hO4 hK4 hF4 hB4 hv4 hbw4 hel4
        go_wp2_with fail
        refine (dec_any w1.heap.size B4 g l0 (enc l0 l1) A3 c3 _ HK4.out (by omega) HEx.out (by omega) (own_rds HOx4.out (fun k hk => ⟨(HOx4.out.lt k hk).2, HVx4.out k hk⟩) rfl)).mono ?_
        rintro e w5 ⟨v5, B5, rfl, hO5, hK5, hF5, hB5, hv5⟩
        have hel5 : (dec l0 (enc l0 l1)).length = 16 := dec_length HK.out HEx.out
        obtain ⟨A5, c5, hve5, _, hcc5⟩ := hO5.form
        rw [hel5] at hve5 hcc5
        subst hve5
        have hbw5 := HB4.out.trans (off_below HK4.out hF5 hz1 (by omega))
        have hz5 := Nat.le_trans hz4 hF5.size
        obtain ⟨hox5, hvx5⟩ := own_step HOx4.out HVx4.out hF5 hB5
        have HOx5 := Lib.hid hox5
        have HVx5 := Lib.hid hvx5
        clear hox5 hvx5
        obtain ⟨hoy5, hvy5⟩ := own_step HOy4.out HVy4.out hF5 hB5
        have HOy5 := Lib.hid hoy5
        have HVy5 := Lib.hid hvy5
        clear hoy5 hvy5
        have HK5 := Lib.hid (show KeyIs w5 w1.heap.size B5 g l0 from .inr hK5)
        have HB5 := Lib.hid hbw5
        have HOp5 := Lib.hid hO5
        have HVp5 := Lib.hid hv5
        have HEp := Lib.hid hel5
        clear hO5 hK5 hF5 hB5 hv5 hbw5 hel5
        go_wp2_with fail
        refine (dec_any w1.heap.size B5 g l0 l1 a1 cap1 _ HK5.out (by omega) HL1.out hf1 (arg_off (base := 0) HR1.out HB5.out (fun k hk => by have := (HK5.out.lt k hk).1; omega))).mono ?_
        rintro e w6 ⟨v6, B6, rfl, hO6, hK6, hF6, hB6, hv6⟩
        have hel6 : (dec l0 l1).length = 16 := dec_length HK.out HL1.out
        obtain ⟨A6, c6, hve6, _, hcc6⟩ := hO6.form
        rw [hel6] at hve6 hcc6
        subst hve6
        have hbw6 := HB5.out.trans (off_below HK5.out hF6 hz1 (by omega))
        have hz6 := Nat.le_trans hz5 hF6.size
        obtain ⟨hox6, hvx6⟩ := own_step HOx5.out HVx5.out hF6 hB6
        have HOx6 := Lib.hid hox6
        have HVx6 := Lib.hid hvx6
        clear hox6 hvx6
        obtain ⟨hoy6, hvy6⟩ := own_step HOy5.out HVy5.out hF6 hB6
        have HOy6 := Lib.hid hoy6
        have HVy6 := Lib.hid hvy6
        clear hoy6 hvy6
        obtain ⟨hop6, hvp6⟩ := own_step HOp5.out HVp5.out hF6 hB6
        have HOp6 := Lib.hid hop6
        have HVp6 := Lib.hid hvp6
        clear hop6 hvp6
        have HK6 := Lib.hid (show KeyIs w6 w1.heap.size B6 g l0 from .inr hK6)
        have HB6 := Lib.hid hbw6
        have HOd6 := Lib.hid hO6
        have HVd6 := Lib.hid hv6
        have HEd := Lib.hid hel6
        clear hO6 hK6 hF6 hB6 hv6 hbw6 hel6
        go_wp2_with fail
        refine (enc_any w1.heap.size B6 g l0 (dec l0 l1) A6 c6 _ HK6.out (by omega) HEd.out (by omega) (own_rds HOd6.out (fun k hk => ⟨(HOd6.out.lt k hk).2, HVd6.out k hk⟩) rfl)).mono ?_
        rintro e w7 ⟨v7, B7, rfl, hO7, hK7, hF7, hB7, hv7⟩
        have hel7 : (enc l0 (dec l0 l1)).length = 16 := enc_length HK.out HEd.out
        obtain ⟨A7, c7, hve7, _, hcc7⟩ := hO7.form
        rw [hel7] at hve7 hcc7
        subst hve7
        have hbw7 := HB6.out.trans (off_below HK6.out hF7 hz1 (by omega))
        have hz7 := Nat.le_trans hz6 hF7.size
        obtain ⟨hox7, hvx7⟩ := own_step HOx6.out HVx6.out hF7 hB7
        have HOx7 := Lib.hid hox7
        have HVx7 := Lib.hid hvx7
        clear hox7 hvx7
        obtain ⟨hoy7, hvy7⟩ := own_step HOy6.out HVy6.out hF7 hB7
        have HOy7 := Lib.hid hoy7
        have HVy7 := Lib.hid hvy7
        clear hoy7 hvy7
        obtain ⟨hop7, hvp7⟩ := own_step HOp6.out HVp6.out hF7 hB7
        have HOp7 := Lib.hid hop7
        have HVp7 := Lib.hid hvp7
        clear hop7 hvp7
        obtain ⟨hod7, hvd7⟩ := own_step HOd6.out HVd6.out hF7 hB7
        have HOd7 := Lib.hid hod7
        have HVd7 := Lib.hid hvd7
        clear hod7 hvd7
        have HK7 := Lib.hid (show KeyIs w7 w1.heap.size B7 g l0 from .inr hK7)
        have HB7 := Lib.hid hbw7
        have HOc7 := Lib.hid hO7
        have HVc7 := Lib.hid hv7
        have HEc := Lib.hid hel7
        clear hO7 hK7 hF7 hB7 hv7 hbw7 hel7
        have sp := own_str HOp7.out
        have sx := own_str HOx7.out
        have sy := own_str HOy7.out
        have sc := own_str HOc7.out
        have sa := arg_str (c := cap1) HL1.out HR1.out HB7.out
        have sbb := arg_str (c := cap2) HL2.out HR2.out HB7.out
        rw [dec_of_enc HK.out HL1.out] at sp
        rw [enc_of_dec HK.out HL1.out] at sc
        have hij := enc_inj HK.out HL1.out HL2.out
        by_cases hab : l1 = l2
        · subst hab
          clear hij
          generalize str (enc l0 l1) = tx at *
          generalize str l1 = ta at *
          go_wp2_with fail
          go_ret
          exact ⟨rfl, HB7.out⟩
        · have hxy : enc l0 l1 ≠ enc l0 l2 := fun e => hab (hij.1 e)
          have b1 := str_ne hxy
          have b2 := str_ne hab
          clear hij hab hxy
          generalize str (enc l0 l1) = tx at *
          generalize str (enc l0 l2) = ty at *
          generalize str l1 = ta at *
          generalize str l2 = tb at *
          go_wp2_with fail
          go_ret
          exact ⟨rfl, HB7.out⟩
      · have n2 : ((len2 : Int) == 16) = false := beq_eq_false_iff_ne.2 (by omega)
        go_enter Try.func4, Try.ntmps4
        go_wp2_with fail
        refine (small_any _).mono ?_
        rintro e w1 ⟨rfl, hb1⟩
        have hz1 := hb1.size
        go_wp2_with fail
        refine (new_any a0 len0 cap0 l0 _ w.heap.size hz1 HL0.out (HR0.out.below hb1) HK.out).mono ?_
        rintro e w2 ⟨g, B2, rfl, hK2, hb2⟩
        have hbw2 := hb1.trans (hb2.mono hz1)
        have hz2 := hb2.size
        have HK2 := Lib.hid (show KeyIs w2 w1.heap.size B2 g l0 from .inl hK2)
        have HB2 := Lib.hid hbw2
        clear hK2 hb2 hbw2
        go_wp2_with fail
        refine (enc_any w1.heap.size B2 g l0 l1 a1 cap1 _ HK2.out (by omega) HL1.out hf1 (arg_off (base := 0) HR1.out HB2.out (fun k hk => by have := (HK2.out.lt k hk).1; omega))).mono ?_
        rintro e w3 ⟨v3, B3, rfl, hO3, hK3, hF3, hB3, hv3⟩
        have hel3 : (enc l0 l1).length = 16 := enc_length HK.out HL1.out
        obtain ⟨A3, c3, hve3, _, hcc3⟩ := hO3.form
        rw [hel3] at hve3 hcc3
        subst hve3
        have hbw3 := HB2.out.trans (off_below HK2.out hF3 hz1 (by omega))
        have hz3 := Nat.le_trans hz2 hF3.size
        have HK3 := Lib.hid (show KeyIs w3 w1.heap.size B3 g l0 from .inr hK3)
        have HB3 := Lib.hid hbw3
        have HOx3 := Lib.hid hO3
        have HVx3 := Lib.hid hv3
        have HEx := Lib.hid hel3
        clear hO3 hK3 hF3 hB3 hv3 hbw3 hel3
        go_wp2_with fail
        refine (enc_no g a2 _ cap2 _ (by omega)).mono ?_
        rintro e w4 ⟨rfl, rfl⟩
        go_wp2_with fail
        go_ret
        exact ⟨rfl, HB3.out⟩
    · have n1 : ((len1 : Int) == 16) = false := beq_eq_false_iff_ne.2 (by omega)
      by_cases e2 : len2 = 16
      · subst e2
        go_enter Try.func4, Try.ntmps4
        go_wp2_with fail
        refine (small_any _).mono ?_
        rintro e w1 ⟨rfl, hb1⟩
        have hz1 := hb1.size
        go_wp2_with fail
        refine (new_any a0 len0 cap0 l0 _ w.heap.size hz1 HL0.out (HR0.out.below hb1) HK.out).mono ?_
        rintro e w2 ⟨g, B2, rfl, hK2, hb2⟩
        have hbw2 := hb1.trans (hb2.mono hz1)
        have hz2 := hb2.size
        have HK2 := Lib.hid (show KeyIs w2 w1.heap.size B2 g l0 from .inl hK2)
        have HB2 := Lib.hid hbw2
        clear hK2 hb2 hbw2
        go_wp2_with fail
        refine (enc_no g a1 _ cap1 _ (by omega)).mono ?_
        rintro e w3 ⟨rfl, rfl⟩
        go_wp2_with fail
        refine (enc_any w1.heap.size B2 g l0 l2 a2 cap2 _ HK2.out (by omega) HL2.out hf2 (arg_off (base := 0) HR2.out HB2.out (fun k hk => by have := (HK2.out.lt k hk).1; omega))).mono ?_
        rintro e w3 ⟨v3, B3, rfl, hO3, hK3, hF3, hB3, hv3⟩
        have hel3 : (enc l0 l2).length = 16 := enc_length HK.out HL2.out
        obtain ⟨A3, c3, hve3, _, hcc3⟩ := hO3.form
        rw [hel3] at hve3 hcc3
        subst hve3
        have hbw3 := HB2.out.trans (off_below HK2.out hF3 hz1 (by omega))
        have hz3 := Nat.le_trans hz2 hF3.size
        have HK3 := Lib.hid (show KeyIs w3 w1.heap.size B3 g l0 from .inr hK3)
        have HB3 := Lib.hid hbw3
        have HOy3 := Lib.hid hO3
        have HVy3 := Lib.hid hv3
        have HEy := Lib.hid hel3
        clear hO3 hK3 hF3 hB3 hv3 hbw3 hel3
        go_wp2_with fail
        go_ret
        exact ⟨rfl, HB3.out⟩
      · have n2 : ((len2 : Int) == 16) = false := beq_eq_false_iff_ne.2 (by omega)
        go_enter Try.func4, Try.ntmps4
        go_wp2_with fail
        refine (small_any _).mono ?_
        rintro e w1 ⟨rfl, hb1⟩
        have hz1 := hb1.size
        go_wp2_with fail
        refine (new_any a0 len0 cap0 l0 _ w.heap.size hz1 HL0.out (HR0.out.below hb1) HK.out).mono ?_
        rintro e w2 ⟨g, B2, rfl, hK2, hb2⟩
        have hbw2 := hb1.trans (hb2.mono hz1)
        have hz2 := hb2.size
        have HK2 := Lib.hid (show KeyIs w2 w1.heap.size B2 g l0 from .inl hK2)
        have HB2 := Lib.hid hbw2
        clear hK2 hb2 hbw2
        go_wp2_with fail
        refine (enc_no g a1 _ cap1 _ (by omega)).mono ?_
        rintro e w3 ⟨rfl, rfl⟩
        go_wp2_with fail
        refine (enc_no g a2 _ cap2 _ (by omega)).mono ?_
        rintro e w3 ⟨rfl, rfl⟩
        go_wp2_with fail
        go_ret
        exact ⟨rfl, HB2.out⟩
  · have HK := Lib.hid hk
    have n16 : ((len0 : Int) != 16) = true := by rw [bne_iff_ne]; intro e; exact hk (.inl (by rw [HL0.out]; omega))
    have n32 : ((len0 : Int) != 32) = true := by rw [bne_iff_ne]; intro e; exact hk (.inr (by rw [HL0.out]; omega))
    clear hk
    go_enter Try.func4, Try.ntmps4
    go_wp2_with fail
    refine (small_any _).mono ?_
    rintro e w1 ⟨rfl, hb1⟩
    have hz1 := hb1.size
    go_wp2_with fail
    refine (new_no a0 len0 cap0 l0 _ HL0.out HK.out).mono ?_
    rintro e w2 ⟨rfl, rfl⟩
    go_wp2_with fail
    go_ret
    exact ⟨rfl, hb1⟩

set_option maxRecDepth 100000 in
theorem lifted (os : Os) (started : os.Started) (H : Type) (enc : TypeId × Value → H) :
    ReturnsInHanded {} Try.checked os 4 .any (Rows.aesBackSpec.pre6 enc Try.prog Try.f4 Rows.aesBackRow.domain false) (Rows.aesBackSpec.post enc Try.prog Try.f4 false true false false) := by
  refine returnsInHanded_of_change_sized (C := Try.checked) own started (by kernel_rfl) Try.func4
    (ChangeSpec.witness6 (enc := enc) (C := Try.checked) false ⟨#[], #[.slice none 0 0, .slice none 0 0, .slice none 0 0], []⟩ 8 (by kernel_rfl) (by kernel_rfl) (by kernel_rfl) (by kernel_rfl)) ?_
  intro W base args ds gs before hval0 hW hcnd hsz0 _
  have hval : ∀ (j : Nat) t v, Try.f4.params[j]? = some t → args[j]? = some v → Value.okWide Try.prog W .any base t v := hval0
  have hsz : (DataW.weightsEach Try.prog (Try.f4.params.toList ++ Rows.aesBackSpec.plain.varTypes Try.prog) (ds ++ gs)).all (· ≤ reachBytes) = true := hsz0
  clear hsz0
  have hW' := hW
  obtain ⟨p, q, hA0, hV, rfl, hfz, hnd⟩ := hW
  have hA : DataW.TrodAll enc Try.prog W 0 (fun _ => true) true Try.f4.params.toList args.toList ds p := hA0
  rw [Try.params4] at hA hval hsz
  obtain ⟨v0, vs0, d0, ds0, p0, q0, hargs, rfl, rfl, h0, r0⟩ := trodAll_cons hA
  obtain ⟨v1, vs1, d1, ds1, p1, q1, rfl, rfl, rfl, h1, r1⟩ := trodAll_cons r0
  obtain ⟨v2, vs2, d2, ds2, p2, q2, rfl, rfl, rfl, h2, r2⟩ := trodAll_cons r1
  obtain ⟨rfl, rfl, rfl⟩ := trodAll_nil r2
  obtain rfl : args = #[v0, v1, v2] := by cases args; simp_all
  obtain ⟨rfl, rfl⟩ := trodVars_none hV
  obtain ⟨a0, len0, cap0, rfl⟩ := okWide_slice Try.underlying22 (hval 0 22 v0 rfl rfl)
  have k0 := h0
  have lt0 : ∀ x ∈ p0, x.block < W.heap.size := by obtain ⟨m, hm⟩ := k0; exact DataW.trod_lt m _ _ _ hm
  obtain ⟨l0, w0⟩ := open_bytes u8 (by kernel_rfl) (by kernel_rfl) h0 hsz (j := 0) rfl rfl
  obtain ⟨a1, len1, cap1, rfl⟩ := okWide_slice Try.underlying22 (hval 1 22 v1 rfl rfl)
  have k1 := h1
  have lt1 : ∀ x ∈ p1, x.block < W.heap.size := by obtain ⟨m, hm⟩ := k1; exact DataW.trod_lt m _ _ _ hm
  obtain ⟨l1, w1⟩ := open_bytes u8 (by kernel_rfl) (by kernel_rfl) h1 hsz (j := 1) rfl rfl
  obtain ⟨a2, len2, cap2, rfl⟩ := okWide_slice Try.underlying22 (hval 2 22 v2 rfl rfl)
  have k2 := h2
  have lt2 : ∀ x ∈ p2, x.block < W.heap.size := by obtain ⟨m, hm⟩ := k2; exact DataW.trod_lt m _ _ _ hm
  obtain ⟨l2, w2⟩ := open_bytes u8 (by kernel_rfl) (by kernel_rfl) h2 hsz (j := 2) rfl rfl
  clear hsz
  clear hA0 hval0
  simp only [List.append_nil] at hW'
  refine (walk a0 len0 cap0 l0 a1 len1 cap1 l1 a2 len2 cap2 l2 W w0 w1 w2).mono fun e W' ⟨he, bel⟩ => ?_
  subst he
  exact ⟨_, rfl, _, _, _, [], _, [], hW', trodAll_mk1 (shut_bool Try.underlying4 _), (trodAll_cons_mk (Below.trod laidOut (by kernel_rfl) (of_decide_eq_true (by kernel_rfl)) k0 bel lt0) (trodAll_cons_mk (Below.trod laidOut (by kernel_rfl) (of_decide_eq_true (by kernel_rfl)) k1 bel lt1) (trodAll_cons_mk (Below.trod laidOut (by kernel_rfl) (of_decide_eq_true (by kernel_rfl)) k2 bel lt2) trodAll_mk0))), rfl, bel.frame _, fun h => by cases h⟩

theorem over : Rows.aesBackRow.holds Try.pinned (OpenSpec.ofChange Rows.aesBackSpec) :=
  OpenClaim.holds_of_wide 4 Try.f4 rfl rfl rfl rfl rfl rfl rfl ⟨rfl, rfl, rfl, rfl, rfl⟩ rfl rfl rfl rfl rfl (by kernel_rfl) Try.func4 (by kernel_rfl)
    (of_decide_eq_true (by kernel_rfl)) (by unfold Func.isWrapper; first | (rw [if_pos (by decide +kernel)]; kernel_rfl) | (rw [if_neg (by decide +kernel)]; exact ⟨rfl, rfl⟩))
    (fun os started H enc _ => lifted os started H enc)

theorem proved : Rows.AesBackSaid := over
end Go.Proofs.Ytcbihjcnnfohmaa.aesBack
