/- The law 'AesAgain' answers true for every input, and its arguments read afterwards as before; no condition. The frame follows the kit's skeleton; the walk is ours. -/
import Derived.Test.YtcbihjcnnfohmaaRows
import Derived.Test.YtcbihjcnnfohmaaArgs
import Derived.Test.YtcbihjcnnfohmaaArgR
import Derived.Test.YtcbihjcnnfohmaaAesLaw
import Derived.WalkKit
import Derived.ProofKit
import Derived.OpenShut
import Derived.ShutString
import Derived.ChangeOld
import Derived.Below
import Derived.SizedLaws
namespace Go.Proofs.Ytcbihjcnnfohmaa.aesAgain
open Go.ChangeShapes Go.WideShapes Go.ChangeAt Go.RowKit
set_option linter.unusedVariables false

theorem own : ownKnob Try.prog.godebug = none := by kernel_rfl
theorem laidOut : laidOutB Try.prog = true := by kernel_rfl

open Aes
set_option linter.unusedSimpArgs false
theorem key_step {w w' : World} {base h : Nat} {B B' BL : Nat → Prop} {key : Blk} (hL : KeyIs w base BL h key) (hd : ∀ k, BL k → ¬ B k) (hF : Frame (Off w B) w w') (hB : ∀ k, B' k → B k ∨ w.heap.size ≤ k) : KeyIs w' base BL h key ∧ ∀ k, BL k → ¬ B' k :=
  ⟨hL.frame hF (fun k hk => ⟨(hL.lt k hk).2, hd k hk⟩), fun k hk hb => by
    rcases hB k hb with h1 | h1
    · exact hd k hk h1
    · have := (hL.lt k hk).2; omega⟩
theorem nil_str (w : World) : (convert 22 9 (.slice none 0 0)).run Try.prog w = .ok (.string (str [])) w := (Rd.nil w 0 none).str u8 9 Try.underlying9 0

set_option maxRecDepth 100000 in
set_option maxHeartbeats 4000000 in
theorem walk (a0 : Option Addr) (len0 cap0 : Nat) (l0 : List UInt8) (a1 : Option Addr) (len1 cap1 : Nat) (ps1 : List Part) (a2 : Option Addr) (len2 cap2 : Nat) (l2 : List UInt8) (w : World) (w0 : ArgB w a0 len0 cap0 l0) (w1 : ArgR w a1 len1 cap1 ps1) (w2 : ArgB w a2 len2 cap2 l2) :
    Calls Try.prog 7 #[.slice a0 len0 cap0, .slice a1 len1 cap1, .slice a2 len2 cap2] w fun e w' => e = .returned (.bool true) ∧ Below w.heap.size w w' := by
  obtain ⟨hl0, hf0, hm0, hr0⟩ := w0
  obtain ⟨hl1, hf1, hm1, hr1⟩ := w1
  obtain ⟨hl2, hf2, hm2, hr2⟩ := w2
  have HL0 := Lib.hid hl0
  have HL1 := Lib.hid hl1
  have HL2 := Lib.hid hl2
  have HR0 := Lib.hid hr0
  have HR1 := Lib.hid hr1
  have HR2 := Lib.hid hr2
  clear hl0 hl1 hl2 hr0 hr1 hr2
  by_cases hk : KeyOk l0
  · have HK := Lib.hid hk
    clear hk
    by_cases e2 : len2 = 16
    · subst e2
      go_enter Try.func7, Try.ntmps7
      go_wp2_with fail
      refine (small_any _).mono ?_
      rintro e w1 ⟨rfl, hb1⟩
      have hz1 := hb1.size
      go_wp2_with fail
      refine (new_any a0 len0 cap0 l0 _ w.heap.size hz1 HL0.out (HR0.out.below hb1) HK.out).mono ?_
      rintro e w2 ⟨g, B2, rfl, hK2, hb2⟩
      have hbw2 := hb1.trans (hb2.mono hz1)
      have hz2 := hb2.size
      have HK2 := Lib.hid (show KeyIs w2 w1.heap.size B2 g l0 from .inl hK2)
      have HB2 := Lib.hid hbw2
      clear hK2 hb2 hbw2
      go_wp2_with fail
      refine (new_any a0 len0 cap0 l0 _ w.heap.size HB2.out.size HL0.out (HR0.out.below HB2.out) HK.out).mono ?_
      rintro e w3 ⟨h, BL, rfl, hL3, hb3⟩
      have hK3 : KeyIs w3 w1.heap.size B2 g l0 := HK2.out.below_ hb3
      have hlt3 := KeyIs.lt (.inl hL3)
      have hdj : ∀ k, BL k → ¬ B2 k := fun k hk hb => by have h1 := (hlt3 k hk).1; have h2 := (HK2.out.lt k hb).2; omega
      have hL3' : KeyIs w3 w1.heap.size BL h l0 := by
        obtain ⟨raw, hx⟩ := hL3
        exact .inl ⟨raw, hx.obj, hx.ok, hx.own.mono hz2, hx.bg, hx.braw, hx.brv, fun k hk => ⟨Nat.le_trans hz2 (hx.lt k hk).1, (hx.lt k hk).2⟩⟩
      have hz3 := Nat.le_trans hz2 hb3.size
      have HB3 := Lib.hid (HB2.out.trans (hb3.mono (Nat.le_trans hz1 hz2)))
      have HK3 := Lib.hid hK3
      have HQ3 := Lib.hid hL3'
      have HD3 := Lib.hid hdj
      have HBL3 := Lib.hid (fun k hk => (hlt3 k hk).2)
      clear hb3 hK3 hlt3 hdj hL3 hL3'
      go_wp2_with fail
      refine (enc_any w1.heap.size B2 g l0 l2 a2 cap2 _ HK3.out (by omega) HL2.out hf2 (arg_off (base := 0) HR2.out HB3.out (fun k hk => by have := (HK3.out.lt k hk).1; omega))).mono ?_
      rintro e w4 ⟨v4, B4, rfl, hO4, hK4, hF4, hB4, hv4⟩
      have hel4 : (enc l0 l2).length = 16 := enc_length HK.out HL2.out
      obtain ⟨A4, c4, hve4, _, hcc4⟩ := hO4.form
      rw [hel4] at hve4 hcc4
      subst hve4
      obtain ⟨hL4, hD4⟩ := key_step HQ3.out HD3.out hF4 hB4
      have hz4 := Nat.le_trans hz3 hF4.size
      have HB4 := Lib.hid (HB3.out.trans (off_below HK3.out hF4 hz1 (by omega)))
      have HK4 := Lib.hid (show KeyIs w4 w1.heap.size B4 g l0 from .inr hK4)
      have HQ4 := Lib.hid hL4
      have HD4 := Lib.hid hD4
      have HO4 := Lib.hid hO4
      have HV4 := Lib.hid hv4
      have HEX := Lib.hid hel4
      clear hO4 hK4 hF4 hB4 hv4 hel4 hL4 hD4
      go_wp2_with fail
      go_loopw [14] (fun i wr => ∃ (t : Nat) (B : Nat → Prop), t ≤ len1 ∧ t ≤ 8 ∧ i = .int .i64 (t : Int) ∧ KeyIs wr w1.heap.size B g l0 ∧ KeyIs wr w1.heap.size BL h l0 ∧ (∀ k, BL k → ¬ B k) ∧ w1.heap.size ≤ wr.heap.size ∧ Below w.heap.size w wr ∧ Own wr 5 w3.heap.size (.slice A4 16 c4) (enc l0 l2) ∧ (∀ k, Value.ownBlock (.slice A4 16 c4) = some k → ¬ B k)) (fun i _ => 8 - (intOf i).toNat)
      case atStart => exact ⟨0, B4, by omega, by omega, rfl, HK4.out, HQ4.out, HD4.out, hz4, HB4.out, HO4.out, HV4.out⟩
      case round =>
        obtain ⟨t, B, ht, ht8, rfl, hKr, hLr, hDr, hzr, hbr, hOr, hVr⟩ := hrel
        clear HK4 HQ4 HD4 HB4 hz4 HO4 HV4
        have HK5 := Lib.hid hKr
        have HQ5 := Lib.hid hLr
        have HD5 := Lib.hid hDr
        have HB5 := Lib.hid hbr
        have HO5 := Lib.hid hOr
        have HV5 := Lib.hid hVr
        clear hKr hLr hDr hbr hOr hVr
        by_cases hgo : t < len1 ∧ t < 8
        · obtain ⟨hlt, hlt8⟩ := hgo
          have hlti : (t : Int) < (len1 : Int) := by omega
          have htl : t < ps1.length := by rw [HL1.out]; exact hlt
          obtain ⟨ad, hA, hSb, hc⟩ := HR1.out.at_ (by omega)
          subst hA
          have x0 := hc t htl
          obtain ⟨p1, p2, p3, p4⟩ := HR1.out.part ps1[t] (List.getElem_mem htl)
          generalize ps1[t] = pp at *
          obtain ⟨pA, pn, pc, pl⟩ := pp
          simp only [Part.val] at x0 p1 p2 p3 p4
          have y0 := (HB5.out.cell (p := ad.add t) (by rw [add_block]; exact hSb)).trans x0
          have HP4 := Lib.hid (p4.rd (fun k hk => hk) : Rd w w.heap.size pA pl)
          have HP1 := Lib.hid p1
          have HX0 := Lib.hid x0
          clear x0 p1 p4 hc
          by_cases hp16 : pn = 16
          · subst hp16
            go_wp2_with fail
            refine (enc_any w1.heap.size B g l0 pl pA pc _ HK5.out hzr HP1.out p2 (arg_off (base := 0) HP4.out HB5.out (fun k hk => by have := (HK5.out.lt k hk).1; omega))).mono ?_
            rintro e w6 ⟨v6, B6, rfl, hO6, hK6, hF6, hB6, hv6⟩
            clear hO6 hv6
            obtain ⟨hL6, hD6⟩ := key_step HQ5.out HD5.out hF6 hB6
            have hz6 := Nat.le_trans hzr hF6.size
            have HB6 := Lib.hid (HB5.out.trans (off_below HK5.out hF6 hz1 hzr))
            have HK6 := Lib.hid (show KeyIs w6 w1.heap.size B6 g l0 from .inr hK6)
            have HQ6 := Lib.hid hL6
            have HD6 := Lib.hid hD6
            obtain ⟨ho6, hv6⟩ := own_step HO5.out HV5.out hF6 hB6
            have HO6 := Lib.hid ho6
            have HV6 := Lib.hid hv6
            clear ho6 hv6
            clear hK6 hF6 hB6 hL6 hD6
            have y6 := (HB6.out.cell (p := ad.add t) (by rw [add_block]; exact hSb)).trans HX0.out
            go_wp2_with fail
            refine (dec_any w1.heap.size B6 g l0 pl pA pc _ HK6.out hz6 HP1.out p2 (arg_off (base := 0) HP4.out HB6.out (fun k hk => by have := (HK6.out.lt k hk).1; omega))).mono ?_
            rintro e w7 ⟨v7, B7, rfl, hO7, hK7, hF7, hB7, hv7⟩
            clear hO7 hv7
            obtain ⟨hL7, hD7⟩ := key_step HQ6.out HD6.out hF7 hB7
            have hz7 := Nat.le_trans hz6 hF7.size
            have HB7 := Lib.hid (HB6.out.trans (off_below HK6.out hF7 hz1 hz6))
            have HK7 := Lib.hid (show KeyIs w7 w1.heap.size B7 g l0 from .inr hK7)
            have HQ7 := Lib.hid hL7
            have HD7 := Lib.hid hD7
            obtain ⟨ho7, hv7⟩ := own_step HO6.out HV6.out hF7 hB7
            have HO7 := Lib.hid ho7
            have HV7 := Lib.hid hv7
            clear ho7 hv7
            clear hK7 hF7 hB7 hL7 hD7
            go_wp2_with fail
            refine (rounds_any w1.heap.size B7 g l0 _ HK7.out hz7).mono ?_
            rintro e w8 ⟨v8, vs8, B8, rfl, hO8, hK8, hF8, hB8, hv8⟩
            clear hO8 hv8
            obtain ⟨hL8, hD8⟩ := key_step HQ7.out HD7.out hF8 hB8
            have hz8 := Nat.le_trans hz7 hF8.size
            have HB8 := Lib.hid (HB7.out.trans (off_below HK7.out hF8 hz1 hz7))
            have HK8 := Lib.hid (show KeyIs w8 w1.heap.size B8 g l0 from .inr hK8)
            have HQ8 := Lib.hid hL8
            have HD8 := Lib.hid hD8
            obtain ⟨ho8, hv8⟩ := own_step HO7.out HV7.out hF8 hB8
            have HO8 := Lib.hid ho8
            have HV8 := Lib.hid hv8
            clear ho8 hv8
            clear hK8 hF8 hB8 hL8 hD8
            go_wp2_with fail
            go_roundw
            case rel => exact ⟨t + 1, B8, by omega, by omega, by go_num, HK8.out, HQ8.out, HD8.out, hz8, HB8.out, HO8.out, HV8.out⟩
            case measure => simp [intOf] <;> omega
          · go_wp2_with fail
            refine (enc_no g pA pn pc _ hp16).mono ?_
            rintro e w6 ⟨rfl, rfl⟩
            go_wp2_with fail
            refine (dec_no g pA pn pc _ hp16).mono ?_
            rintro e w6 ⟨rfl, rfl⟩
            go_wp2_with fail
            refine (rounds_any w1.heap.size B g l0 _ HK5.out hzr).mono ?_
            rintro e w6 ⟨v6, vs6, B6, rfl, hO6, hK6, hF6, hB6, hv6⟩
            clear hO6 hv6
            obtain ⟨hL6, hD6⟩ := key_step HQ5.out HD5.out hF6 hB6
            have hz6 := Nat.le_trans hzr hF6.size
            have HB6 := Lib.hid (HB5.out.trans (off_below HK5.out hF6 hz1 hzr))
            have HK6 := Lib.hid (show KeyIs w6 w1.heap.size B6 g l0 from .inr hK6)
            have HQ6 := Lib.hid hL6
            have HD6 := Lib.hid hD6
            obtain ⟨ho6, hv6⟩ := own_step HO5.out HV5.out hF6 hB6
            have HO6 := Lib.hid ho6
            have HV6 := Lib.hid hv6
            clear ho6 hv6
            clear hK6 hF6 hB6 hL6 hD6
            go_wp2_with fail
            go_roundw
            case rel => exact ⟨t + 1, B6, by omega, by omega, by go_num, HK6.out, HQ6.out, HD6.out, hz6, HB6.out, HO6.out, HV6.out⟩
            case measure => simp [intOf] <;> omega
        · have hexit : ¬ t < len1 ∨ (t < len1 ∧ t = 8) := by omega
          rcases hexit with hx | ⟨hx, hx8⟩
          all_goals
            go_wp2_with fail
            refine (enc_any w1.heap.size B g l0 l2 a2 cap2 _ HK5.out hzr HL2.out hf2 (arg_off (base := 0) HR2.out HB5.out (fun k hk => by have := (HK5.out.lt k hk).1; omega))).mono ?_
            rintro e w6 ⟨v6, B6, rfl, hO6, hK6, hF6, hB6, hv6⟩
            obtain ⟨A6, c6, hve6, _, _⟩ := hO6.form
            rw [HEX.out] at hve6
            subst hve6
            obtain ⟨hL6, hD6⟩ := key_step HQ5.out HD5.out hF6 hB6
            have hz6 := Nat.le_trans hzr hF6.size
            have HB6 := Lib.hid (HB5.out.trans (off_below HK5.out hF6 hz1 hzr))
            have HK6 := Lib.hid (show KeyIs w6 w1.heap.size B6 g l0 from .inr hK6)
            have HQ6 := Lib.hid hL6
            have HD6 := Lib.hid hD6
            obtain ⟨ho6, hv6⟩ := own_step HO5.out HV5.out hF6 hB6
            have HO6 := Lib.hid ho6
            have HV6 := Lib.hid hv6
            clear ho6 hv6
            clear hK6 hF6 hB6 hL6 hD6
            have HP6 := Lib.hid hO6
            clear hO6 hv6
            go_wp2_with fail
            refine (enc_any w1.heap.size BL h l0 l2 a2 cap2 _ HQ6.out hz6 HL2.out hf2 (arg_off (base := 0) HR2.out HB6.out (fun k hk => by have := (HQ6.out.lt k hk).1; omega))).mono ?_
            rintro e w7 ⟨v7, B7, rfl, hO7, hK7, hF7, hB7, hv7⟩
            obtain ⟨A7, c7, hve7, _, _⟩ := hO7.form
            rw [HEX.out] at hve7
            subst hve7
            have hb7 := HB6.out.trans (off_below HQ6.out hF7 hz1 hz6)
            have ho4 := (own_step HO6.out (fun k hk hb => by have h1 := (HO6.out.lt k hk).1; have h2 := HBL3.out k hb; omega) hF7 hB7).1
            have ho6 := (own_step HP6.out (fun k hk hb => by have h1 := (HP6.out.lt k hk).1; have h2 := (HQ5.out.lt k hb).2; omega) hF7 hB7).1
            have s4 := own_str ho4
            have s6 := own_str ho6
            have s7 := own_str hO7
            have HB7 := Lib.hid hb7
            clear hb7 ho4 ho6 hO7 hK7 hF7 hB7 hv7
            generalize str (enc l0 l2) = tx at *
            go_wp2_with fail
            go_ret
            exact ⟨rfl, HB7.out⟩
    · have n2 : len2 ≠ 16 := e2
      clear e2
      go_enter Try.func7, Try.ntmps7
      go_wp2_with fail
      refine (small_any _).mono ?_
      rintro e w1 ⟨rfl, hb1⟩
      have hz1 := hb1.size
      go_wp2_with fail
      refine (new_any a0 len0 cap0 l0 _ w.heap.size hz1 HL0.out (HR0.out.below hb1) HK.out).mono ?_
      rintro e w2 ⟨g, B2, rfl, hK2, hb2⟩
      have hbw2 := hb1.trans (hb2.mono hz1)
      have hz2 := hb2.size
      have HK2 := Lib.hid (show KeyIs w2 w1.heap.size B2 g l0 from .inl hK2)
      have HB2 := Lib.hid hbw2
      clear hK2 hb2 hbw2
      go_wp2_with fail
      refine (new_any a0 len0 cap0 l0 _ w.heap.size HB2.out.size HL0.out (HR0.out.below HB2.out) HK.out).mono ?_
      rintro e w3 ⟨h, BL, rfl, hL3, hb3⟩
      have hK3 : KeyIs w3 w1.heap.size B2 g l0 := HK2.out.below_ hb3
      have hlt3 := KeyIs.lt (.inl hL3)
      have hdj : ∀ k, BL k → ¬ B2 k := fun k hk hb => by have h1 := (hlt3 k hk).1; have h2 := (HK2.out.lt k hb).2; omega
      have hL3' : KeyIs w3 w1.heap.size BL h l0 := by
        obtain ⟨raw, hx⟩ := hL3
        exact .inl ⟨raw, hx.obj, hx.ok, hx.own.mono hz2, hx.bg, hx.braw, hx.brv, fun k hk => ⟨Nat.le_trans hz2 (hx.lt k hk).1, (hx.lt k hk).2⟩⟩
      have hz3 := Nat.le_trans hz2 hb3.size
      have HB3 := Lib.hid (HB2.out.trans (hb3.mono (Nat.le_trans hz1 hz2)))
      have HK3 := Lib.hid hK3
      have HQ3 := Lib.hid hL3'
      have HD3 := Lib.hid hdj
      have HBL3 := Lib.hid (fun k hk => (hlt3 k hk).2)
      clear hb3 hK3 hlt3 hdj hL3 hL3'
      go_wp2_with fail
      refine (enc_no g a2 len2 cap2 _ n2).mono ?_
      rintro e w4 ⟨rfl, rfl⟩
      go_wp2_with fail
      go_loopw [14] (fun i wr => ∃ (t : Nat) (B : Nat → Prop), t ≤ len1 ∧ t ≤ 8 ∧ i = .int .i64 (t : Int) ∧ KeyIs wr w1.heap.size B g l0 ∧ KeyIs wr w1.heap.size BL h l0 ∧ (∀ k, BL k → ¬ B k) ∧ w1.heap.size ≤ wr.heap.size ∧ Below w.heap.size w wr) (fun i _ => 8 - (intOf i).toNat)
      case atStart => exact ⟨0, B2, by omega, by omega, rfl, HK3.out, HQ3.out, HD3.out, hz3, HB3.out⟩
      case round =>
        obtain ⟨t, B, ht, ht8, rfl, hKr, hLr, hDr, hzr, hbr⟩ := hrel
        clear HK3 HQ3 HD3 HB3 hz3
        have HK5 := Lib.hid hKr
        have HQ5 := Lib.hid hLr
        have HD5 := Lib.hid hDr
        have HB5 := Lib.hid hbr
        clear hKr hLr hDr hbr
        by_cases hgo : t < len1 ∧ t < 8
        · obtain ⟨hlt, hlt8⟩ := hgo
          have hlti : (t : Int) < (len1 : Int) := by omega
          have htl : t < ps1.length := by rw [HL1.out]; exact hlt
          obtain ⟨ad, hA, hSb, hc⟩ := HR1.out.at_ (by omega)
          subst hA
          have x0 := hc t htl
          obtain ⟨p1, p2, p3, p4⟩ := HR1.out.part ps1[t] (List.getElem_mem htl)
          generalize ps1[t] = pp at *
          obtain ⟨pA, pn, pc, pl⟩ := pp
          simp only [Part.val] at x0 p1 p2 p3 p4
          have y0 := (HB5.out.cell (p := ad.add t) (by rw [add_block]; exact hSb)).trans x0
          have HP4 := Lib.hid (p4.rd (fun k hk => hk) : Rd w w.heap.size pA pl)
          have HP1 := Lib.hid p1
          have HX0 := Lib.hid x0
          clear x0 p1 p4 hc
          by_cases hp16 : pn = 16
          · subst hp16
            go_wp2_with fail
            refine (enc_any w1.heap.size B g l0 pl pA pc _ HK5.out hzr HP1.out p2 (arg_off (base := 0) HP4.out HB5.out (fun k hk => by have := (HK5.out.lt k hk).1; omega))).mono ?_
            rintro e w6 ⟨v6, B6, rfl, hO6, hK6, hF6, hB6, hv6⟩
            clear hO6 hv6
            obtain ⟨hL6, hD6⟩ := key_step HQ5.out HD5.out hF6 hB6
            have hz6 := Nat.le_trans hzr hF6.size
            have HB6 := Lib.hid (HB5.out.trans (off_below HK5.out hF6 hz1 hzr))
            have HK6 := Lib.hid (show KeyIs w6 w1.heap.size B6 g l0 from .inr hK6)
            have HQ6 := Lib.hid hL6
            have HD6 := Lib.hid hD6
            clear hK6 hF6 hB6 hL6 hD6
            have y6 := (HB6.out.cell (p := ad.add t) (by rw [add_block]; exact hSb)).trans HX0.out
            go_wp2_with fail
            refine (dec_any w1.heap.size B6 g l0 pl pA pc _ HK6.out hz6 HP1.out p2 (arg_off (base := 0) HP4.out HB6.out (fun k hk => by have := (HK6.out.lt k hk).1; omega))).mono ?_
            rintro e w7 ⟨v7, B7, rfl, hO7, hK7, hF7, hB7, hv7⟩
            clear hO7 hv7
            obtain ⟨hL7, hD7⟩ := key_step HQ6.out HD6.out hF7 hB7
            have hz7 := Nat.le_trans hz6 hF7.size
            have HB7 := Lib.hid (HB6.out.trans (off_below HK6.out hF7 hz1 hz6))
            have HK7 := Lib.hid (show KeyIs w7 w1.heap.size B7 g l0 from .inr hK7)
            have HQ7 := Lib.hid hL7
            have HD7 := Lib.hid hD7
            clear hK7 hF7 hB7 hL7 hD7
            go_wp2_with fail
            refine (rounds_any w1.heap.size B7 g l0 _ HK7.out hz7).mono ?_
            rintro e w8 ⟨v8, vs8, B8, rfl, hO8, hK8, hF8, hB8, hv8⟩
            clear hO8 hv8
            obtain ⟨hL8, hD8⟩ := key_step HQ7.out HD7.out hF8 hB8
            have hz8 := Nat.le_trans hz7 hF8.size
            have HB8 := Lib.hid (HB7.out.trans (off_below HK7.out hF8 hz1 hz7))
            have HK8 := Lib.hid (show KeyIs w8 w1.heap.size B8 g l0 from .inr hK8)
            have HQ8 := Lib.hid hL8
            have HD8 := Lib.hid hD8
            clear hK8 hF8 hB8 hL8 hD8
            go_wp2_with fail
            go_roundw
            case rel => exact ⟨t + 1, B8, by omega, by omega, by go_num, HK8.out, HQ8.out, HD8.out, hz8, HB8.out⟩
            case measure => simp [intOf] <;> omega
          · go_wp2_with fail
            refine (enc_no g pA pn pc _ hp16).mono ?_
            rintro e w6 ⟨rfl, rfl⟩
            go_wp2_with fail
            refine (dec_no g pA pn pc _ hp16).mono ?_
            rintro e w6 ⟨rfl, rfl⟩
            go_wp2_with fail
            refine (rounds_any w1.heap.size B g l0 _ HK5.out hzr).mono ?_
            rintro e w6 ⟨v6, vs6, B6, rfl, hO6, hK6, hF6, hB6, hv6⟩
            clear hO6 hv6
            obtain ⟨hL6, hD6⟩ := key_step HQ5.out HD5.out hF6 hB6
            have hz6 := Nat.le_trans hzr hF6.size
            have HB6 := Lib.hid (HB5.out.trans (off_below HK5.out hF6 hz1 hzr))
            have HK6 := Lib.hid (show KeyIs w6 w1.heap.size B6 g l0 from .inr hK6)
            have HQ6 := Lib.hid hL6
            have HD6 := Lib.hid hD6
            clear hK6 hF6 hB6 hL6 hD6
            go_wp2_with fail
            go_roundw
            case rel => exact ⟨t + 1, B6, by omega, by omega, by go_num, HK6.out, HQ6.out, HD6.out, hz6, HB6.out⟩
            case measure => simp [intOf] <;> omega
        · have hexit : ¬ t < len1 ∨ (t < len1 ∧ t = 8) := by omega
          rcases hexit with hx | ⟨hx, hx8⟩
          all_goals
            go_wp2_with fail
            refine (enc_no g a2 len2 cap2 _ n2).mono ?_
            rintro e w6 ⟨rfl, rfl⟩
            go_wp2_with fail
            refine (enc_no h a2 len2 cap2 _ n2).mono ?_
            rintro e w6 ⟨rfl, rfl⟩
            have s0 := nil_str wr
            go_wp2_with fail
            go_ret
            exact ⟨rfl, HB5.out⟩
  · have HK := Lib.hid hk
    clear hk
    go_enter Try.func7, Try.ntmps7
    go_wp2_with fail
    refine (small_any _).mono ?_
    rintro e w1 ⟨rfl, hb1⟩
    go_wp2_with fail
    refine (new_no a0 len0 cap0 l0 _ HL0.out HK.out).mono ?_
    rintro e w2 ⟨rfl, rfl⟩
    go_wp2_with fail
    refine (new_no a0 len0 cap0 l0 _ HL0.out HK.out).mono ?_
    rintro e w2 ⟨rfl, rfl⟩
    go_wp2_with fail
    go_ret
    exact ⟨rfl, hb1⟩

set_option maxRecDepth 100000 in
theorem lifted (os : Os) (started : os.Started) (H : Type) (enc : TypeId × Value → H) :
    ReturnsInHanded {} Try.checked os 7 .any (Rows.aesAgainSpec.pre6 enc Try.prog Try.f7 Rows.aesAgainRow.domain false) (Rows.aesAgainSpec.post enc Try.prog Try.f7 false true false false) := by
  refine returnsInHanded_of_change_sized (C := Try.checked) own started (by kernel_rfl) Try.func7
    (ChangeSpec.witness6 (enc := enc) (C := Try.checked) false ⟨#[], #[.slice none 0 0, .slice none 0 0, .slice none 0 0], []⟩ 8 (by kernel_rfl) (by kernel_rfl) (by kernel_rfl) (by kernel_rfl)) ?_
  intro W base args ds gs before hval0 hW hcnd hsz0 _
  have hval : ∀ (j : Nat) t v, Try.f7.params[j]? = some t → args[j]? = some v → Value.okWide Try.prog W .any base t v := hval0
  have hsz : (DataW.weightsEach Try.prog (Try.f7.params.toList ++ Rows.aesAgainSpec.plain.varTypes Try.prog) (ds ++ gs)).all (· ≤ reachBytes) = true := hsz0
  clear hsz0
  have hW' := hW
  obtain ⟨p, q, hA0, hV, rfl, hfz, hnd⟩ := hW
  have hA : DataW.TrodAll enc Try.prog W 0 (fun _ => true) true Try.f7.params.toList args.toList ds p := hA0
  rw [Try.params7] at hA hval hsz
  obtain ⟨v0, vs0, d0, ds0, p0, q0, hargs, rfl, rfl, h0, r0⟩ := trodAll_cons hA
  obtain ⟨v1, vs1, d1, ds1, p1, q1, rfl, rfl, rfl, h1, r1⟩ := trodAll_cons r0
  obtain ⟨v2, vs2, d2, ds2, p2, q2, rfl, rfl, rfl, h2, r2⟩ := trodAll_cons r1
  obtain ⟨rfl, rfl, rfl⟩ := trodAll_nil r2
  obtain rfl : args = #[v0, v1, v2] := by cases args; simp_all
  obtain ⟨rfl, rfl⟩ := trodVars_none hV
  obtain ⟨a0, len0, cap0, rfl⟩ := okWide_slice Try.underlying22 (hval 0 22 v0 rfl rfl)
  have k0 := h0
  have lt0 : ∀ x ∈ p0, x.block < W.heap.size := by obtain ⟨m, hm⟩ := k0; exact DataW.trod_lt m _ _ _ hm
  obtain ⟨l0, w0⟩ := open_bytes u8 (by kernel_rfl) (by kernel_rfl) h0 hsz (j := 0) rfl rfl
  obtain ⟨a1, len1, cap1, rfl⟩ := okWide_slice Try.underlying36 (hval 1 36 v1 rfl rfl)
  have k1 := h1
  have lt1 : ∀ x ∈ p1, x.block < W.heap.size := by obtain ⟨m, hm⟩ := k1; exact DataW.trod_lt m _ _ _ hm
  obtain ⟨ps1, w1⟩ := open_rows Try.underlying36 Try.underlying22 Try.underlying5 (by kernel_rfl) (by kernel_rfl) h1
  obtain ⟨a2, len2, cap2, rfl⟩ := okWide_slice Try.underlying22 (hval 2 22 v2 rfl rfl)
  have k2 := h2
  have lt2 : ∀ x ∈ p2, x.block < W.heap.size := by obtain ⟨m, hm⟩ := k2; exact DataW.trod_lt m _ _ _ hm
  obtain ⟨l2, w2⟩ := open_bytes u8 (by kernel_rfl) (by kernel_rfl) h2 hsz (j := 2) rfl rfl
  clear hsz
  clear hA0 hval0
  simp only [List.append_nil] at hW'
  refine (walk a0 len0 cap0 l0 a1 len1 cap1 ps1 a2 len2 cap2 l2 W w0 w1 w2).mono fun e W' ⟨he, bel⟩ => ?_
  subst he
  exact ⟨_, rfl, _, _, _, [], _, [], hW', trodAll_mk1 (shut_bool Try.underlying4 _), (trodAll_cons_mk (Below.trod laidOut (by kernel_rfl) (of_decide_eq_true (by kernel_rfl)) k0 bel lt0) (trodAll_cons_mk (Below.trod laidOut (by kernel_rfl) (of_decide_eq_true (by kernel_rfl)) k1 bel lt1) (trodAll_cons_mk (Below.trod laidOut (by kernel_rfl) (of_decide_eq_true (by kernel_rfl)) k2 bel lt2) trodAll_mk0))), rfl, bel.frame _, fun h => by cases h⟩

theorem over : Rows.aesAgainRow.holds Try.pinned (OpenSpec.ofChange Rows.aesAgainSpec) :=
  OpenClaim.holds_of_wide 7 Try.f7 rfl rfl rfl rfl rfl rfl rfl ⟨rfl, rfl, rfl, rfl, rfl⟩ rfl rfl rfl rfl rfl (by kernel_rfl) Try.func7 (by kernel_rfl)
    (of_decide_eq_true (by kernel_rfl)) (by unfold Func.isWrapper; first | (rw [if_pos (by decide +kernel)]; kernel_rfl) | (rw [if_neg (by decide +kernel)]; exact ⟨rfl, rfl⟩))
    (fun os started H enc _ => lifted os started H enc)

theorem proved : Rows.AesAgainSaid := over
end Go.Proofs.Ytcbihjcnnfohmaa.aesAgain
