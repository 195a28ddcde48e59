/- The law 'SlotsFull' answers true for every input, and its arguments read afterwards as before; no condition. The frame follows the kit's skeleton; the walk is ours. -/
import Derived.Test.YtjlmgniachdfgaaRows
import Derived.Test.YtjlmgniachdfgaaArgs
import Derived.Test.YtjlmgniachdfgaaSlSmall
import Derived.WalkKit
import Derived.ProofKit
import Derived.OpenShut
import Derived.ShutString
import Derived.ChangeOld
import Derived.Below
import Derived.SizedLaws
namespace Go.Proofs.Ytjlmgniachdfgaa.slotsFull
open Go.ChangeShapes Go.WideShapes Go.ChangeAt Go.RowKit
set_option linter.unusedVariables false

theorem own : ownKnob Try.prog.godebug = none := by kernel_rfl
theorem laidOut : laidOutB Try.prog = true := by kernel_rfl

open Slots
theorem putE_yes {n : Nat} {q : Qs} {k : Nat} {l : List UInt8} (h1 : 1 ≤ k) (hk : k ≤ n) (hl : l.length ≤ 400) (hq : (q k).length < 4) : putE n q (k : Int) l = 0 ∧ putQ n q (k : Int) l = upd q k (q k ++ [l]) := by
  have hi : isT n (k : Int) = true := by unfold isT; simp; omega
  have hp : putE n q (k : Int) l = 0 := by
    unfold putE; rw [hi, Int.toNat_natCast, if_neg (by simp), if_neg (by omega), if_neg (by omega)]
  exact ⟨hp, by unfold putQ; rw [hp, if_pos rfl, Int.toNat_natCast]⟩
theorem putE_full {n : Nat} {q : Qs} {k : Nat} {l : List UInt8} (h1 : 1 ≤ k) (hk : k ≤ n) (hl : l.length ≤ 400) (hq : 4 ≤ (q k).length) : putE n q (k : Int) l = 14 ∧ putQ n q (k : Int) l = q := by
  have hi : isT n (k : Int) = true := by unfold isT; simp; omega
  have hp : putE n q (k : Int) l = 14 := by
    unfold putE; rw [hi, Int.toNat_natCast, if_neg (by simp), if_neg (by omega), if_pos hq]
  exact ⟨hp, by unfold putQ; rw [hp, if_neg (by omega)]⟩
theorem cnt_yes {n : Nat} {q : Qs} {k : Nat} (h1 : 1 ≤ k) (hk : k ≤ n) : cnt n q (k : Int) = (q k).length := by
  have hi : isT n (k : Int) = true := by unfold isT; simp; omega
  unfold cnt; rw [hi, Int.toNat_natCast]; rfl

set_option maxRecDepth 100000 in
set_option maxHeartbeats 4000000 in
theorem walk (a0 : Int) (a1 : Int) (a2 : Option Addr) (len2 cap2 : Nat) (l2 : List UInt8) (w : World) (w0 : (Lit.int .i64 a0).wf = true) (w1 : (Lit.int .i64 a1).wf = true) (w2 : ArgB w a2 len2 cap2 l2) :
    Calls Try.prog 4 #[.int .i64 a0, .int .i64 a1, .slice a2 len2 cap2] w fun e w' => e = .returned (.bool true) ∧ Below w.heap.size w w' := by
  obtain ⟨hb00, hb01⟩ := bounds_i64 w0
  obtain ⟨hb10, hb11⟩ := bounds_i64 w1
  obtain ⟨hl2, hf2, hm2, hr2⟩ := w2
  by_cases hn : 1 ≤ a0 ∧ a0 ≤ 64
  · obtain ⟨hn1, hn64⟩ := hn
    obtain ⟨n, rfl⟩ := Int.eq_ofNat_of_zero_le (show 0 ≤ a0 by omega)
    have n1 : 1 ≤ n := by omega
    have n64 : n ≤ 64 := by omega
    by_cases ht : 1 ≤ a1 ∧ a1 ≤ (n : Int) ∧ len2 ≤ 400
    · obtain ⟨ht1, ht2, hl400⟩ := ht
      obtain ⟨t, rfl⟩ := Int.eq_ofNat_of_zero_le (show 0 ≤ a1 by omega)
      have t1 : 1 ≤ t := by omega
      have tn : t ≤ n := by omega
      have HL := Lib.hid hl2
      have HR := Lib.hid hr2
      have d1 : decide ((t : Int) < 1) = false := by simp; omega
      have d2 : decide (n < t) = false := by simp; omega
      have d3 : decide (400 < (len2 : Int)) = false := by simp; omega
      clear hl2 hr2
      go_enter Try.func4, Try.ntmps4
      go_wp2_with fail
      refine (small_any _).mono ?_
      rintro e w1 ⟨rfl, hb1⟩
      have hz1 := hb1.size
      go_wp2_with fail
      refine (new_yes n n1 n64 _).mono ?_
      rintro e w2 ⟨g, tag2, rfl, h2, hb2⟩
      have hbw2 := hb1.trans (hb2.mono hz1)
      have hz12 := hb2.size
      have H2 := Lib.hid h2
      have HB2 := Lib.hid hbw2
      clear h2 hb2 hbw2
      go_wp2_with fail
      go_loopw [10] (fun i wr => ∃ (k : Nat) (tag : Tags) (q : Qs), k ≤ 4 ∧ i = .int .i64 k ∧ Sl wr w1.heap.size tag g n 0 q ∧ (q t).length = k ∧ (∀ j, j ≠ t → q j = []) ∧ w1.heap.size ≤ wr.heap.size ∧ Below w.heap.size w wr) (fun i _ => 4 - (intOf i).toNat)
      case atStart => exact ⟨0, tag2, _, by omega, rfl, H2.out, rfl, fun _ _ => rfl, hz12, HB2.out⟩
      case round =>
        obtain ⟨k, tag, q, hk, rfl, hS, hqk, hqo, hzr, hbr⟩ := hrel
        clear H2 HB2
        have HS := Lib.hid hS
        have HBR := Lib.hid hbr
        have HRB := Lib.hid ((HR.out.below hbr).more (B' := wr.heap.size) hbr.size)
        by_cases hlt : k < 4
        · obtain ⟨hp, hpq⟩ := putE_yes (n := n) (q := q) (l := l2) t1 tn (by rw [HL.out]; exact hl400) (by omega)
          have HP := Lib.hid hp
          have HPQ := Lib.hid hpq
          have HQK := Lib.hid hqk
          have HQO := Lib.hid hqo
          clear hp hpq hqk hqo hS hbr
          go_wp2_with fail
          refine (put_any w1.heap.size tag g n 0 q (t : Int) a2 len2 cap2 l2 wr wr.heap.size (Nat.le_refl _) n64 HS.out hzr HL.out HRB.out).mono ?_
          rw [HP.out, HPQ.out]
          rintro e w3 ⟨tag3, rfl, h3, hF3, ht3⟩
          have hb3 := HBR.out.trans (HS.out.rest hF3 hz1 hzr)
          have hz3 := hF3.size
          clear hF3 ht3
          go_wp2_with fail
          go_roundw
          case rel => exact ⟨k + 1, tag3, _, by omega, by go_num, h3, by rw [upd_same, List.length_append, HQK.out]; rfl, fun j hj => by rw [upd_other _ _ hj]; exact HQO.out j hj, by omega, hb3⟩
          case measure => simp [intOf] <;> omega
        · have hk4 : k = 4 := by omega
          subst hk4
          obtain ⟨hp, hpq⟩ := putE_full (n := n) (q := q) (l := l2) t1 tn (by rw [HL.out]; exact hl400) (by omega)
          have HP := Lib.hid hp
          have HPQ := Lib.hid hpq
          have HQK := Lib.hid hqk
          have HQO := Lib.hid hqo
          have hcy := cnt_yes (n := n) (q := q) t1 tn
          clear hp hpq hqk hqo hS hbr
          go_wp2_with fail
          refine (put_any w1.heap.size tag g n 0 q (t : Int) a2 len2 cap2 l2 wr wr.heap.size (Nat.le_refl _) n64 HS.out hzr HL.out HRB.out).mono ?_
          rw [HP.out, HPQ.out]
          rintro e w3 ⟨tag3, rfl, h3, hF3, ht3⟩
          have hb3 := HBR.out.trans (HS.out.rest hF3 hz1 hzr)
          have hz3 := hF3.size
          have HS3 := Lib.hid h3
          have HB3 := Lib.hid hb3
          have HRB3 := Lib.hid ((HR.out.below hb3).more (B' := w3.heap.size) hb3.size)
          clear hF3 ht3 h3 hb3 hcy
          obtain ⟨o, ho⟩ : ∃ o : Nat, o = t % n := ⟨_, rfl⟩
          have hom : (t : Int) % (n : Int) = (o : Int) := by rw [ho]; push_cast; rfl
          have hon : o < n := by rw [ho]; exact Nat.mod_lt _ (by omega)
          clear ho
          by_cases hot : o + 1 = t
          · obtain ⟨hp2, hpq2⟩ := putE_full (n := n) (q := q) (k := o + 1) (l := l2) (by omega) (by omega) (by rw [HL.out]; exact hl400) (by rw [hot, HQK.out]; omega)
            have HP2 := Lib.hid hp2
            have HPQ2 := Lib.hid hpq2
            have HCY := Lib.hid (cnt_yes (n := n) (q := q) t1 tn)
            have x1 : ((o : Int) + 1 != (t : Int)) = false := by simp; omega
            have x2 : ((o : Int) + 1 == (t : Int)) = true := by simp; omega
            clear hp2 hpq2
            go_wp2_with fail
            refine (put_any w1.heap.size tag3 g n 0 q ((o + 1 : Nat) : Int) a2 len2 cap2 l2 w3 w3.heap.size (Nat.le_refl _) n64 HS3.out (by omega) HL.out HRB3.out).mono ?_
            rw [HP2.out, HPQ2.out]
            rintro e w4 ⟨tag4, rfl, h4, hF4, ht4⟩
            have hb4 := HB3.out.trans (HS3.out.rest hF4 hz1 (by omega))
            have HS4 := Lib.hid h4
            clear h4 hF4 ht4
            go_wp2_with fail
            refine (count_any w1.heap.size tag4 g n 0 q (t : Int) w4 n64 HS4.out).mono ?_
            rw [HCY.out, HQK.out]
            rintro e w5 ⟨rfl, rfl⟩
            go_wp2_with fail
            go_ret
            exact ⟨rfl, hb4⟩
          · obtain ⟨hp2, hpq2⟩ := putE_yes (n := n) (q := q) (k := o + 1) (l := l2) (by omega) (by omega) (by rw [HL.out]; exact hl400) (by rw [HQO.out _ hot]; simp)
            have HP2 := Lib.hid hp2
            have HPQ2 := Lib.hid hpq2
            have HCY := Lib.hid (show cnt n (upd q (o + 1) (q (o + 1) ++ [l2])) (t : Int) = 4 by rw [cnt_yes t1 tn, upd_other _ _ (Ne.symm hot), HQK.out])
            have x1 : ((o : Int) + 1 != (t : Int)) = true := by rw [bne_iff_ne]; omega
            have x2 : ((o : Int) + 1 == (t : Int)) = false := by rw [beq_eq_false_iff_ne]; omega
            clear hp2 hpq2
            go_wp2_with fail
            refine (put_any w1.heap.size tag3 g n 0 q ((o + 1 : Nat) : Int) a2 len2 cap2 l2 w3 w3.heap.size (Nat.le_refl _) n64 HS3.out (by omega) HL.out HRB3.out).mono ?_
            rw [HP2.out, HPQ2.out]
            rintro e w4 ⟨tag4, rfl, h4, hF4, ht4⟩
            have hb4 := HB3.out.trans (HS3.out.rest hF4 hz1 (by omega))
            have HS4 := Lib.hid h4
            clear h4 hF4 ht4
            go_wp2_with fail
            refine (count_any w1.heap.size tag4 g n 0 _ (t : Int) w4 n64 HS4.out).mono ?_
            rw [HCY.out]
            rintro e w5 ⟨rfl, rfl⟩
            go_wp2_with fail
            go_ret
            exact ⟨rfl, hb4⟩
    · have hcase : a1 < 1 ∨ (1 ≤ a1 ∧ (n : Int) < a1) ∨ (1 ≤ a1 ∧ a1 ≤ (n : Int) ∧ 400 < len2) := by omega
      clear ht
      rcases hcase with hc | ⟨hc1, hc2⟩ | ⟨hc1, hc2, hc3⟩
      all_goals
        go_enter Try.func4, Try.ntmps4
        go_wp2_with fail
        refine (small_any _).mono ?_
        rintro e w1 ⟨rfl, hb1⟩
        have hz1 := hb1.size
        go_wp2_with fail
        refine (new_yes n n1 n64 _).mono ?_
        rintro e w2 ⟨g, tag2, rfl, h2, hb2⟩
        have hbw2 := hb1.trans (hb2.mono hz1)
        clear h2 hb2
        go_wp2_with fail
        go_ret
        exact ⟨rfl, hbw2⟩
  · have hn' : a0 < 1 ∨ 64 < a0 := by omega
    go_enter Try.func4, Try.ntmps4
    go_wp2_with fail
    refine (small_any _).mono ?_
    rintro e w1 ⟨rfl, hb1⟩
    go_wp2_with fail
    refine (new_no a0 hn' _).mono ?_
    rintro e w2 ⟨rfl, rfl⟩
    go_wp2_with fail
    go_ret
    exact ⟨rfl, hb1⟩

set_option maxRecDepth 100000 in
theorem lifted (os : Os) (started : os.Started) (H : Type) (enc : TypeId × Value → H) :
    ReturnsInHanded {} Try.checked os 4 .any (Rows.slotsFullSpec.pre6 enc Try.prog Try.f4 Rows.slotsFullRow.domain false) (Rows.slotsFullSpec.post enc Try.prog Try.f4 false true false false) := by
  refine returnsInHanded_of_change_sized (C := Try.checked) own started (by kernel_rfl) Try.func4
    (ChangeSpec.witness6 (enc := enc) (C := Try.checked) false ⟨#[], #[.int .i64 0, .int .i64 0, .slice none 0 0], []⟩ 8 (by kernel_rfl) (by kernel_rfl) (by kernel_rfl) (by kernel_rfl)) ?_
  intro W base args ds gs before hval0 hW hcnd hsz0 _
  have hval : ∀ (j : Nat) t v, Try.f4.params[j]? = some t → args[j]? = some v → Value.okWide Try.prog W .any base t v := hval0
  have hsz : (DataW.weightsEach Try.prog (Try.f4.params.toList ++ Rows.slotsFullSpec.plain.varTypes Try.prog) (ds ++ gs)).all (· ≤ reachBytes) = true := hsz0
  clear hsz0
  have hW' := hW
  obtain ⟨p, q, hA0, hV, rfl, hfz, hnd⟩ := hW
  have hA : DataW.TrodAll enc Try.prog W 0 (fun _ => true) true Try.f4.params.toList args.toList ds p := hA0
  rw [Try.params4] at hA hval hsz
  obtain ⟨v0, vs0, d0, ds0, p0, q0, hargs, rfl, rfl, h0, r0⟩ := trodAll_cons hA
  obtain ⟨v1, vs1, d1, ds1, p1, q1, rfl, rfl, rfl, h1, r1⟩ := trodAll_cons r0
  obtain ⟨v2, vs2, d2, ds2, p2, q2, rfl, rfl, rfl, h2, r2⟩ := trodAll_cons r1
  obtain ⟨rfl, rfl, rfl⟩ := trodAll_nil r2
  obtain rfl : args = #[v0, v1, v2] := by cases args; simp_all
  obtain ⟨rfl, rfl⟩ := trodVars_none hV
  obtain ⟨a2, len2, cap2, rfl⟩ := okWide_slice Try.underlying28 (hval 2 28 v2 rfl rfl)
  have k2 := h2
  have lt2 : ∀ x ∈ p2, x.block < W.heap.size := by obtain ⟨m, hm⟩ := k2; exact DataW.trod_lt m _ _ _ hm
  obtain ⟨l2, w2⟩ := open_bytes u8 (by kernel_rfl) (by kernel_rfl) h2 hsz (j := 2) rfl rfl
  clear hsz
  obtain ⟨a0, rfl, rfl, rfl, w0⟩ := open_int Try.underlying3 (hval 0 3 v0 rfl rfl) h0
  obtain ⟨a1, rfl, rfl, rfl, w1⟩ := open_int Try.underlying3 (hval 1 3 v1 rfl rfl) h1
  clear hA0 hval0
  simp only [List.append_nil] at hW'
  refine (walk a0 a1 a2 len2 cap2 l2 W w0 w1 w2).mono fun e W' ⟨he, bel⟩ => ?_
  subst he
  exact ⟨_, rfl, _, _, _, [], _, [], hW', trodAll_mk1 (shut_bool Try.underlying4 _), (trodAll_cons_mk (shut_int Try.underlying3 w0) (trodAll_cons_mk (shut_int Try.underlying3 w1) (trodAll_cons_mk (Below.trod laidOut (by kernel_rfl) (of_decide_eq_true (by kernel_rfl)) k2 bel lt2) trodAll_mk0))), rfl, bel.frame _, fun h => by cases h⟩

theorem over : Rows.slotsFullRow.holds Try.pinned (OpenSpec.ofChange Rows.slotsFullSpec) :=
  OpenClaim.holds_of_wide 4 Try.f4 rfl rfl rfl rfl rfl rfl rfl ⟨rfl, rfl, rfl, rfl, rfl⟩ rfl rfl rfl rfl rfl (by kernel_rfl) Try.func4 (by kernel_rfl)
    (of_decide_eq_true (by kernel_rfl)) (by unfold Func.isWrapper; first | (rw [if_pos (by decide +kernel)]; kernel_rfl) | (rw [if_neg (by decide +kernel)]; exact ⟨rfl, rfl⟩))
    (fun os started H enc _ => lifted os started H enc)

theorem proved : Rows.SlotsFullSaid := over
end Go.Proofs.Ytjlmgniachdfgaa.slotsFull
