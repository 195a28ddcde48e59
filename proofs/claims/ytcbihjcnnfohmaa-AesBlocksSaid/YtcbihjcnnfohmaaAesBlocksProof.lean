/- The law 'AesBlocks' answers true for every input, and its arguments read afterwards as before; no condition. The frame follows the kit's skeleton; the walk is ours. -/
import Derived.Test.YtcbihjcnnfohmaaRows
import Derived.Test.YtcbihjcnnfohmaaArgs
import Derived.Test.YtcbihjcnnfohmaaAesLaw
import Derived.Test.YtcbihjcnnfohmaaAesRefD
import Derived.Test.YtcbihjcnnfohmaaRwsOwn
import Derived.WalkKit
import Derived.ProofKit
import Derived.OpenShut
import Derived.ShutString
import Derived.ChangeOld
import Derived.Below
import Derived.SizedLaws
namespace Go.Proofs.Ytcbihjcnnfohmaa.aesBlocks
open Go.ChangeShapes Go.WideShapes Go.ChangeAt Go.RowKit
set_option linter.unusedVariables false

theorem own : ownKnob Try.prog.godebug = none := by kernel_rfl
theorem laidOut : laidOutB Try.prog = true := by kernel_rfl

open Aes
set_option linter.unusedSimpArgs false
theorem nil_str (w : World) : (convert 22 9 (.slice none 0 0)).run Try.prog w = .ok (.string (str [])) w := (Rd.nil w 0 none).str u8 9 Try.underlying9 0
theorem rowv_str {w w' : World} {g n : Nat} {l : List UInt8} (hn : l.length = n) (h : RowV w 5 g (bvs l)) (hb : Below w.heap.size w w') : (convert 22 9 (.slice (some ⟨g, 0, none⟩) n n)).run Try.prog w' = .ok (.string (str l)) w' := by
  subst hn
  exact ((row_rd h).below hb).str u8 9 Try.underlying9 _
theorem lent_rds {w : World} {e : TypeId} {g : Nat} {l r : List UInt8} (h : Row w e g (l ++ r)) {S : Nat → Prop} (hS : S g) : RdS w S (some ⟨g, 0, none⟩) l := fun h0 => by
  obtain ⟨ad, e, hb, hc⟩ := h.rd_take h0
  injection e with e
  subst e
  exact ⟨_, rfl, hS, hc⟩
theorem rowin_mix {w w' : World} {r : ORow} {lo hi lo' hi' : Nat} (h1 : RowIn w r lo hi) (h2 : RowIn w' r lo' hi') : RowIn w' r lo hi := ⟨h1.fit, fun g hg => ⟨(h1.own g hg).1, (h1.own g hg).2.1, (h2.own g hg).2.2⟩⟩

set_option maxRecDepth 100000 in
set_option maxHeartbeats 4000000 in
theorem walk (a0 : Option Addr) (len0 cap0 : Nat) (l0 : List UInt8) (a1 : Option Addr) (len1 cap1 : Nat) (l1 : List UInt8) (w : World) (w0 : ArgB w a0 len0 cap0 l0) (w1 : ArgB w a1 len1 cap1 l1) :
    Calls Try.prog 3 #[.slice a0 len0 cap0, .slice a1 len1 cap1] w fun e w' => e = .returned (.bool true) ∧ Below w.heap.size w w' := by
  obtain ⟨hl0, hf0, hm0, hr0⟩ := w0
  obtain ⟨hl1, hf1, hm1, hr1⟩ := w1
  have HL0 := Lib.hid hl0
  have HL1 := Lib.hid hl1
  have HR0 := Lib.hid hr0
  have HR1 := Lib.hid hr1
  have HM1 := Lib.hid (show len1 ≤ 140737488355328 by omega)
  clear hl0 hl1 hr0 hr1
  by_cases hk : KeyOk l0
  · have HK := Lib.hid hk
    have HN := Lib.hid hk.four
    obtain ⟨n, hn⟩ : ∃ n, l0.length / 4 = n := ⟨_, rfl⟩
    rw [hn] at HN
    clear hk hn
    go_enter Try.func3, Try.ntmps3
    go_wp2_with fail
    refine (small_any _).mono ?_
    rintro e w1 ⟨rfl, hb1⟩
    have hz1 := hb1.size
    have HB1 := Lib.hid hb1
    clear hb1
    go_wp2_with fail
    refine (new_any a0 len0 cap0 l0 _ w.heap.size hz1 HL0.out (HR0.out.below HB1.out) HK.out).mono ?_
    rintro e w2 ⟨g, B2, rfl, hK2, hb2⟩
    have hz2 := hb2.size
    have HK2 := Lib.hid (show KeyIs w2 w1.heap.size B2 g l0 from .inl hK2)
    have HB2 := Lib.hid (HB1.out.trans (hb2.mono hz1))
    clear hK2 hb2
    go_wp2_with fail
    refine (refnew_any a0 len0 cap0 n l0 HN.out.1 (by rw [← HL0.out]; exact HN.out.2) HL0.out hf0 w2 (rd_now_ HR0.out HB2.out)).mono ?_
    rintro e w3 ⟨gx, rfl, hX3, hb3⟩
    have hz3 := hb3.size
    have HX3 := Lib.hid hX3
    have HK3 := Lib.hid (HK2.out.below_ hb3)
    have HB3 := Lib.hid (HB2.out.trans (hb3.mono HB2.out.size))
    clear hX3 hb3
    go_wp2_with fail
    refine (lent_any a1 len1 cap1 l1 w3 w.heap.size HB3.out.size HL1.out HM1.out (HR1.out.below HB3.out)).mono ?_
    rintro e w4 ⟨rfl, hrow4, hb4⟩
    have hz4 := hb4.size
    have hr4 : w3.heap.size < w4.heap.size := hrow4.lt
    have HX4 := Lib.hid (HX3.out.frame (Frame.of_below hb4 (fun k hk => hk.2)))
    have HK4 := Lib.hid (HK3.out.below_ hb4)
    have HLT4 := Lib.hid (HK2.out.lt)
    have HB4 := Lib.hid (HB3.out.trans (hb4.mono HB3.out.size))
    have HW4 := Lib.hid hrow4
    clear hrow4 hb4
    by_cases e1 : len1 = 16
    · subst e1
      go_wp2_with fail
      refine (enc_any w1.heap.size B2 g l0 l1 (some ⟨w3.heap.size, 0, none⟩) _ w4 HK4.out (by omega) HL1.out (by omega) (lent_rds HW4.out ⟨hr4, fun hb => by have := (HLT4.out _ hb).2; omega⟩)).mono ?_
      rintro e w5 ⟨v5, B5, rfl, hO5, hK5, hF5, hB5, hv5⟩
      obtain ⟨A5, c5, hve5, _, hcc5⟩ := hO5.form
      rw [enc_length HK.out HL1.out] at hve5 hcc5
      subst hve5
      have hz5 := hF5.size
      have hXs : ∀ k, (w2.heap.size ≤ k ∧ k < w3.heap.size) → Off w4 B2 k := fun k hk => ⟨by omega, fun hb => by have := (HLT4.out _ hb).2; omega⟩
      have HX5 := Lib.hid (HX4.out.frame (hF5.mono hXs))
      have HW5 := Lib.hid (show Row w5 5 w3.heap.size (l1 ++ [77]) from (hF5.block w3.heap.size ⟨hr4, fun hb => by have := (HLT4.out _ hb).2; omega⟩).trans HW4.out)
      have HB5 := Lib.hid (HB4.out.trans (off_below HK4.out hF5 hz1 (by omega)))
      have HK5 := Lib.hid (show KeyIs w5 w1.heap.size B5 g l0 from .inr hK5)
      have HO5 := Lib.hid hO5
      have HV5 := Lib.hid hv5
      have HLT5 := Lib.hid (show ∀ k, B5 k → k < w2.heap.size ∨ w4.heap.size ≤ k from fun k hk => (hB5 k hk).imp (fun h => (HLT4.out k h).2) id)
      clear hO5 hK5 hF5 hB5 hv5 hXs
      go_wp2_with fail
      refine (dec_any w1.heap.size B5 g l0 l1 (some ⟨w3.heap.size, 0, none⟩) _ w5 HK5.out (by omega) HL1.out (by omega) (lent_rds HW5.out ⟨by omega, fun hb => by have := HLT5.out _ hb; omega⟩)).mono ?_
      rintro e w6 ⟨v6, B6, rfl, hO6, hK6, hF6, hB6, hv6⟩
      obtain ⟨A6, c6, hve6, _, hcc6⟩ := hO6.form
      rw [dec_length HK.out HL1.out] at hve6 hcc6
      subst hve6
      have hz6 := hF6.size
      have hXs : ∀ k, (w2.heap.size ≤ k ∧ k < w3.heap.size) → Off w5 B5 k := fun k hk => ⟨by omega, fun hb => by have := HLT5.out _ hb; omega⟩
      have HX6 := Lib.hid (HX5.out.frame (hF6.mono hXs))
      have HW6 := Lib.hid (show Row w6 5 w3.heap.size (l1 ++ [77]) from (hF6.block w3.heap.size ⟨by omega, fun hb => by have := HLT5.out _ hb; omega⟩).trans HW5.out)
      have HB6 := Lib.hid (HB5.out.trans (off_below HK5.out hF6 hz1 (by omega)))
      have HP5 := Lib.hid (own_step HO5.out HV5.out hF6 hB6).1
      have HO6 := Lib.hid hO6
      clear hO6 hK6 hF6 hB6 hv6 hXs
      go_wp2_with fail
      refine (kept_any a1 16 cap1 w3.heap.size l1 w6 w.heap.size HL1.out HM1.out (HR1.out.below HB6.out) HW6.out).mono ?_
      rintro e w7 ⟨rfl, rfl⟩
      go_wp2_with fail
      refine (refenc_any gx n l0 l1 a1 cap1 w6 (HX6.out.rk (fun k hk => by omega)) HL1.out (rd_now_ HR1.out HB6.out)).mono ?_
      rintro e w7 ⟨g7, rfl, hg7, hgl7, hb7⟩
      have hz7 := hb7.size
      have HX7 := Lib.hid (HX6.out.frame (Frame.of_below hb7 (fun k hk => by omega)))
      have HB7 := Lib.hid (HB6.out.trans (hb7.mono HB6.out.size))
      have HB67 := Lib.hid hb7
      have HG7 := Lib.hid hg7
      clear hb7 hg7
      go_wp2_with fail
      refine (refdec_any gx n l0 l1 a1 cap1 w7 (HX7.out.rk (fun k hk => by omega)) HL1.out (rd_now_ HR1.out HB7.out)).mono ?_
      rintro e w8 ⟨g8, rfl, hg8, hgl8, hb8⟩
      have hz8 := hb8.size
      have HB8 := Lib.hid (HB7.out.trans (hb8.mono HB7.out.size))
      have hb68 := HB67.out.trans (hb8.mono hz7)
      have ho5 := HP5.out.below hb68
      have ho6 := HO6.out.below hb68
      have s5 := own_str ho5
      have s6 := own_str ho6
      have s7 := rowv_str (enc_length HK.out HL1.out) HG7.out hb8
      have s8 := rowv_str (dec_length HK.out HL1.out) hg8 (Below.refl _ _)
      have q5 := toO_own HO5.out
      have q6 := toO_own HO6.out
      have q5' := (toO_own ho5).2.1
      have q6' := (toO_own ho6).2.1
      have hw8 : Row w8 5 w3.heap.size (l1 ++ [77]) := HW6.out.below hb68 HW6.out.lt
      have qi : RowIn w8 ⟨some w3.heap.size, 16, 16 + 1⟩ w3.heap.size (w3.heap.size + 1) := orow_row hw8 (by omega) (by rw [List.length_append, HL1.out]; rfl) (by omega)
      have hown : Owns (w8.alloc (.cells #[.slice A5 16 c5, .slice A6 16 c6, .slice (some ⟨w3.heap.size, 0, none⟩) 16 (16 + 1)] 22)) (some ⟨w8.heap.size, 0, none⟩) [toO (.slice A5 16 c5), toO (.slice A6 16 c6), ⟨some w3.heap.size, 16, 16 + 1⟩] := by
        have := owns_new (w := w8) 22 [(toO (.slice A5 16 c5), w4.heap.size, w5.heap.size), (toO (.slice A6 16 c6), w5.heap.size, w6.heap.size), ((⟨some w3.heap.size, 16, 16 + 1⟩ : ORow), w3.heap.size, w3.heap.size + 1)]
          (by
            intro x hx
            simp only [List.mem_cons, List.not_mem_nil, or_false] at hx
            rcases hx with rfl | rfl | rfl
            · exact ⟨rowin_mix q5.2.1 q5', by show w5.heap.size ≤ _; omega⟩
            · exact ⟨rowin_mix q6.2.1 q6', by show w6.heap.size ≤ _; omega⟩
            · exact ⟨qi, by show w3.heap.size + 1 ≤ _; omega⟩)
          (by
            simp only [List.pairwise_cons, List.mem_cons, List.not_mem_nil, or_false, forall_eq_or_imp, forall_eq, List.Pairwise.nil, and_true, false_implies, implies_true]
            omega)
        simp only [List.map_cons, List.map_nil] at this
        rw [← q5.1, ← q6.1] at this
        exact this
      have hlo : ∀ r ∈ [toO (.slice A5 16 c5), toO (.slice A6 16 c6), (⟨some w3.heap.size, 16, 16 + 1⟩ : ORow)], ∀ g, r.a = some g → w.heap.size ≤ g := by
        have h3 := HB3.out.size
        intro r hr g hg
        simp only [List.mem_cons, List.not_mem_nil, or_false] at hr
        rcases hr with rfl | rfl | rfl
        · have := (q5.2.1.own g hg).1; omega
        · have := (q6.2.1.own g hg).1; omega
        · injection hg with hg; omega
      have HOWN := Lib.hid hown
      have HLO := Lib.hid hlo
      clear hown hlo q5 q6 q5' q6' qi hw8 ho5 ho6 hb68 hg8 hb8 hgl7 hgl8
      generalize str (enc l0 l1) = tx at *
      generalize str (dec l0 l1) = ty at *
      go_wp2_with fail
      refine (owned_any _ 3 3 _ _ rfl (by omega) HOWN.out).mono ?_
      rintro e w9 ⟨rfl, hI⟩
      have HB9 := Lib.hid ((HB8.out.alloc HB8.out.size (.cells #[.slice A5 16 c5, .slice A6 16 c6, .slice (some ⟨w3.heap.size, 0, none⟩) 16 (16 + 1)] 22)).trans (hI.below_ HLO.out))
      clear hI
      go_wp2_with fail
      go_ret
      exact ⟨rfl, HB9.out⟩
    · have n1 : len1 ≠ 16 := e1
      clear e1
      go_wp2_with fail
      refine (enc_no g (some ⟨w3.heap.size, 0, none⟩) len1 _ w4 n1).mono ?_
      rintro e w5 ⟨rfl, rfl⟩
      go_wp2_with fail
      refine (dec_no g (some ⟨w3.heap.size, 0, none⟩) len1 _ w4 n1).mono ?_
      rintro e w5 ⟨rfl, rfl⟩
      go_wp2_with fail
      refine (kept_any a1 len1 cap1 w3.heap.size l1 w4 w.heap.size HL1.out HM1.out (HR1.out.below HB4.out) HW4.out).mono ?_
      rintro e w5 ⟨rfl, rfl⟩
      go_wp2_with fail
      refine (refenc_no gx len1 a1 cap1 w4 n1).mono ?_
      rintro e w5 ⟨rfl, rfl⟩
      go_wp2_with fail
      refine (refdec_no gx len1 a1 cap1 w4 n1).mono ?_
      rintro e w5 ⟨rfl, rfl⟩
      have s0 := nil_str w4
      have qi : RowIn w4 ⟨some w3.heap.size, len1, len1 + 1⟩ w3.heap.size (w3.heap.size + 1) := orow_row HW4.out (by omega) (by rw [List.length_append, HL1.out]; rfl) (by have := HM1.out; omega)
      have hown : Owns (w4.alloc (.cells #[.slice none 0 0, .slice none 0 0, .slice (some ⟨w3.heap.size, 0, none⟩) len1 (len1 + 1)] 22)) (some ⟨w4.heap.size, 0, none⟩) [⟨none, 0, 0⟩, ⟨none, 0, 0⟩, ⟨some w3.heap.size, len1, len1 + 1⟩] := by
        have := owns_new (w := w4) 22 [((⟨none, 0, 0⟩ : ORow), 0, 0), ((⟨none, 0, 0⟩ : ORow), 0, 0), ((⟨some w3.heap.size, len1, len1 + 1⟩ : ORow), w3.heap.size, w3.heap.size + 1)]
          (by
            intro x hx
            simp only [List.mem_cons, List.not_mem_nil, or_false] at hx
            rcases hx with rfl | rfl | rfl
            · exact ⟨⟨⟨Nat.le_refl _, by show 0 ≤ 9223372036854775807; omega, fun _ => ⟨rfl, rfl⟩⟩, fun g hg => by cases hg⟩, Nat.zero_le _⟩
            · exact ⟨⟨⟨Nat.le_refl _, by show 0 ≤ 9223372036854775807; omega, fun _ => ⟨rfl, rfl⟩⟩, fun g hg => by cases hg⟩, Nat.zero_le _⟩
            · exact ⟨qi, by show w3.heap.size + 1 ≤ _; omega⟩)
          (by
            simp only [List.pairwise_cons, List.mem_cons, List.not_mem_nil, or_false, forall_eq_or_imp, forall_eq, List.Pairwise.nil, and_true, false_implies, implies_true]
            omega)
        exact this
      have hlo : ∀ r ∈ [(⟨none, 0, 0⟩ : ORow), (⟨none, 0, 0⟩ : ORow), (⟨some w3.heap.size, len1, len1 + 1⟩ : ORow)], ∀ g, r.a = some g → w.heap.size ≤ g := by
        have h3 := HB3.out.size
        intro r hr g hg
        simp only [List.mem_cons, List.not_mem_nil, or_false] at hr
        rcases hr with rfl | rfl | rfl
        · cases hg
        · cases hg
        · injection hg with hg; omega
      have HOWN := Lib.hid hown
      have HLO := Lib.hid hlo
      clear hown hlo qi
      go_wp2_with fail
      refine (owned_any _ 3 3 _ _ rfl (by omega) HOWN.out).mono ?_
      rintro e w9 ⟨rfl, hI⟩
      have HB9 := Lib.hid ((HB4.out.alloc HB4.out.size (.cells #[.slice none 0 0, .slice none 0 0, .slice (some ⟨w3.heap.size, 0, none⟩) len1 (len1 + 1)] 22)).trans (hI.below_ HLO.out))
      clear hI
      go_wp2_with fail
      go_ret
      exact ⟨rfl, HB9.out⟩
  · have HK := Lib.hid hk
    have HNE := Lib.hid (show len0 ≠ 16 ∧ len0 ≠ 32 from ⟨fun e => hk (.inl (by rw [HL0.out]; exact e)), fun e => hk (.inr (by rw [HL0.out]; exact e))⟩)
    clear hk
    go_enter Try.func3, Try.ntmps3
    go_wp2_with fail
    refine (small_any _).mono ?_
    rintro e w1 ⟨rfl, hb1⟩
    have HB1 := Lib.hid hb1
    clear hb1
    go_wp2_with fail
    refine (new_no a0 len0 cap0 l0 _ HL0.out HK.out).mono ?_
    rintro e w2 ⟨rfl, rfl⟩
    go_wp2_with fail
    refine (refnew_no a0 len0 cap0 _ HNE.out).mono ?_
    rintro e w2 ⟨rfl, rfl⟩
    go_wp2_with fail
    go_ret
    exact ⟨rfl, HB1.out⟩

set_option maxRecDepth 100000 in
theorem lifted (os : Os) (started : os.Started) (H : Type) (enc : TypeId × Value → H) :
    ReturnsInHanded {} Try.checked os 3 .any (Rows.aesBlocksSpec.pre6 enc Try.prog Try.f3 Rows.aesBlocksRow.domain false) (Rows.aesBlocksSpec.post enc Try.prog Try.f3 false true false false) := by
  refine returnsInHanded_of_change_sized (C := Try.checked) own started (by kernel_rfl) Try.func3
    (ChangeSpec.witness6 (enc := enc) (C := Try.checked) false ⟨#[], #[.slice none 0 0, .slice none 0 0], []⟩ 8 (by kernel_rfl) (by kernel_rfl) (by kernel_rfl) (by kernel_rfl)) ?_
  intro W base args ds gs before hval0 hW hcnd hsz0 _
  have hval : ∀ (j : Nat) t v, Try.f3.params[j]? = some t → args[j]? = some v → Value.okWide Try.prog W .any base t v := hval0
  have hsz : (DataW.weightsEach Try.prog (Try.f3.params.toList ++ Rows.aesBlocksSpec.plain.varTypes Try.prog) (ds ++ gs)).all (· ≤ reachBytes) = true := hsz0
  clear hsz0
  have hW' := hW
  obtain ⟨p, q, hA0, hV, rfl, hfz, hnd⟩ := hW
  have hA : DataW.TrodAll enc Try.prog W 0 (fun _ => true) true Try.f3.params.toList args.toList ds p := hA0
  rw [Try.params3] at hA hval hsz
  obtain ⟨v0, vs0, d0, ds0, p0, q0, hargs, rfl, rfl, h0, r0⟩ := trodAll_cons hA
  obtain ⟨v1, vs1, d1, ds1, p1, q1, rfl, rfl, rfl, h1, r1⟩ := trodAll_cons r0
  obtain ⟨rfl, rfl, rfl⟩ := trodAll_nil r1
  obtain rfl : args = #[v0, v1] := by cases args; simp_all
  obtain ⟨rfl, rfl⟩ := trodVars_none hV
  obtain ⟨a0, len0, cap0, rfl⟩ := okWide_slice Try.underlying22 (hval 0 22 v0 rfl rfl)
  have k0 := h0
  have lt0 : ∀ x ∈ p0, x.block < W.heap.size := by obtain ⟨m, hm⟩ := k0; exact DataW.trod_lt m _ _ _ hm
  obtain ⟨l0, w0⟩ := open_bytes u8 (by kernel_rfl) (by kernel_rfl) h0 hsz (j := 0) rfl rfl
  obtain ⟨a1, len1, cap1, rfl⟩ := okWide_slice Try.underlying22 (hval 1 22 v1 rfl rfl)
  have k1 := h1
  have lt1 : ∀ x ∈ p1, x.block < W.heap.size := by obtain ⟨m, hm⟩ := k1; exact DataW.trod_lt m _ _ _ hm
  obtain ⟨l1, w1⟩ := open_bytes u8 (by kernel_rfl) (by kernel_rfl) h1 hsz (j := 1) rfl rfl
  clear hsz
  clear hA0 hval0
  simp only [List.append_nil] at hW'
  refine (walk a0 len0 cap0 l0 a1 len1 cap1 l1 W w0 w1).mono fun e W' ⟨he, bel⟩ => ?_
  subst he
  exact ⟨_, rfl, _, _, _, [], _, [], hW', trodAll_mk1 (shut_bool Try.underlying4 _), (trodAll_cons_mk (Below.trod laidOut (by kernel_rfl) (of_decide_eq_true (by kernel_rfl)) k0 bel lt0) (trodAll_cons_mk (Below.trod laidOut (by kernel_rfl) (of_decide_eq_true (by kernel_rfl)) k1 bel lt1) trodAll_mk0)), rfl, bel.frame _, fun h => by cases h⟩

theorem over : Rows.aesBlocksRow.holds Try.pinned (OpenSpec.ofChange Rows.aesBlocksSpec) :=
  OpenClaim.holds_of_wide 3 Try.f3 rfl rfl rfl rfl rfl rfl rfl ⟨rfl, rfl, rfl, rfl, rfl⟩ rfl rfl rfl rfl rfl (by kernel_rfl) Try.func3 (by kernel_rfl)
    (of_decide_eq_true (by kernel_rfl)) (by unfold Func.isWrapper; first | (rw [if_pos (by decide +kernel)]; kernel_rfl) | (rw [if_neg (by decide +kernel)]; exact ⟨rfl, rfl⟩))
    (fun os started H enc _ => lifted os started H enc)

theorem proved : Rows.AesBlocksSaid := over
end Go.Proofs.Ytcbihjcnnfohmaa.aesBlocks
