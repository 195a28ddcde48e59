/- The law 'AesFirst' answers true for every input, and its arguments read afterwards as before; no condition. The frame follows the kit's skeleton; the walk is ours. -/
import Derived.Test.YtcbihjcnnfohmaaRows
import Derived.Test.YtcbihjcnnfohmaaArgs
import Derived.Test.YtcbihjcnnfohmaaAesLaw
import Derived.WalkKit
import Derived.ProofKit
import Derived.OpenShut
import Derived.ShutString
import Derived.ChangeOld
import Derived.Below
import Derived.SizedLaws
namespace Go.Proofs.Ytcbihjcnnfohmaa.aesFirst
open Go.ChangeShapes Go.WideShapes Go.ChangeAt Go.RowKit
set_option linter.unusedVariables false

theorem own : ownKnob Try.prog.godebug = none := by kernel_rfl
theorem laidOut : laidOutB Try.prog = true := by kernel_rfl

open Aes
set_option linter.unusedSimpArgs false
theorem words_take {n : Nat} {key : Blk} (hk : key.length = 4 * n) (h0 : 0 < n) : ∀ k, (words n key k).flatten.take (4 * n) = key
  | 0 => by rw [words_zero hk, List.take_of_length_le (by omega)]
  | k+1 => by
    rw [words, List.flatten_append, List.take_append_of_le_length (by rw [four_flat (words_four hk h0 k), words_length]; omega)]
    exact words_take hk h0 k
theorem first_key {n : Nat} {key : Blk} (hk : key.length = 4 * n) (h0 : 0 < n) {t : Nat} (ht : 16 * t + 16 ≤ 4 * n) : rkey (rounds n key) t = (key.drop (16 * t)).take 16 := by
  rw [← rounds_bytes hk h0 (by omega)]
  have := words_take hk h0 (more n)
  conv => rhs; rw [← this]
  rw [List.drop_take, List.take_take, Nat.min_eq_left (by omega)]
theorem str_app (a b : List UInt8) : str a ++ str b = str (a ++ b) := by
  apply ByteArray.ext
  simp [str]
theorem take_more (l : List UInt8) (t : Nat) : l.take (16 * t) ++ (l.drop (16 * t)).take 16 = l.take (16 * (t + 1)) := by rw [show 16 * (t + 1) = 16 * t + 16 by omega, List.take_add]

set_option maxRecDepth 100000 in
set_option maxHeartbeats 4000000 in
theorem walk (a0 : Option Addr) (len0 cap0 : Nat) (l0 : List UInt8) (w : World) (w0 : ArgB w a0 len0 cap0 l0) :
    Calls Try.prog 6 #[.slice a0 len0 cap0] w fun e w' => e = .returned (.bool true) ∧ Below w.heap.size w w' := by
  obtain ⟨hl0, hf0, hm0, hr0⟩ := w0
  by_cases hk : KeyOk l0
  · have h1632 : len0 = 16 ∨ len0 = 32 := by rw [← hl0]; exact hk
    have HL0 := Lib.hid hl0
    have HR0 := Lib.hid hr0
    have HK := Lib.hid hk
    clear hl0 hr0 hk
    rcases h1632 with rfl | rfl
    · go_enter Try.func6, Try.ntmps6
      go_wp2_with fail
      refine (small_any _).mono ?_
      rintro e w1 ⟨rfl, hb1⟩
      have hz1 := hb1.size
      go_wp2_with fail
      refine (new_any a0 _ cap0 l0 _ w.heap.size hz1 HL0.out (HR0.out.below hb1) HK.out).mono ?_
      rintro e w2 ⟨g, B2, rfl, hK2, hb2⟩
      have hbw2 := hb1.trans (hb2.mono hz1)
      have hz2 := hb2.size
      have HK2 := Lib.hid (show KeyIs w2 w1.heap.size B2 g l0 from .inl hK2)
      have HB2 := Lib.hid hbw2
      clear hK2 hb2 hbw2
      go_wp2_with fail
      refine (rounds_any w1.heap.size B2 g l0 _ HK2.out hz2).mono ?_
      rintro e w3 ⟨v, vs, B3, rfl, hO, hK3, hF3, hB3, hv3⟩
      rw [show l0.length / 4 = 4 by rw [HL0.out]] at hO
      have hvl : vs.length = 11 := by rw [hO.len, rounds_length]
      have hkl : l0.length = 4 * 4 := HL0.out
      obtain ⟨gv, off, cv, rfl, hcv, hcx, hvb, hvl2, hcell⟩ := hO.own.ptr (n := 11) hvl (by omega)
      have hb3 := HB2.out.trans (off_below HK2.out hF3 hz1 hz2)
      have hrow : ∀ t, t < 1 → ∃ A c, w3.cell? ⟨gv, off + t, none⟩ = some (.slice A 16 c) ∧ (convert 22 9 (.slice A 16 c)).run Try.prog w3 = .ok (.string (str ((l0.drop (16 * t)).take 16))) w3 := fun t ht => by
        have hfk := first_key hkl (by omega) (t := t) (by omega)
        have hl : (rounds 4 l0)[t]? = some (rkey (rounds 4 l0) t) := by
          have : t < (rounds 4 l0).length := by rw [rounds_length]; omega
          rw [List.getElem?_eq_getElem this]; simp [rkey, List.getD_eq_getElem?_getD, this]
        obtain ⟨A, c, hx, hr, _⟩ := hO.at_ hl
        have hlen : (rkey (rounds 4 l0) t).length = 16 := by rw [hfk]; simp; omega
        have hs := hr.str u8 9 Try.underlying9 c
        rw [hlen] at hx hs
        exact ⟨A, c, hcell t _ hx, by rw [hs, hfk]⟩
      have HROW := Lib.hid hrow
      have HB3 := Lib.hid hb3
      have HKL := Lib.hid hkl
      clear hO hK3 hF3 hB3 hv3 hvl hcell hb3 hrow hkl
      go_wp2_with fail
      go_loop [7, 8] (fun s i => ∃ t : Nat, t ≤ 1 ∧ i = .int .i64 (t : Int) ∧ s = .string (str (l0.take (16 * t)))) (fun _ i => 10 - (intOf i).toNat)
      case atStart => exact ⟨0, by omega, rfl, rfl⟩
      case round =>
        obtain ⟨t, ht, rfl, rfl⟩ := hrel
        by_cases hlt : t < 1
        · obtain ⟨A, c, hc, hs⟩ := HROW.out t hlt
          have hti : (t : Int) < 1 := by omega
          have ht11 : (t : Int) < 11 := by omega
          have hcat : str (l0.take (16 * t)) ++ str ((l0.drop (16 * t)).take 16) = str (l0.take (16 * (t + 1))) := by rw [str_app, take_more]
          have HT := Lib.hid hcat
          have hsz : (str (l0.take (16 * t))).size + (str ((l0.drop (16 * t)).take 16)).size ≤ 9223372036854775807 := by
            have e1 : (str (l0.take (16 * t))).size ≤ 32 := by show (l0.take (16 * t)).toArray.size ≤ 32; simp; have := HKL.out; omega
            have e2 : (str ((l0.drop (16 * t)).take 16)).size ≤ 32 := by show ((l0.drop (16 * t)).take 16).toArray.size ≤ 32; simp; omega
            omega
          generalize str (l0.take (16 * t)) = sa at *
          generalize str ((l0.drop (16 * t)).take 16) = sb at *
          go_wp2_with fail
          go_round
          case rel => exact ⟨t + 1, by omega, by go_num, by rw [← HT.out]⟩
          case measure => simp [intOf] <;> omega
        · have e1 : t = 1 := by omega
          subst e1
          rw [List.take_of_length_le (by rw [HKL.out]; omega)]
          have s0 := arg_str (c := cap0) HL0.out HR0.out HB3.out
          generalize str l0 = sa at *
          go_wp2_with fail
          go_ret
          exact ⟨rfl, HB3.out⟩
    · go_enter Try.func6, Try.ntmps6
      go_wp2_with fail
      refine (small_any _).mono ?_
      rintro e w1 ⟨rfl, hb1⟩
      have hz1 := hb1.size
      go_wp2_with fail
      refine (new_any a0 _ cap0 l0 _ w.heap.size hz1 HL0.out (HR0.out.below hb1) HK.out).mono ?_
      rintro e w2 ⟨g, B2, rfl, hK2, hb2⟩
      have hbw2 := hb1.trans (hb2.mono hz1)
      have hz2 := hb2.size
      have HK2 := Lib.hid (show KeyIs w2 w1.heap.size B2 g l0 from .inl hK2)
      have HB2 := Lib.hid hbw2
      clear hK2 hb2 hbw2
      go_wp2_with fail
      refine (rounds_any w1.heap.size B2 g l0 _ HK2.out hz2).mono ?_
      rintro e w3 ⟨v, vs, B3, rfl, hO, hK3, hF3, hB3, hv3⟩
      rw [show l0.length / 4 = 8 by rw [HL0.out]] at hO
      have hvl : vs.length = 15 := by rw [hO.len, rounds_length]
      have hkl : l0.length = 4 * 8 := HL0.out
      obtain ⟨gv, off, cv, rfl, hcv, hcx, hvb, hvl2, hcell⟩ := hO.own.ptr (n := 15) hvl (by omega)
      have hb3 := HB2.out.trans (off_below HK2.out hF3 hz1 hz2)
      have hrow : ∀ t, t < 2 → ∃ A c, w3.cell? ⟨gv, off + t, none⟩ = some (.slice A 16 c) ∧ (convert 22 9 (.slice A 16 c)).run Try.prog w3 = .ok (.string (str ((l0.drop (16 * t)).take 16))) w3 := fun t ht => by
        have hfk := first_key hkl (by omega) (t := t) (by omega)
        have hl : (rounds 8 l0)[t]? = some (rkey (rounds 8 l0) t) := by
          have : t < (rounds 8 l0).length := by rw [rounds_length]; omega
          rw [List.getElem?_eq_getElem this]; simp [rkey, List.getD_eq_getElem?_getD, this]
        obtain ⟨A, c, hx, hr, _⟩ := hO.at_ hl
        have hlen : (rkey (rounds 8 l0) t).length = 16 := by rw [hfk]; simp; omega
        have hs := hr.str u8 9 Try.underlying9 c
        rw [hlen] at hx hs
        exact ⟨A, c, hcell t _ hx, by rw [hs, hfk]⟩
      have HROW := Lib.hid hrow
      have HB3 := Lib.hid hb3
      have HKL := Lib.hid hkl
      clear hO hK3 hF3 hB3 hv3 hvl hcell hb3 hrow hkl
      go_wp2_with fail
      go_loop [7, 8] (fun s i => ∃ t : Nat, t ≤ 2 ∧ i = .int .i64 (t : Int) ∧ s = .string (str (l0.take (16 * t)))) (fun _ i => 10 - (intOf i).toNat)
      case atStart => exact ⟨0, by omega, rfl, rfl⟩
      case round =>
        obtain ⟨t, ht, rfl, rfl⟩ := hrel
        by_cases hlt : t < 2
        · obtain ⟨A, c, hc, hs⟩ := HROW.out t hlt
          have hti : (t : Int) < 2 := by omega
          have ht11 : (t : Int) < 15 := by omega
          have hcat : str (l0.take (16 * t)) ++ str ((l0.drop (16 * t)).take 16) = str (l0.take (16 * (t + 1))) := by rw [str_app, take_more]
          have HT := Lib.hid hcat
          have hsz : (str (l0.take (16 * t))).size + (str ((l0.drop (16 * t)).take 16)).size ≤ 9223372036854775807 := by
            have e1 : (str (l0.take (16 * t))).size ≤ 32 := by show (l0.take (16 * t)).toArray.size ≤ 32; simp; have := HKL.out; omega
            have e2 : (str ((l0.drop (16 * t)).take 16)).size ≤ 32 := by show ((l0.drop (16 * t)).take 16).toArray.size ≤ 32; simp; omega
            omega
          generalize str (l0.take (16 * t)) = sa at *
          generalize str ((l0.drop (16 * t)).take 16) = sb at *
          go_wp2_with fail
          go_round
          case rel => exact ⟨t + 1, by omega, by go_num, by rw [← HT.out]⟩
          case measure => simp [intOf] <;> omega
        · have e1 : t = 2 := by omega
          subst e1
          rw [List.take_of_length_le (by rw [HKL.out]; omega)]
          have s0 := arg_str (c := cap0) HL0.out HR0.out HB3.out
          generalize str l0 = sa at *
          go_wp2_with fail
          go_ret
          exact ⟨rfl, HB3.out⟩
  · have HL0 := Lib.hid hl0
    have HK := Lib.hid hk
    have n16 : ((len0 : Int) != 16) = true := by rw [bne_iff_ne]; intro e; exact hk (.inl (by rw [hl0]; omega))
    have n32 : ((len0 : Int) != 32) = true := by rw [bne_iff_ne]; intro e; exact hk (.inr (by rw [hl0]; omega))
    clear hk hl0
    go_enter Try.func6, Try.ntmps6
    go_wp2_with fail
    refine (small_any _).mono ?_
    rintro e w1 ⟨rfl, hb1⟩
    have hz1 := hb1.size
    go_wp2_with fail
    refine (new_no a0 len0 cap0 l0 _ HL0.out HK.out).mono ?_
    rintro e w2 ⟨rfl, rfl⟩
    go_wp2_with fail
    go_ret
    exact ⟨rfl, hb1⟩

set_option maxRecDepth 100000 in
theorem lifted (os : Os) (started : os.Started) (H : Type) (enc : TypeId × Value → H) :
    ReturnsInHanded {} Try.checked os 6 .any (Rows.aesFirstSpec.pre6 enc Try.prog Try.f6 Rows.aesFirstRow.domain false) (Rows.aesFirstSpec.post enc Try.prog Try.f6 false true false false) := by
  refine returnsInHanded_of_change_sized (C := Try.checked) own started (by kernel_rfl) Try.func6
    (ChangeSpec.witness6 (enc := enc) (C := Try.checked) false ⟨#[], #[.slice none 0 0], []⟩ 8 (by kernel_rfl) (by kernel_rfl) (by kernel_rfl) (by kernel_rfl)) ?_
  intro W base args ds gs before hval0 hW hcnd hsz0 _
  have hval : ∀ (j : Nat) t v, Try.f6.params[j]? = some t → args[j]? = some v → Value.okWide Try.prog W .any base t v := hval0
  have hsz : (DataW.weightsEach Try.prog (Try.f6.params.toList ++ Rows.aesFirstSpec.plain.varTypes Try.prog) (ds ++ gs)).all (· ≤ reachBytes) = true := hsz0
  clear hsz0
  have hW' := hW
  obtain ⟨p, q, hA0, hV, rfl, hfz, hnd⟩ := hW
  have hA : DataW.TrodAll enc Try.prog W 0 (fun _ => true) true Try.f6.params.toList args.toList ds p := hA0
  rw [Try.params6] at hA hval hsz
  obtain ⟨v0, vs0, d0, ds0, p0, q0, hargs, rfl, rfl, h0, r0⟩ := trodAll_cons hA
  obtain ⟨rfl, rfl, rfl⟩ := trodAll_nil r0
  obtain rfl : args = #[v0] := by cases args; simp_all
  obtain ⟨rfl, rfl⟩ := trodVars_none hV
  obtain ⟨a0, len0, cap0, rfl⟩ := okWide_slice Try.underlying22 (hval 0 22 v0 rfl rfl)
  have k0 := h0
  have lt0 : ∀ x ∈ p0, x.block < W.heap.size := by obtain ⟨m, hm⟩ := k0; exact DataW.trod_lt m _ _ _ hm
  obtain ⟨l0, w0⟩ := open_bytes u8 (by kernel_rfl) (by kernel_rfl) h0 hsz (j := 0) rfl rfl
  clear hsz
  clear hA0 hval0
  simp only [List.append_nil] at hW'
  refine (walk a0 len0 cap0 l0 W w0).mono fun e W' ⟨he, bel⟩ => ?_
  subst he
  exact ⟨_, rfl, _, _, _, [], _, [], hW', trodAll_mk1 (shut_bool Try.underlying4 _), (trodAll_cons_mk (Below.trod laidOut (by kernel_rfl) (of_decide_eq_true (by kernel_rfl)) k0 bel lt0) trodAll_mk0), rfl, bel.frame _, fun h => by cases h⟩

theorem over : Rows.aesFirstRow.holds Try.pinned (OpenSpec.ofChange Rows.aesFirstSpec) :=
  OpenClaim.holds_of_wide 6 Try.f6 rfl rfl rfl rfl rfl rfl rfl ⟨rfl, rfl, rfl, rfl, rfl⟩ rfl rfl rfl rfl rfl (by kernel_rfl) Try.func6 (by kernel_rfl)
    (of_decide_eq_true (by kernel_rfl)) (by unfold Func.isWrapper; first | (rw [if_pos (by decide +kernel)]; kernel_rfl) | (rw [if_neg (by decide +kernel)]; exact ⟨rfl, rfl⟩))
    (fun os started H enc _ => lifted os started H enc)

theorem proved : Rows.AesFirstSaid := over
end Go.Proofs.Ytcbihjcnnfohmaa.aesFirst
