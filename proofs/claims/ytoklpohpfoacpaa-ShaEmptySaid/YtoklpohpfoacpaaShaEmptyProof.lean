/- The law 'ShaEmpty' answers true for every input, and its arguments read afterwards as before; no condition. The frame follows the kit's skeleton; the walk is ours. -/
import Derived.Test.YtoklpohpfoacpaaRows
import Derived.Test.YtoklpohpfoacpaaArgs
import Derived.Test.YtoklpohpfoacpaaShaTop
import Derived.Deep.RegionWith
import Derived.Deep.DrawnRows
import Derived.WalkKit
import Derived.ProofKit
import Derived.OpenShut
import Derived.ShutString
import Derived.ChangeOld
import Derived.Below
import Derived.SizedLaws
namespace Go.Proofs.Ytoklpohpfoacpaa.shaEmpty
open Go.ChangeShapes Go.WideShapes Go.ChangeAt Go.RowKit
set_option linter.unusedVariables false

theorem own : ownKnob Try.prog.godebug = none := by kernel_rfl
theorem laidOut : laidOutB Try.prog = true := by kernel_rfl

open Sha
attribute [local go_sem ↓] Go.wp_at_zero Go.wp_at_succ
theorem and7 (n : Int) : ∃ m : Nat, m ≤ 7 ∧ bits BinOp.and IntKind.i64 n 7 = (m : Int) := by
  refine ⟨(BitVec.ofInt 64 n &&& BitVec.ofInt 64 7).toNat, ?_, ?_⟩
  · rw [BitVec.toNat_and]; exact Nat.and_le_right
  · show IntKind.i64.wrap ((BitVec.ofInt 64 n &&& BitVec.ofInt 64 7).toNat : Int) = _
    have : (BitVec.ofInt 64 n &&& BitVec.ofInt 64 7).toNat ≤ 7 := by rw [BitVec.toNat_and]; exact Nat.and_le_right
    exact i64_wraps _ (by omega) (by omega)
theorem elrows : El Try.prog 28 22 (.slice none 0 0) 24 := ⟨Try.underlying28, by kernel_rfl, rfl⟩
def nilP : Part := ⟨none, 0, 0, []⟩
theorem src1 (w : World) (v : Value) (T : TypeId) : 0 < 1 → ∃ ad, (some ⟨w.heap.size, 0, none⟩ : Option Addr) = some ad ∧ ∀ j u, ([v] : List Value)[j]? = some u → (w.alloc (.cells #[v] T)).cell? (ad.add j) = some u := fun _ => ⟨_, rfl, fun j u hj => by
  rw [addr_add, Nat.zero_add, cell_of_row _ _ j _ _ (0, 0) (heap_alloc_new w _)]; simpa using hj⟩
theorem nils (k : Nat) : bytesOf (List.replicate k nilP) = [] := by
  induction k with
  | zero => rfl
  | succ k ih => rw [List.replicate_succ]; show [] ++ bytesOf (List.replicate k nilP) = []; rw [ih]; rfl
theorem bytes_app (a b : List Part) : bytesOf (a ++ b) = bytesOf a ++ bytesOf b := by simp only [bytesOf, List.map_append, List.flatten_append]
theorem lenN {w : World} {e : TypeId} {base n : Nat} {v : Value} {xs : List Value} (h : OwnV w e base v xs) (hn : xs.length = n) : ∃ A c, v = .slice A n c ∧ n ≤ c ∧ c ≤ 9223372036854775807 := by
  subst hn
  obtain ⟨A, c, h1, h2, h3, _⟩ := h.len
  exact ⟨A, c, h1, h2, h3⟩
theorem sha_len (l : List UInt8) : (sha l).length = 32 := by
  unfold sha
  obtain ⟨a, b, c, d, e, f, g, i, h, _⟩ := (blocks_eight ((padded l).length / 64) hw_eight (padded l)).parts
  rw [h]; rfl

set_option maxRecDepth 100000 in
set_option maxHeartbeats 2000000 in
theorem walk (a0 : Option Addr) (len0 cap0 : Nat) (l0 : List UInt8) (a1 : Int) (w : World) (w0 : ArgB w a0 len0 cap0 l0) (w1 : (Lit.int .i64 a1).wf = true) :
    Calls Try.prog 5 #[.slice a0 len0 cap0, .int .i64 a1] w fun e w' => e = .returned (.bool true) ∧ Below w.heap.size w w' := by
  obtain ⟨hl0, hf0, hm0, hr0⟩ := w0
  obtain ⟨hb10, hb11⟩ := bounds_i64 w1
  clear w1
  by_cases hbig : 16384 < len0
  · go_enter Try.func5, Try.ntmps5
    go_wp2_with (go_at_call 10; refine (small_any _).mono ?_; rintro e w1 ⟨rfl, hb1⟩)
    go_ret
    exact ⟨rfl, hb1⟩
  · obtain ⟨m, hm7, hm⟩ := and7 a1
    have h14 : len0 ≤ 16384 := by omega
    have HL := Lib.hid hl0
    clear hbig hl0
    go_enter Try.func5, Try.ntmps5
    go_wp2_with (go_at_call 10; refine (small_any _).mono ?_; rintro e w1 ⟨rfl, hb1⟩)
    have hO0 : OwnV w1 22 w1.heap.size (.slice none 0 0) ((List.replicate 0 nilP).map Part.val) := OwnV.nil _ _ _
    have hbl := Below.refl w1.heap.size w1
    go_loopw [6, 7] (fun v i wr => ∃ k : Nat, k ≤ m ∧ i = .int .i64 k ∧ OwnV wr 22 w1.heap.size v ((List.replicate k nilP).map Part.val) ∧ Below w1.heap.size w1 wr) (fun _ i _ => m - (intOf i).toNat)
    case atStart => exact ⟨0, by omega, rfl, hO0, hbl⟩
    case round =>
      obtain ⟨k, hk, rfl, hO, hbr⟩ := hrel
      clear hO0 hbl
      have hrl : ((List.replicate k nilP).map Part.val).length = k := by simp
      obtain ⟨Av, cv, rfl, hcv, _⟩ := lenN hO hrl
      have HRL := Lib.hid hrl
      by_cases hlt : k < m
      · have hsn : (List.replicate (k+1) nilP).map Part.val = (List.replicate k nilP).map Part.val ++ [.slice none 0 0] := by rw [List.replicate_succ', List.map_append]; rfl
        have HSN := Lib.hid hsn
        have hOa := hO.alloc (.cells #[.slice none 0 0] 22)
        have hba := hbr.alloc hbr.size (.cells #[.slice none 0 0] 22)
        have hsa := hba.size
        have hsrc : 0 < 1 → ∃ ad, (some ⟨wr.heap.size, 0, none⟩ : Option Addr) = some ad ∧ ∀ j u, ([.slice none 0 0] : List Value)[j]? = some u → (wr.alloc (.cells #[.slice none 0 0] 22)).cell? (ad.add j) = some u := fun _ => ⟨_, rfl, fun j u hj => by
          rw [addr_add, Nat.zero_add, cell_of_row _ _ j _ _ (0, 0) (heap_alloc_new wr _)]; simpa using hj⟩
        have HSRC := Lib.hid hsrc
        clear hsn hrl hO hbr hsrc
        go_wp2_with (with_reducible refine at_slot 22 ?_
                     refine wpList_append_v elrows rfl (.tmp 20) (.tmp 21) rfl w1.heap.size _ _ _ 1 1 [.slice none 0 0] rfl rfl hOa rfl HSRC.out (by simp [Value.oneCell']) (by rw [HRL.out]; omega) (by rw [HRL.out]; omega) hsa ?_
                     intro v5 w5 hO5 hg5 hat5
                     have hb5 := hba.grown hg5 hsa (fun x hx => (hOa.lt x hx).1)
                     obtain ⟨A5, c5, rfl, _, _⟩ := lenN (n := k + 1) hO5 (by rw [List.length_append, HRL.out]; rfl))
        go_roundw
        case rel => exact ⟨k + 1, by omega, by go_num, by rw [HSN.out]; exact hO5, hb5⟩
        case measure => simp [intOf]; omega
      · have hkm : k = m := by omega
        subst hkm
        have hps : bytesOf (List.replicate k nilP ++ [(⟨a0, len0, cap0, l0⟩ : Part)] ++ [nilP]) = l0 := by
          rw [bytes_app, bytes_app, nils]; simp [bytesOf, nilP]
        have hval : ((List.replicate k nilP).map Part.val ++ [.slice a0 len0 cap0]) ++ [.slice none 0 0] = (List.replicate k nilP ++ [(⟨a0, len0, cap0, l0⟩ : Part)] ++ [nilP]).map Part.val := by
          rw [List.map_append, List.map_append]; rfl
        have hbw0 := hb1.trans (hbr.mono hb1.size)
        have HPS := Lib.hid hps
        have HVAL := Lib.hid hval
        have hzr := hbw0.size
        have HO := Lib.hid hO
        have HBR := Lib.hid hbr
        have hnl : ∀ p ∈ List.replicate k nilP ++ [(⟨a0, len0, cap0, l0⟩ : Part)] ++ [nilP], p.l.length = p.n ∧ p.n ≤ p.c ∧ p.c ≤ 9223372036854775807 ∧ (p = nilP ∨ p = (⟨a0, len0, cap0, l0⟩ : Part)) := by
          intro p hp
          simp only [List.mem_append, List.mem_replicate, List.mem_singleton] at hp
          rcases hp with (⟨_, rfl⟩ | rfl) | rfl
          · exact ⟨rfl, Nat.le_refl _, (by show 0 ≤ 9223372036854775807; omega), .inl rfl⟩
          · exact ⟨HL.out, hf0, (by show cap0 ≤ 9223372036854775807; omega), .inr rfl⟩
          · exact ⟨rfl, Nat.le_refl _, (by show 0 ≤ 9223372036854775807; omega), .inl rfl⟩
        have HNL := Lib.hid hnl
        have hE := sha_len l0
        have HE := Lib.hid hE
        clear hps hval hrl hO hbr hnl hE
        go_wp2_with (first
          | (with_reducible refine at_slot 26 ?_
             refine wpList_append_v elrows rfl (.tmp 23) (.tmp 25) rfl w1.heap.size _ _ _ 1 1 [.slice a0 len0 cap0] rfl rfl (HO.out.alloc _) rfl (src1 wr _ _) (by simp [Value.oneCell']) (by rw [HRL.out]; omega) (by rw [HRL.out]; omega) (by have := HBR.out.size; simp; omega) ?_
             intro v5 w5 hO5 hg5 hat5
             have hb5 := (HBR.out.alloc HBR.out.size (.cells #[.slice a0 len0 cap0] 22)).grown hg5 (by have := HBR.out.size; simp; omega) (fun x hx => ((HO.out.alloc (.cells #[.slice a0 len0 cap0] 22)).lt x hx).1)
             obtain ⟨A5, c5, rfl, _, _⟩ := lenN (n := k + 1) hO5 (by rw [List.length_append, HRL.out]; rfl)
             have HO5 := Lib.hid hO5
             have HB5 := Lib.hid hb5
             clear hO5 hg5 hat5 hb5)
          | (with_reducible refine at_slot 28 ?_
             refine wpList_append_v elrows rfl (.tmp 26) (.tmp 27) rfl w1.heap.size _ _ _ 1 1 [.slice none 0 0] rfl rfl (HO5.out.alloc _) rfl (src1 w5 _ _) (by simp [Value.oneCell']) (by rw [List.length_append, HRL.out]; simp; omega) (by rw [List.length_append, HRL.out]; simp; omega) (by have := HB5.out.size; simp; omega) ?_
             intro v6 w6 hO6 hg6 hat6
             have hb6 := (HB5.out.alloc HB5.out.size (.cells #[.slice none 0 0] 22)).grown hg6 (by have := HB5.out.size; simp; omega) (fun x hx => ((HO5.out.alloc (.cells #[.slice none 0 0] 22)).lt x hx).1)
             obtain ⟨A6, c6, rfl, _, _⟩ := lenN (n := k + 1 + 1) hO6 (by rw [List.length_append, List.length_append, HRL.out]; rfl)
             rw [HVAL.out] at hO6
             have hbw6 : Below w.heap.size w w6 := hb1.trans (hb6.mono hb1.size)
             have hz6 := hbw6.size
             have HO6 := Lib.hid hO6
             clear hO6 hg6 hat6 hb6)
          | (go_at_call 12
             have hq := parts_new (w := w6) (S := fun k => k < w6.heap.size) (T' := fun x => x < (w6.alloc (.cells #[.slice a0 len0 cap0] 22)).heap.size) 22 [(⟨a0, len0, cap0, l0⟩ : Part)]
               (by intro p hp; simp only [List.mem_singleton] at hp; subst hp; exact ⟨HL.out, hf0, (by show cap0 ≤ 9223372036854775807; omega), ((hr0.below hbw6).more hz6).s (fun _ h => h)⟩) (fun _ h => h) (by simp) (fun x hx => by simp; omega)
             refine (shasum_any _ 1 1 [(⟨a0, len0, cap0, l0⟩ : Part)] _ hq rfl (by omega) (by simp [bytesOf]; have := HL.out; omega)).mono ?_
             rw [show bytesOf [(⟨a0, len0, cap0, l0⟩ : Part)] = l0 by simp [bytesOf]]
             rintro e w7 ⟨v7, rfl, hO7, hb7⟩
             obtain ⟨A7, c7, rfl, hR7, _⟩ := hO7.form
             rw [HE.out] at hO7 ⊢
             have hb67 : Below w6.heap.size w6 w7 := ((Below.refl _ _).alloc (Nat.le_refl _) _).trans (hb7.mono (by simp))
             have hbw7 := hbw6.trans (hb67.mono hz6)
             have hz7 := hbw7.size
             have HO67 := Lib.hid (HO6.out.below_ hb67)
             have hs7 := hR7.str u8 9 Try.underlying9 c7
             have hs7d : (convert 22 9 (.slice A7 (sha l0).length c7)).run Try.prog w7.drew = .ok (.string (str (sha l0))) w7.drew := Rd.str u8 9 Try.underlying9 (w := w7.drew) (B := w7.heap.size) hR7 c7
             rw [HE.out] at hs7 hs7d
             have HR7 := Lib.hid hR7
             clear hO7 hb7 hb67 hq hR7))
        go_region_with (first
          | (go_at_call 12
             have hq := own_parts (w := w7.drew) (S := fun x => x < w7.heap.size) HO67.out (fun x _ hx => hx)
               (by
                 intro p hp
                 obtain ⟨h1, h2, h3, h4⟩ := HNL.out p hp
                 refine ⟨h1, h2, h3, ?_⟩
                 rcases h4 with rfl | rfl
                 · exact RdS.nil _ _ _
                 · exact Rd.s (w := w7.drew) ((hr0.below hbw7).more hz7) (fun _ h => h))
             refine (shasum_any A6 (k + 1 + 1) c6 _ _ hq (by simp) (by omega) (by rw [HPS.out]; have := HL.out; omega)).mono ?_
             rw [HPS.out]
             rintro e w8 ⟨v8, rfl, hO8, hb8⟩
             obtain ⟨A8, c8, rfl, hR8, _⟩ := hO8.form
             have hb78 : Below w7.heap.size w7 w8 := (Below.refl _ _).drew.trans (hb8.mono (by simp))
             have hbw8 := hbw7.trans (hb78.mono hz7)
             have hs8 := hR8.str u8 9 Try.underlying9 c8
             have hs78 := (HR7.out.below hb78).str u8 9 Try.underlying9 c7
             rw [HE.out] at hs8 hs78 ⊢
             clear hO8 hb8 hq hb78 hR8))
        all_goals
          go_simp
          go_wp2
          go_ret
          exact ⟨rfl, hbw8⟩

set_option maxRecDepth 100000 in
theorem lifted (os : Os) (started : os.Started) (H : Type) (enc : TypeId × Value → H) :
    ReturnsInHanded {} Try.checked os 5 .any (Rows.shaEmptySpec.pre6 enc Try.prog Try.f5 Rows.shaEmptyRow.domain false) (Rows.shaEmptySpec.post enc Try.prog Try.f5 false true false false) := by
  refine returnsInHanded_of_change_sized (C := Try.checked) own started (by kernel_rfl) Try.func5
    (ChangeSpec.witness6 (enc := enc) (C := Try.checked) false ⟨#[], #[.slice none 0 0, .int .i64 0], []⟩ 8 (by kernel_rfl) (by kernel_rfl) (by kernel_rfl) (by kernel_rfl)) ?_
  intro W base args ds gs before hval0 hW hcnd hsz0 _
  have hval : ∀ (j : Nat) t v, Try.f5.params[j]? = some t → args[j]? = some v → Value.okWide Try.prog W .any base t v := hval0
  have hsz : (DataW.weightsEach Try.prog (Try.f5.params.toList ++ Rows.shaEmptySpec.plain.varTypes Try.prog) (ds ++ gs)).all (· ≤ reachBytes) = true := hsz0
  clear hsz0
  have hW' := hW
  obtain ⟨p, q, hA0, hV, rfl, hfz, hnd⟩ := hW
  have hA : DataW.TrodAll enc Try.prog W 0 (fun _ => true) true Try.f5.params.toList args.toList ds p := hA0
  rw [Try.params5] at hA hval hsz
  obtain ⟨v0, vs0, d0, ds0, p0, q0, hargs, rfl, rfl, h0, r0⟩ := trodAll_cons hA
  obtain ⟨v1, vs1, d1, ds1, p1, q1, rfl, rfl, rfl, h1, r1⟩ := trodAll_cons r0
  obtain ⟨rfl, rfl, rfl⟩ := trodAll_nil r1
  obtain rfl : args = #[v0, v1] := by cases args; simp_all
  obtain ⟨rfl, rfl⟩ := trodVars_none hV
  obtain ⟨a0, len0, cap0, rfl⟩ := okWide_slice Try.underlying22 (hval 0 22 v0 rfl rfl)
  have k0 := h0
  have lt0 : ∀ x ∈ p0, x.block < W.heap.size := by obtain ⟨m, hm⟩ := k0; exact DataW.trod_lt m _ _ _ hm
  obtain ⟨l0, w0⟩ := open_bytes u8 (by kernel_rfl) (by kernel_rfl) h0 hsz (j := 0) rfl rfl
  clear hsz
  obtain ⟨a1, rfl, rfl, rfl, w1⟩ := open_int Try.underlying3 (hval 1 3 v1 rfl rfl) h1
  clear hA0 hval0
  simp only [List.append_nil] at hW'
  refine (walk a0 len0 cap0 l0 a1 W w0 w1).mono fun e W' ⟨he, bel⟩ => ?_
  subst he
  exact ⟨_, rfl, _, _, _, [], _, [], hW', trodAll_mk1 (shut_bool Try.underlying4 _), (trodAll_cons_mk (Below.trod laidOut (by kernel_rfl) (of_decide_eq_true (by kernel_rfl)) k0 bel lt0) (trodAll_cons_mk (shut_int Try.underlying3 w1) trodAll_mk0)), rfl, bel.frame _, fun h => by cases h⟩

theorem over : Rows.shaEmptyRow.holds Try.pinned (OpenSpec.ofChange Rows.shaEmptySpec) :=
  OpenClaim.holds_of_wide 5 Try.f5 rfl rfl rfl rfl rfl rfl rfl ⟨rfl, rfl, rfl, rfl, rfl⟩ rfl rfl rfl rfl rfl (by kernel_rfl) Try.func5 (by kernel_rfl)
    (of_decide_eq_true (by kernel_rfl)) (by unfold Func.isWrapper; first | (rw [if_pos (by decide +kernel)]; kernel_rfl) | (rw [if_neg (by decide +kernel)]; exact ⟨rfl, rfl⟩))
    (fun os started H enc _ => lifted os started H enc)

theorem proved : Rows.ShaEmptySaid := over
end Go.Proofs.Ytoklpohpfoacpaa.shaEmpty
