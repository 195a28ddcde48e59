/- The law 'CheckAffine' answers true for every input, and its arguments read afterwards as before; no condition. The frame follows the kit's skeleton; the walk is ours. -/
import Derived.Test.YtndpaehcjaejpaaRows
import Derived.Test.YtndpaehcjaejpaaArgs
import Derived.Test.YtndpaehcjaejpaaCheckSmall
import Derived.Test.YtndpaehcjaejpaaCrcMore
import Derived.Test.YtndpaehcjaejpaaDoes
import Derived.Deep.RegionWith
import Derived.Deep.RegionHeld3
import Derived.Deep.DrawnRows
import Derived.WalkKit
import Derived.ProofKit
import Derived.OpenShut
import Derived.ShutString
import Derived.ChangeOld
import Derived.Below
import Derived.SizedLaws
namespace Go.Proofs.Ytndpaehcjaejpaa.checkAffine
open Go.ChangeShapes Go.WideShapes Go.ChangeAt Go.RowKit
set_option linter.unusedVariables false

theorem own : ownKnob Try.prog.godebug = none := by kernel_rfl
theorem laidOut : laidOutB Try.prog = true := by kernel_rfl

open Crc
attribute [local go_sem ↓] Go.wp_at_zero Go.wp_at_succ
set_option linter.unusedSimpArgs false
theorem parts_S {w : World} {A B : Option Addr} {n c : Nat} {l : List UInt8} (h : PartsS w (fun k => k < w.heap.size) A [⟨B, n, c, l⟩]) : Crc.Parts w w.heap.size A [⟨B, n, c, l⟩] := by
  refine ⟨fun h0 => ?_, fun p hp => ?_⟩
  · obtain ⟨ad, h1, h2, h3⟩ := h.at_ (by simp)
    refine ⟨ad, h1, h2, fun j hj => ?_⟩
    have hj0 : j = 0 := by simp at hj; omega
    subst hj0
    exact h3 0 (by simp)
  · simp only [List.mem_singleton] at hp
    subst hp
    obtain ⟨h1, h2, h3, h4⟩ := h.part _ (List.mem_singleton.2 rfl)
    exact ⟨h1, by show n ≤ _; simp only at h2 h3; omega, fun h0 => h4 h0⟩
theorem xor_u8' (x y : UInt8) : bits BinOp.xor IntKind.u8 ((x.toNat : Nat) : Int) ((y.toNat : Nat) : Int) = (((x ^^^ y).toNat : Nat) : Int) := by
  have h1 := x.toNat_lt; have h2 := y.toNat_lt
  rw [u8_xor_nat _ _ h1 h2, UInt8.toNat_xor]
theorem xor_i64 (a b : Nat) (ha : a < 4294967296) (hb : b < 4294967296) : bits BinOp.xor IntKind.i64 (a : Int) (b : Int) = ((a ^^^ b : Nat) : Int) := by
  show IntKind.i64.wrap ((BitVec.ofInt 64 (a : Int) ^^^ BitVec.ofInt 64 (b : Int)).toNat : Int) = _
  rw [BitVec.toNat_xor]
  have e : ∀ n : Nat, n < 2 ^ 63 → (BitVec.ofInt 64 (n : Int)).toNat = n := fun n hn => by
    rw [BitVec.toNat_ofInt]; omega
  rw [e a (by omega), e b (by omega)]
  have := Nat.xor_lt_two_pow (n := 32) ha hb
  exact IntWalk.i64_in _ (by omega)
theorem take_to {w : World} {B : Nat} {A : Option Addr} {n c k : Nat} {l : List UInt8} (hr : Rd w B A l) (hn : l.length = n) (hk : k ≤ n) (hc : n ≤ c) : ∃ A', (∀ w' : World, (Instr.slice 22 (.slice A n c) none (some (.int .i64 (k : Int))) none).run Try.prog w' = .ok (.slice A' k c) w') ∧ Rd w B A' (l.take k) := by
  have hu : Try.prog.underlying 22 = some (.slice (Try.prog.elem 22)) := by kernel_rfl
  have hz : ∀ w, (sizeOf (Try.prog.elem 22)).run Try.prog w = .ok 1 w := fun w => by kernel_rfl
  refine ⟨if c = 0 then A else A.map (·.add 0), fun w' => ?_, ?_⟩
  · rw [run_slice_h w' _ _ _ _ hu .i64 (k : Int) (by omega) (by omega), hz, Result.andThen_ok, sliced]
    simp
  · have := (hr.drop 0 (cap := c) (by omega)).take k
    rwa [List.drop_zero] at this
theorem bv_int (x : UInt8) : bv x = .int .u8 ((x.toNat : Nat) : Int) := rfl
theorem run_min4 (w : World) (ts : Array TypeId) (t : TypeId) (x y z u : Int) : (Builtin.min_ ts t #[.int .i64 x, .int .i64 y, .int .i64 z, .int .i64 u]).run Try.prog w = .ok (.int .i64 (min (min (min x y) z) u)) w := by
  have e : ∀ a b : Int, (if b < a then b else a) = min a b := fun a b => by split <;> omega
  simp [Builtin.min_, Builtin.min2, e]
theorem src1 (w : World) (v : Value) (T : TypeId) : 0 < 1 → ∃ ad, (some ⟨w.heap.size, 0, none⟩ : Option Addr) = some ad ∧ ∀ j u, ([v] : List Value)[j]? = some u → (w.alloc (.cells #[v] T)).cell? (ad.add j) = some u := fun _ => ⟨_, rfl, fun j u hj => by
  rw [addr_add, Nat.zero_add, cell_of_row _ _ j _ _ (0, 0) (heap_alloc_new w _)]; simpa using hj⟩
theorem nxt {l : List UInt8} {k : Nat} (h : k < l.length) : l.take (k + 1) = l.take k ++ [l[k]] := by rw [List.take_add_one, List.getElem?_eq_getElem h]; rfl
theorem x3_next {a b c : List UInt8} {k : Nat} (ha : k < a.length) (hb : k < b.length) (hc : k < c.length) : x3 (a.take (k + 1)) (b.take (k + 1)) (c.take (k + 1)) = x3 (a.take k) (b.take k) (c.take k) ++ [a[k] ^^^ b[k] ^^^ c[k]] := by
  rw [nxt ha, nxt hb, nxt hc, x3_snoc]
  · simp; omega
  · simp; omega
theorem x3_len {a b c : List UInt8} : ∀ {k}, k ≤ a.length → k ≤ b.length → k ≤ c.length → (x3 (a.take k) (b.take k) (c.take k)).length = k := by
  intro k
  induction k with
  | zero => intros; simp [x3]
  | succ k ih => intro h1 h2 h3; rw [x3_next (by omega) (by omega) (by omega), List.length_append, ih (by omega) (by omega) (by omega)]; rfl

set_option maxRecDepth 100000 in
set_option maxHeartbeats 8000000 in
theorem walk (a0 : Option Addr) (len0 cap0 : Nat) (l0 : List UInt8) (a1 : Option Addr) (len1 cap1 : Nat) (l1 : List UInt8) (a2 : Option Addr) (len2 cap2 : Nat) (l2 : List UInt8) (w : World) (w0 : ArgB w a0 len0 cap0 l0) (w1 : ArgB w a1 len1 cap1 l1) (w2 : ArgB w a2 len2 cap2 l2) :
    Calls Try.prog 7 #[.slice a0 len0 cap0, .slice a1 len1 cap1, .slice a2 len2 cap2] w fun e w' => e = .returned (.bool true) ∧ Below w.heap.size w w' := by
  obtain ⟨hl0, hf0, hm0, hr0⟩ := w0
  obtain ⟨hl1, hf1, hm1, hr1⟩ := w1
  obtain ⟨hl2, hf2, hm2, hr2⟩ := w2
  have HL0 := Lib.hid hl0
  have HR0 := Lib.hid hr0
  have HL1 := Lib.hid hl1
  have HR1 := Lib.hid hr1
  have HL2 := Lib.hid hl2
  have HR2 := Lib.hid hr2
  have HF0 := Lib.hid hf0
  have HF1 := Lib.hid hf1
  have HF2 := Lib.hid hf2
  have HM0 := Lib.hid hm0
  have HM1 := Lib.hid hm1
  have HM2 := Lib.hid hm2
  clear hl0 hr0 hl1 hr1 hl2 hr2 hf0 hf1 hf2 hm0 hm1 hm2
  obtain ⟨N, hN⟩ : ∃ N, min (min (min len0 len1) len2) 4096 = N := ⟨_, rfl⟩
  have HN0 := Lib.hid (show N ≤ len0 by omega)
  have HN1 := Lib.hid (show N ≤ len1 by omega)
  have HN2 := Lib.hid (show N ≤ len2 by omega)
  have HN4 := Lib.hid (show N ≤ 4096 by omega)
  have HNE := Lib.hid (show min (min (min (len0 : Int) (len1 : Int)) (len2 : Int)) 4096 = (N : Int) by omega)
  clear hN
  have hmin : ∀ (w : World) (ts : Array TypeId) (t : TypeId), (Builtin.min_ ts t #[.int .i64 (len0 : Int), .int .i64 (len1 : Int), .int .i64 (len2 : Int), .int .i64 4096]).run Try.prog w = .ok (.int .i64 (N : Int)) w := fun w ts t => by rw [run_min4, HNE.out]
  go_enter Try.func7, Try.ntmps7
  go_wp2_with fail
  refine (small_any _).mono ?_
  rintro e w1 ⟨rfl, hb1⟩
  have HB1 := Lib.hid hb1
  clear hb1
  go_wp2_with fail
  clear hmin
  go_loopw [9, 10] (fun ov jv wi => ∃ k : Nat, k ≤ N ∧ jv = .int .i64 (k : Int) ∧ OwnV wi 5 w.heap.size ov (bvs (x3 (l0.take k) (l1.take k) (l2.take k))) ∧ Below w.heap.size w wi) (fun _ jv _ => N - (intOf jv).toNat)
  case atStart => exact ⟨0, by omega, rfl, OwnV.nil _ _ _, HB1.out⟩
  case round =>
    obtain ⟨k, hk, rfl, hO, hB⟩ := hrel
    clear HB1
    have hzr := hB.size
    have HO := Lib.hid hO
    have HB := Lib.hid hB
    clear hO hB
    obtain ⟨wq, rfl⟩ : ∃ wq : World, wq = wr := ⟨_, rfl⟩
    by_cases hlt : k < N
    · have k0 : k < l0.length := by rw [HL0.out]; have := HN0.out; omega
      have k1 : k < l1.length := by rw [HL1.out]; have := HN1.out; omega
      have k2 : k < l2.length := by rw [HL2.out]; have := HN2.out; omega
      obtain ⟨ad0, hA0, hs0, hc0⟩ := HR0.out.at_ k0
      obtain ⟨ad1, hA1, hs1, hc1⟩ := HR1.out.at_ k1
      obtain ⟨ad2, hA2, hs2, hc2⟩ := HR2.out.at_ k2
      subst hA0 hA1 hA2
      have hx1 := xor_u8' l0[k] l1[k]
      have hx2 := xor_u8' (l0[k] ^^^ l1[k]) l2[k]
      have hnx : bvs (x3 (l0.take (k + 1)) (l1.take (k + 1)) (l2.take (k + 1))) = bvs (x3 (l0.take k) (l1.take k) (l2.take k)) ++ [.int .u8 (((l0[k] ^^^ l1[k] ^^^ l2[k]).toNat : Nat) : Int)] := by
        rw [x3_next k0 k1 k2, bvs_append]; rfl
      have hln : (bvs (x3 (l0.take k) (l1.take k) (l2.take k))).length ≤ 4096 := by
        rw [bvs_length, x3_len (by omega) (by omega) (by omega)]; have := HN4.out; omega
      rw [bv_int] at hc0 hc1 hc2
      generalize (l0[k] ^^^ l1[k] ^^^ l2[k]).toNat = z2 at *
      generalize (l0[k] ^^^ l1[k]).toNat = z1 at *
      generalize (l0[k]).toNat = y0 at *
      generalize (l1[k]).toNat = y1 at *
      generalize (l2[k]).toNat = y2 at *
      have HNX := Lib.hid hnx
      have HLN := Lib.hid hln
      have HC0 := Lib.hid hc0
      have HC1 := Lib.hid hc1
      have HC2 := Lib.hid hc2
      have b0 : (k : Int) < (len0 : Int) := by have := HN0.out; omega
      have b1 : (k : Int) < (len1 : Int) := by have := HN1.out; omega
      have b2 : (k : Int) < (len2 : Int) := by have := HN2.out; omega
      have c0 := (HB.out.cell (p := ad0.add k) (by rw [add_block]; exact hs0)).trans hc0
      have c1 := (HB.out.cell (p := ad1.add k) (by rw [add_block]; exact hs1)).trans hc1
      have c2 := (HB.out.cell (p := ad2.add k) (by rw [add_block]; exact hs2)).trans hc2
      have hba := HB.out.drew.alloc hzr (.cells #[.int .u8 (z2 : Int)] 5)
      have hoa : OwnV (wq.drew.alloc (.cells #[.int .u8 (z2 : Int)] 5)) 5 w.heap.size u9 (bvs (x3 (l0.take k) (l1.take k) (l2.take k))) := (HO.out.drew).alloc _
      have d0 := (hba.cell (p := ad0.add k) (by rw [add_block]; exact hs0)).trans hc0
      have d1 := (hba.cell (p := ad1.add k) (by rw [add_block]; exact hs1)).trans hc1
      have d2 := (hba.cell (p := ad2.add k) (by rw [add_block]; exact hs2)).trans hc2
      have HBA := Lib.hid hba
      have HOA := Lib.hid hoa
      have hki : (k : Int) < (N : Int) := by omega
      have hk4 : k < 4096 := by have := HN4.out; omega
      obtain ⟨A9, c9, hv9, _⟩ := HO.out.len
      generalize (bvs (x3 (l0.take k) (l1.take k) (l2.take k))) = X at *
      obtain ⟨n9, hn9⟩ : ∃ n, X.length = n := ⟨_, rfl⟩
      rw [hn9] at hv9
      subst hv9
      clear hnx hln hc0 hc1 hc2 hba hoa k0 k1 k2 hn9
      go_wp2_with fail
      refine wp_region_held_drew (S := fun w' => w'.cell? (ad0.add k) = some (.int .u8 (y0 : Int)) ∧ w'.cell? (ad1.add k) = some (.int .u8 (y1 : Int)) ∧ w'.cell? (ad2.add k) = some (.int .u8 (y2 : Int))) (by kernel_rfl) (⟨c0, c1, c2⟩) (fun hHeld => ?_)
      refine wpAnyH_take (i := 0) (v := ?_) rfl (by kernel_rfl) (by kernel_rfl) (by kernel_rfl) (fun _ _ _ h => h) (Or.inl ⟨by kernel_rfl, ?_⟩) (by assumption) ?_
      rotate_left
      · (intro w hSw; (try dsimp only at hSw); go_simp; first | done | with_reducible rfl)
      (try simp only [Act.put, List.setIfInBounds_toArray, List.set_cons_zero, List.set_cons_succ, List.getElem_toArray, List.getElem_cons_zero, List.getElem_cons_succ])
      refine wpAnyH_take (i := 1) (v := ?_) rfl (by kernel_rfl) (by kernel_rfl) (by kernel_rfl) (fun _ _ _ h => h) (Or.inl ⟨by kernel_rfl, ?_⟩) (by assumption) ?_
      rotate_left
      · (intro w hSw; (try dsimp only at hSw); go_simp; first | done | with_reducible rfl)
      (try simp only [Act.put, List.setIfInBounds_toArray, List.set_cons_zero, List.set_cons_succ, List.getElem_toArray, List.getElem_cons_zero, List.getElem_cons_succ])
      refine wpAnyH_take (i := 2) (v := ?_) rfl (by kernel_rfl) (by kernel_rfl) (by kernel_rfl) (fun _ _ _ h => h) (Or.inl ⟨by kernel_rfl, ?_⟩) (by assumption) ?_
      rotate_left
      · (intro w hSw; (try dsimp only at hSw); go_simp; first | done | with_reducible rfl)
      (try simp only [Act.put, List.setIfInBounds_toArray, List.set_cons_zero, List.set_cons_succ, List.getElem_toArray, List.getElem_cons_zero, List.getElem_cons_succ])
      refine wpAnyH_take (i := 3) (v := ?_) rfl (by kernel_rfl) (by kernel_rfl) (by kernel_rfl) (fun _ _ _ h => h) (Or.inl ⟨by kernel_rfl, ?_⟩) (by assumption) ?_
      rotate_left
      · (intro w hSw; (try dsimp only at hSw); go_simp; first | done | with_reducible rfl)
      (try simp only [Act.put, List.setIfInBounds_toArray, List.set_cons_zero, List.set_cons_succ, List.getElem_toArray, List.getElem_cons_zero, List.getElem_cons_succ])
      refine wpAnyH_take (i := 4) (v := ?_) rfl (by kernel_rfl) (by kernel_rfl) (by kernel_rfl) (fun _ _ _ h => h) (Or.inl ⟨by kernel_rfl, ?_⟩) (by assumption) ?_
      rotate_left
      · (intro w hSw; (try dsimp only at hSw); go_simp; first | done | with_reducible rfl)
      (try simp only [Act.put, List.setIfInBounds_toArray, List.set_cons_zero, List.set_cons_succ, List.getElem_toArray, List.getElem_cons_zero, List.getElem_cons_succ])
      refine wpAnyH_take (i := 5) (v := ?_) rfl (by kernel_rfl) (by kernel_rfl) (by kernel_rfl) (fun _ _ _ h => h) (Or.inl ⟨by kernel_rfl, ?_⟩) (by assumption) ?_
      rotate_left
      · (intro w hSw; (try dsimp only at hSw); go_simp; first | done | with_reducible rfl)
      (try simp only [Act.put, List.setIfInBounds_toArray, List.set_cons_zero, List.set_cons_succ, List.getElem_toArray, List.getElem_cons_zero, List.getElem_cons_succ])
      refine wpAnyH_take (i := 6) (v := ?_) rfl (by kernel_rfl) (by kernel_rfl) (by kernel_rfl) (fun _ _ _ h => h) (Or.inl ⟨by kernel_rfl, ?_⟩) (by assumption) ?_
      rotate_left
      · (intro w hSw; (try dsimp only at hSw); go_simp; first | done | with_reducible rfl)
      (try simp only [Act.put, List.setIfInBounds_toArray, List.set_cons_zero, List.set_cons_succ, List.getElem_toArray, List.getElem_cons_zero, List.getElem_cons_succ])
      refine wpAnyH_take (i := 7) (v := ?_) rfl (by kernel_rfl) (by kernel_rfl) (by kernel_rfl) (fun _ _ _ h => h) (Or.inl ⟨by kernel_rfl, ?_⟩) (by assumption) ?_
      rotate_left
      · (intro w hSw; (try dsimp only at hSw); go_simp; first | done | with_reducible rfl)
      (try simp only [Act.put, List.setIfInBounds_toArray, List.set_cons_zero, List.set_cons_succ, List.getElem_toArray, List.getElem_cons_zero, List.getElem_cons_succ])
      refine wpAnyH_take (i := 8) (v := ?_) rfl (by kernel_rfl) (by kernel_rfl) (by kernel_rfl) (fun _ _ _ h => h) (Or.inl ⟨by kernel_rfl, ?_⟩) (by assumption) ?_
      rotate_left
      · (intro w hSw; (try dsimp only at hSw); go_simp; first | done | with_reducible rfl)
      (try simp only [Act.put, List.setIfInBounds_toArray, List.set_cons_zero, List.set_cons_succ, List.getElem_toArray, List.getElem_cons_zero, List.getElem_cons_succ])
      refine wpAnyH_take (i := 9) (v := ?_) rfl (by kernel_rfl) (by kernel_rfl) (by kernel_rfl) (fun _ _ _ h => h) (Or.inl ⟨by kernel_rfl, ?_⟩) (by assumption) ?_
      rotate_left
      · (intro w hSw; (try dsimp only at hSw); go_simp; first | done | with_reducible rfl)
      (try simp only [Act.put, List.setIfInBounds_toArray, List.set_cons_zero, List.set_cons_succ, List.getElem_toArray, List.getElem_cons_zero, List.getElem_cons_succ])
      refine wpAnyH_take (i := 10) (v := ?_) rfl (by kernel_rfl) (by kernel_rfl) (by kernel_rfl) (fun _ _ _ h => h) (Or.inl ⟨by kernel_rfl, ?_⟩) (by assumption) ?_
      rotate_left
      · (intro w hSw; (try dsimp only at hSw); go_simp; first | done | with_reducible rfl)
      (try simp only [Act.put, List.setIfInBounds_toArray, List.set_cons_zero, List.set_cons_succ, List.getElem_toArray, List.getElem_cons_zero, List.getElem_cons_succ])
      refine wpAnyH_take (i := 11) (v := ?_) rfl (by kernel_rfl) (by kernel_rfl) (by kernel_rfl) (fun _ _ _ h => h) (Or.inl ⟨by kernel_rfl, ?_⟩) (by assumption) ?_
      rotate_left
      · (intro w hSw; (try dsimp only at hSw); go_simp; first | done | with_reducible rfl)
      (try simp only [Act.put, List.setIfInBounds_toArray, List.set_cons_zero, List.set_cons_succ, List.getElem_toArray, List.getElem_cons_zero, List.getElem_cons_succ])
      refine wpAnyH_take (i := 12) (v := ?_) rfl (by kernel_rfl) (by kernel_rfl) (by kernel_rfl) (fun _ _ _ h => h) (Or.inl ⟨by kernel_rfl, ?_⟩) (by assumption) ?_
      rotate_left
      · (intro w hSw; (try dsimp only at hSw); go_simp; first | done | with_reducible rfl)
      (try simp only [Act.put, List.setIfInBounds_toArray, List.set_cons_zero, List.set_cons_succ, List.getElem_toArray, List.getElem_cons_zero, List.getElem_cons_succ])
      refine wpAnyH_take (i := 13) (v := ?_) rfl (by kernel_rfl) (by kernel_rfl) (by kernel_rfl) (fun _ _ _ h => h) (Or.inl ⟨by kernel_rfl, ?_⟩) (by assumption) ?_
      rotate_left
      · (intro w hSw; (try dsimp only at hSw); go_simp; first | done | with_reducible rfl)
      (try simp only [Act.put, List.setIfInBounds_toArray, List.set_cons_zero, List.set_cons_succ, List.getElem_toArray, List.getElem_cons_zero, List.getElem_cons_succ])
      refine wpAnyH_take (i := 14) (v := ?_) rfl (by kernel_rfl) (by kernel_rfl) (by kernel_rfl) (fun _ _ _ h => h) (Or.inl ⟨by kernel_rfl, ?_⟩) (by assumption) ?_
      rotate_left
      · (intro w hSw; (try dsimp only at hSw); go_simp; first | done | with_reducible rfl)
      (try simp only [Act.put, List.setIfInBounds_toArray, List.set_cons_zero, List.set_cons_succ, List.getElem_toArray, List.getElem_cons_zero, List.getElem_cons_succ])
      refine wpAnyH_ready (rs := [15]) (by kernel_rfl) (by simp) ?_
      refine AllReadyH.cons rfl (fun KK hKK => ?_) AllReadyH.nil
      go_simp
      refine hKK.out _ _ ?_ (fun hHeld => ?_)
      · (exact ⟨d0, d1, d2⟩)
      clear hKK KK
      (try simp only [Act.put, List.setIfInBounds_toArray, List.set_cons_zero, List.set_cons_succ, List.getElem_toArray, List.getElem_cons_zero, List.getElem_cons_succ])
      refine wpAnyH_ready (rs := [16]) (by kernel_rfl) (by simp) ?_
      refine AllReadyH.cons rfl (fun KK hKK => ?_) AllReadyH.nil
      refine step_append_v Go.Proofs.Ytndpaehcjaejpaa.u8.el (by rfl) (.tmp 24) (.tmp 39) rfl w.heap.size _ X _ 1 1 [.int .u8 (z2 : Int)] rfl rfl HOA.out rfl (src1 wq.drew _ _) (by intro u hu; simp only [List.mem_singleton] at hu; subst hu; rfl) (by have := HLN.out; omega) (by have := HLN.out; omega) (by simp; omega) ?_
      intro v4 w4 hO4 hg4 hat4
      rw [← HNX.out] at hO4
      have hb4 := HBA.out.grown hg4 (by simp; omega) (fun x hx => (HOA.out.lt x hx).1)
      have g0 := (hb4.cell (p := ad0.add k) (by rw [add_block]; exact hs0)).trans HC0.out
      have g1 := (hb4.cell (p := ad1.add k) (by rw [add_block]; exact hs1)).trans HC1.out
      have g2 := (hb4.cell (p := ad2.add k) (by rw [add_block]; exact hs2)).trans HC2.out
      have HO4 := Lib.hid hO4
      have HB4 := Lib.hid hb4
      clear hO4 hg4 hat4 hb4
      refine hKK.out _ _ ?_ (fun hHeld => ?_)
      · (exact ⟨g0, g1, g2⟩)
      clear hKK KK
      (try simp only [Act.put, List.setIfInBounds_toArray, List.set_cons_zero, List.set_cons_succ, List.getElem_toArray, List.getElem_cons_zero, List.getElem_cons_succ])
      refine wpAnyH_take (i := 17) (v := ?_) rfl (by kernel_rfl) (by kernel_rfl) (by kernel_rfl) (fun _ _ _ h => h) (Or.inl ⟨by kernel_rfl, ?_⟩) (by assumption) ?_
      rotate_left
      · (intro w hSw; (try dsimp only at hSw); go_simp; first | done | with_reducible rfl)
      (try simp only [Act.put, List.setIfInBounds_toArray, List.set_cons_zero, List.set_cons_succ, List.getElem_toArray, List.getElem_cons_zero, List.getElem_cons_succ])
      refine wpAnyH_done (by kernel_rfl) ?_ _
      go_wp2_with fail
      go_roundw
      case rel => exact ⟨k + 1, by omega, by go_num, HO4.out, HB4.out⟩
      case measure => simp [intOf]; omega
    · have hkN : N = k := by omega
      subst hkN
      have hE0 : (l0.take N).length = N := by rw [List.length_take, HL0.out]; have := HN0.out; omega
      have hE1 : (l1.take N).length = N := by rw [List.length_take, HL1.out]; have := HN1.out; omega
      have hE2 : (l2.take N).length = N := by rw [List.length_take, HL2.out]; have := HN2.out; omega
      have hXL : (x3 (l0.take N) (l1.take N) (l2.take N)).length = N := x3_len (by rw [HL0.out]; exact HN0.out) (by rw [HL1.out]; exact HN1.out) (by rw [HL2.out]; exact HN2.out)
      have hcx := crc_x3 (l0.take N) (l1.take N) (l2.take N) (by rw [hE0, hE1]) (by rw [hE1, hE2])
      have hx1 := xor_i64 (crc (l0.take N)) (crc (l1.take N)) (crc_lt _) (crc_lt _)
      have hx2 := xor_i64 (crc (l0.take N) ^^^ crc (l1.take N)) (crc (l2.take N)) (Nat.xor_lt_two_pow (n := 32) (crc_lt _) (crc_lt _)) (crc_lt _)
      rw [← hcx] at hx2
      obtain ⟨T0, hT0, hRT0⟩ := take_to (c := cap0) HR0.out HL0.out HN0.out HF0.out
      obtain ⟨T1, hT1, hRT1⟩ := take_to (c := cap1) HR1.out HL1.out HN1.out HF1.out
      obtain ⟨T2, hT2, hRT2⟩ := take_to (c := cap2) HR2.out HL2.out HN2.out HF2.out
      obtain ⟨A9, c9, hv9, _, hc9, _⟩ := HO.out.len
      rw [bvs_length, hXL] at hv9
      subst hv9
      generalize x3 (l0.take N) (l1.take N) (l2.take N) = X at *
      obtain ⟨PX, hPX⟩ : ∃ PX, crc X = PX := ⟨_, rfl⟩
      obtain ⟨P0, hP0⟩ : ∃ P, crc (l0.take N) = P := ⟨_, rfl⟩
      obtain ⟨P1, hP1⟩ : ∃ P, crc (l1.take N) = P := ⟨_, rfl⟩
      obtain ⟨P2, hP2⟩ : ∃ P, crc (l2.take N) = P := ⟨_, rfl⟩
      rw [hPX, hP0, hP1, hP2] at hx2
      rw [hP0, hP1] at hx1
      generalize P0 ^^^ P1 = Q1 at *
      have HPX := Lib.hid hPX
      have HP0 := Lib.hid hP0
      have HP1 := Lib.hid hP1
      have HP2 := Lib.hid hP2
      have HE0 := Lib.hid hE0
      have HE1 := Lib.hid hE1
      have HE2 := Lib.hid hE2
      have HXL := Lib.hid hXL
      have HT0 := Lib.hid hRT0
      have HT1 := Lib.hid hRT1
      have HT2 := Lib.hid hRT2
      clear hPX hP0 hP1 hP2 hE0 hE1 hE2 hXL hRT0 hRT1 hRT2 hcx hlt hk
      go_wp2_with fail
      refine wp_region_facts [FVal (.bool true), FVal (.bool true), FVal (.slice A9 N c9), FParts 1 1 [(⟨A9, N, c9, X⟩ : Go.Proofs.Ytndpaehcjaejpaa.Part)], FVal (.int .i64 (PX : Int)), FVal (.slice a0 len0 cap0), FVal (.int .i64 (N : Int)), FVal (.slice T0 N cap0), FParts 1 1 [(⟨T0, N, cap0, l0.take N⟩ : Go.Proofs.Ytndpaehcjaejpaa.Part)], FVal (.int .i64 (P0 : Int)), FVal (.slice a1 len1 cap1), FVal (.int .i64 (N : Int)), FVal (.slice T1 N cap1), FParts 1 1 [(⟨T1, N, cap1, l1.take N⟩ : Go.Proofs.Ytndpaehcjaejpaa.Part)], FVal (.int .i64 (P1 : Int)), FVal (.int .i64 (Q1 : Int)), FVal (.slice a2 len2 cap2), FVal (.int .i64 (N : Int)), FVal (.slice T2 N cap2), FParts 1 1 [(⟨T2, N, cap2, l2.take N⟩ : Go.Proofs.Ytndpaehcjaejpaa.Part)], FVal (.int .i64 (P2 : Int)), FVal (.int .i64 (PX : Int)), FVal (.bool true), FVal (.bool true), FVal (.bool true)] [0, 1, 2, 3, 4, 5, 6, 7, 8, 9, 10, 11, 12, 13, 14, 15, 16, 17, 18, 19, 20, 21, 22, 23, 24] [(0, some 41), (1, some 42), (2, some 43), (3, some 44), (4, some 45), (5, some 46), (6, some 47), (7, some 48), (8, some 49), (9, some 50), (10, some 51), (11, some 52), (12, some 53), (13, some 54), (14, some 55), (15, some 56), (16, some 57), (17, some 58), (18, some 59), (19, some 60), (20, some 61), (21, some 62), (22, some 63), (23, some 64), (24, some 6)] (by kernel_rfl) (by kernel_rfl) (by kernel_rfl) (by kernel_rfl) ?_ ?_ ?_
      · simp only [List.forall_mem_cons, List.not_mem_nil, false_implies, implies_true, and_true]
        exact ⟨stable_val _, stable_val _, stable_val _, stable_parts _ _ _, stable_val _, stable_val _, stable_val _, stable_val _, stable_parts _ _ _, stable_val _, stable_val _, stable_val _, stable_val _, stable_parts _ _ _, stable_val _, stable_val _, stable_val _, stable_val _, stable_val _, stable_parts _ _ _, stable_val _, stable_val _, stable_val _, stable_val _, stable_val _⟩
      · simp only [List.forall_mem_cons, List.not_mem_nil, false_implies, implies_true, and_true]
        refine ⟨?_, ?_, ?_, ?_, ?_, ?_, ?_, ?_, ?_, ?_, ?_, ?_, ?_, ?_, ?_, ?_, ?_, ?_, ?_, ?_, ?_, ?_, ?_, ?_, ?_⟩
        · refine does_mk [] rfl (by kernel_rfl) (fun u wi hR hf => ?_)
          simp only [putPs, Act.put, List.setIfInBounds_toArray, List.set_cons_zero, List.set_cons_succ, List.getElem_toArray, List.getElem_cons_zero, List.getElem_cons_succ]
          rw [if_pos (by rfl)]
          intro K hK
          go_simp
          exact hK.out _ _ _ (by simp only [Act.put, List.setIfInBounds_toArray, List.set_cons_zero, List.set_cons_succ]) rfl (Grows.refl _)
        · refine does_mk [(0, some 41)] rfl (by kernel_rfl) (fun u wi hR hf => ?_)
          simp only [putPs, Act.put, List.setIfInBounds_toArray, List.set_cons_zero, List.set_cons_succ, List.getElem_toArray, List.getElem_cons_zero, List.getElem_cons_succ]
          obtain ⟨h0, _⟩ := hf
          have e0 : u 0 = .bool true := h0
          try rw [e0]
          clear h0 e0
          rw [if_pos (by rfl)]
          intro K hK
          go_simp
          exact hK.out _ _ _ (by simp only [Act.put, List.setIfInBounds_toArray, List.set_cons_zero, List.set_cons_succ]) rfl (Grows.refl _)
        · refine does_mk [(1, some 42)] rfl (by kernel_rfl) (fun u wi hR hf => ?_)
          simp only [putPs, Act.put, List.setIfInBounds_toArray, List.set_cons_zero, List.set_cons_succ, List.getElem_toArray, List.getElem_cons_zero, List.getElem_cons_succ]
          obtain ⟨h1, _⟩ := hf
          have e1 : u 1 = .bool true := h1
          try rw [e1]
          clear h1 e1
          rw [if_pos (by rfl)]
          intro K hK
          go_simp
          exact hK.out _ _ _ (by simp only [Act.put, List.setIfInBounds_toArray, List.set_cons_zero, List.set_cons_succ]) rfl (Grows.refl _)
        · refine does_mk [(1, some 42), (2, some 43)] rfl (by kernel_rfl) (fun u wi hR hf => ?_)
          simp only [putPs, Act.put, List.setIfInBounds_toArray, List.set_cons_zero, List.set_cons_succ, List.getElem_toArray, List.getElem_cons_zero, List.getElem_cons_succ]
          obtain ⟨h1, h2, _⟩ := hf
          have e1 : u 1 = .bool true := h1
          try rw [e1]
          clear h1 e1
          have e2 : u 2 = .slice A9 N c9 := h2
          try rw [e2]
          clear h2 e2
          rw [if_pos (by rfl)]
          intro K hK
          go_simp
          obtain ⟨Ax, cx, hvx, hRx, hcx⟩ := OwnB.form (HO.out.below_ ((Below.refl _ _).drew.trans (hR.mono (by simp))))
          injection hvx with q1 q2 q3
          subst q1 q3
          refine hK.out _ _ _ (by simp only [Act.put, List.setIfInBounds_toArray, List.set_cons_zero, List.set_cons_succ]) ⟨_, rfl, rfl, Go.Proofs.Ytndpaehcjaejpaa.parts_new (w := wi) (S := fun k => k < wi.heap.size) 22 [(⟨A9, N, c9, X⟩ : Go.Proofs.Ytndpaehcjaejpaa.Part)] (fun p hp => ?_) (fun _ h => h) (by simp) (fun k hk => by simp; omega)⟩ ((Below.refl _ _).alloc (Nat.le_refl _) _)
          simp only [List.mem_singleton] at hp
          subst hp
          exact ⟨HXL.out, by rw [← HXL.out]; exact hcx, by assumption, hRx.s (fun _ h => h)⟩
        · refine does_mk [(1, some 42), (3, some 44)] rfl (by kernel_rfl) (fun u wi hR hf => ?_)
          simp only [putPs, Act.put, List.setIfInBounds_toArray, List.set_cons_zero, List.set_cons_succ, List.getElem_toArray, List.getElem_cons_zero, List.getElem_cons_succ]
          obtain ⟨h1, h3, _⟩ := hf
          have e1 : u 1 = .bool true := h1
          try rw [e1]
          clear h1 e1
          obtain ⟨A3, e3, hl3, hq3⟩ := h3
          try rw [e3]
          clear e3
          rw [if_pos (by rfl)]
          intro K hK
          go_simp
          refine (sum_any A3 1 1 [⟨A9, N, c9, X⟩] wi wi.heap.size (Nat.le_refl _) rfl (by omega) (parts_S hq3)).mono ?_
          rw [show Crc.bytesOf [⟨A9, N, c9, X⟩] = X by simp [Crc.bytesOf], HPX.out]
          rintro e w5 ⟨rfl, hb5⟩
          exact hK.out _ _ _ (by simp only [Act.put, List.setIfInBounds_toArray, List.set_cons_zero, List.set_cons_succ]) rfl hb5
        · refine does_mk [(1, some 42)] rfl (by kernel_rfl) (fun u wi hR hf => ?_)
          simp only [putPs, Act.put, List.setIfInBounds_toArray, List.set_cons_zero, List.set_cons_succ, List.getElem_toArray, List.getElem_cons_zero, List.getElem_cons_succ]
          obtain ⟨h1, _⟩ := hf
          have e1 : u 1 = .bool true := h1
          try rw [e1]
          clear h1 e1
          rw [if_pos (by rfl)]
          intro K hK
          go_simp
          exact hK.out _ _ _ (by simp only [Act.put, List.setIfInBounds_toArray, List.set_cons_zero, List.set_cons_succ]) rfl (Grows.refl _)
        · refine does_mk [(1, some 42)] rfl (by kernel_rfl) (fun u wi hR hf => ?_)
          simp only [putPs, Act.put, List.setIfInBounds_toArray, List.set_cons_zero, List.set_cons_succ, List.getElem_toArray, List.getElem_cons_zero, List.getElem_cons_succ]
          obtain ⟨h1, _⟩ := hf
          have e1 : u 1 = .bool true := h1
          try rw [e1]
          clear h1 e1
          rw [if_pos (by rfl)]
          intro K hK
          go_simp
          exact hK.out _ _ _ (by simp only [Act.put, List.setIfInBounds_toArray, List.set_cons_zero, List.set_cons_succ]) rfl (Grows.refl _)
        · refine does_mk [(1, some 42), (5, some 46), (6, some 47)] rfl (by kernel_rfl) (fun u wi hR hf => ?_)
          simp only [putPs, Act.put, List.setIfInBounds_toArray, List.set_cons_zero, List.set_cons_succ, List.getElem_toArray, List.getElem_cons_zero, List.getElem_cons_succ]
          obtain ⟨h1, h5, h6, _⟩ := hf
          have e1 : u 1 = .bool true := h1
          try rw [e1]
          clear h1 e1
          have e5 : u 5 = .slice a0 len0 cap0 := h5
          try rw [e5]
          clear h5 e5
          have e6 : u 6 = .int .i64 (N : Int) := h6
          try rw [e6]
          clear h6 e6
          rw [if_pos (by rfl)]
          intro K hK
          go_simp
          exact hK.out _ _ _ (by simp only [Act.put, List.setIfInBounds_toArray, List.set_cons_zero, List.set_cons_succ]) rfl (Grows.refl _)
        · refine does_mk [(1, some 42), (7, some 48)] rfl (by kernel_rfl) (fun u wi hR hf => ?_)
          simp only [putPs, Act.put, List.setIfInBounds_toArray, List.set_cons_zero, List.set_cons_succ, List.getElem_toArray, List.getElem_cons_zero, List.getElem_cons_succ]
          obtain ⟨h1, h7, _⟩ := hf
          have e1 : u 1 = .bool true := h1
          try rw [e1]
          clear h1 e1
          have e7 : u 7 = .slice T0 N cap0 := h7
          try rw [e7]
          clear h7 e7
          rw [if_pos (by rfl)]
          intro K hK
          go_simp
          have hbw : Below w.heap.size w wi := HB.out.trans (((Below.refl _ _).drew.trans (hR.mono (by simp))).mono hzr)
          refine hK.out _ _ _ (by simp only [Act.put, List.setIfInBounds_toArray, List.set_cons_zero, List.set_cons_succ]) ⟨_, rfl, rfl, Go.Proofs.Ytndpaehcjaejpaa.parts_new (w := wi) (S := fun k => k < wi.heap.size) 22 [(⟨T0, N, cap0, l0.take N⟩ : Go.Proofs.Ytndpaehcjaejpaa.Part)] (fun p hp => ?_) (fun _ h => h) (by simp) (fun k hk => by simp; omega)⟩ ((Below.refl _ _).alloc (Nat.le_refl _) _)
          simp only [List.mem_singleton] at hp
          subst hp
          exact ⟨HE0.out, by have := HN0.out; have := HF0.out; simp only; omega, by have := HM0.out; simp only; omega, ((HT0.out.below hbw).more hbw.size).s (fun _ h => h)⟩
        · refine does_mk [(1, some 42), (4, some 45), (8, some 49)] rfl (by kernel_rfl) (fun u wi hR hf => ?_)
          simp only [putPs, Act.put, List.setIfInBounds_toArray, List.set_cons_zero, List.set_cons_succ, List.getElem_toArray, List.getElem_cons_zero, List.getElem_cons_succ]
          obtain ⟨h1, h4, h8, _⟩ := hf
          have e1 : u 1 = .bool true := h1
          try rw [e1]
          clear h1 e1
          have e4 : u 4 = .int .i64 (PX : Int) := h4
          try rw [e4]
          clear h4 e4
          obtain ⟨A8, e8, hl8, hq8⟩ := h8
          try rw [e8]
          clear e8
          rw [if_pos (by rfl)]
          intro K hK
          go_simp
          refine (sum_any A8 1 1 [⟨T0, N, cap0, l0.take N⟩] wi wi.heap.size (Nat.le_refl _) rfl (by omega) (parts_S hq8)).mono ?_
          rw [show Crc.bytesOf [⟨T0, N, cap0, l0.take N⟩] = l0.take N by simp [Crc.bytesOf], HP0.out]
          rintro e w5 ⟨rfl, hb5⟩
          exact hK.out _ _ _ (by simp only [Act.put, List.setIfInBounds_toArray, List.set_cons_zero, List.set_cons_succ]) rfl hb5
        · refine does_mk [(1, some 42)] rfl (by kernel_rfl) (fun u wi hR hf => ?_)
          simp only [putPs, Act.put, List.setIfInBounds_toArray, List.set_cons_zero, List.set_cons_succ, List.getElem_toArray, List.getElem_cons_zero, List.getElem_cons_succ]
          obtain ⟨h1, _⟩ := hf
          have e1 : u 1 = .bool true := h1
          try rw [e1]
          clear h1 e1
          rw [if_pos (by rfl)]
          intro K hK
          go_simp
          exact hK.out _ _ _ (by simp only [Act.put, List.setIfInBounds_toArray, List.set_cons_zero, List.set_cons_succ]) rfl (Grows.refl _)
        · refine does_mk [(1, some 42)] rfl (by kernel_rfl) (fun u wi hR hf => ?_)
          simp only [putPs, Act.put, List.setIfInBounds_toArray, List.set_cons_zero, List.set_cons_succ, List.getElem_toArray, List.getElem_cons_zero, List.getElem_cons_succ]
          obtain ⟨h1, _⟩ := hf
          have e1 : u 1 = .bool true := h1
          try rw [e1]
          clear h1 e1
          rw [if_pos (by rfl)]
          intro K hK
          go_simp
          exact hK.out _ _ _ (by simp only [Act.put, List.setIfInBounds_toArray, List.set_cons_zero, List.set_cons_succ]) rfl (Grows.refl _)
        · refine does_mk [(1, some 42), (10, some 51), (11, some 52)] rfl (by kernel_rfl) (fun u wi hR hf => ?_)
          simp only [putPs, Act.put, List.setIfInBounds_toArray, List.set_cons_zero, List.set_cons_succ, List.getElem_toArray, List.getElem_cons_zero, List.getElem_cons_succ]
          obtain ⟨h1, h10, h11, _⟩ := hf
          have e1 : u 1 = .bool true := h1
          try rw [e1]
          clear h1 e1
          have e10 : u 10 = .slice a1 len1 cap1 := h10
          try rw [e10]
          clear h10 e10
          have e11 : u 11 = .int .i64 (N : Int) := h11
          try rw [e11]
          clear h11 e11
          rw [if_pos (by rfl)]
          intro K hK
          go_simp
          exact hK.out _ _ _ (by simp only [Act.put, List.setIfInBounds_toArray, List.set_cons_zero, List.set_cons_succ]) rfl (Grows.refl _)
        · refine does_mk [(1, some 42), (12, some 53)] rfl (by kernel_rfl) (fun u wi hR hf => ?_)
          simp only [putPs, Act.put, List.setIfInBounds_toArray, List.set_cons_zero, List.set_cons_succ, List.getElem_toArray, List.getElem_cons_zero, List.getElem_cons_succ]
          obtain ⟨h1, h12, _⟩ := hf
          have e1 : u 1 = .bool true := h1
          try rw [e1]
          clear h1 e1
          have e12 : u 12 = .slice T1 N cap1 := h12
          try rw [e12]
          clear h12 e12
          rw [if_pos (by rfl)]
          intro K hK
          go_simp
          have hbw : Below w.heap.size w wi := HB.out.trans (((Below.refl _ _).drew.trans (hR.mono (by simp))).mono hzr)
          refine hK.out _ _ _ (by simp only [Act.put, List.setIfInBounds_toArray, List.set_cons_zero, List.set_cons_succ]) ⟨_, rfl, rfl, Go.Proofs.Ytndpaehcjaejpaa.parts_new (w := wi) (S := fun k => k < wi.heap.size) 22 [(⟨T1, N, cap1, l1.take N⟩ : Go.Proofs.Ytndpaehcjaejpaa.Part)] (fun p hp => ?_) (fun _ h => h) (by simp) (fun k hk => by simp; omega)⟩ ((Below.refl _ _).alloc (Nat.le_refl _) _)
          simp only [List.mem_singleton] at hp
          subst hp
          exact ⟨HE1.out, by have := HN1.out; have := HF1.out; simp only; omega, by have := HM1.out; simp only; omega, ((HT1.out.below hbw).more hbw.size).s (fun _ h => h)⟩
        · refine does_mk [(1, some 42), (9, some 50), (13, some 54)] rfl (by kernel_rfl) (fun u wi hR hf => ?_)
          simp only [putPs, Act.put, List.setIfInBounds_toArray, List.set_cons_zero, List.set_cons_succ, List.getElem_toArray, List.getElem_cons_zero, List.getElem_cons_succ]
          obtain ⟨h1, h9, h13, _⟩ := hf
          have e1 : u 1 = .bool true := h1
          try rw [e1]
          clear h1 e1
          have e9 : u 9 = .int .i64 (P0 : Int) := h9
          try rw [e9]
          clear h9 e9
          obtain ⟨A13, e13, hl13, hq13⟩ := h13
          try rw [e13]
          clear e13
          rw [if_pos (by rfl)]
          intro K hK
          go_simp
          refine (sum_any A13 1 1 [⟨T1, N, cap1, l1.take N⟩] wi wi.heap.size (Nat.le_refl _) rfl (by omega) (parts_S hq13)).mono ?_
          rw [show Crc.bytesOf [⟨T1, N, cap1, l1.take N⟩] = l1.take N by simp [Crc.bytesOf], HP1.out]
          rintro e w5 ⟨rfl, hb5⟩
          exact hK.out _ _ _ (by simp only [Act.put, List.setIfInBounds_toArray, List.set_cons_zero, List.set_cons_succ]) rfl hb5
        · refine does_mk [(1, some 42), (9, some 50), (14, some 55)] rfl (by kernel_rfl) (fun u wi hR hf => ?_)
          simp only [putPs, Act.put, List.setIfInBounds_toArray, List.set_cons_zero, List.set_cons_succ, List.getElem_toArray, List.getElem_cons_zero, List.getElem_cons_succ]
          obtain ⟨h1, h9, h14, _⟩ := hf
          have e1 : u 1 = .bool true := h1
          try rw [e1]
          clear h1 e1
          have e9 : u 9 = .int .i64 (P0 : Int) := h9
          try rw [e9]
          clear h9 e9
          have e14 : u 14 = .int .i64 (P1 : Int) := h14
          try rw [e14]
          clear h14 e14
          rw [if_pos (by rfl)]
          intro K hK
          go_simp
          exact hK.out _ _ _ (by simp only [Act.put, List.setIfInBounds_toArray, List.set_cons_zero, List.set_cons_succ]) rfl (Grows.refl _)
        · refine does_mk [(1, some 42)] rfl (by kernel_rfl) (fun u wi hR hf => ?_)
          simp only [putPs, Act.put, List.setIfInBounds_toArray, List.set_cons_zero, List.set_cons_succ, List.getElem_toArray, List.getElem_cons_zero, List.getElem_cons_succ]
          obtain ⟨h1, _⟩ := hf
          have e1 : u 1 = .bool true := h1
          try rw [e1]
          clear h1 e1
          rw [if_pos (by rfl)]
          intro K hK
          go_simp
          exact hK.out _ _ _ (by simp only [Act.put, List.setIfInBounds_toArray, List.set_cons_zero, List.set_cons_succ]) rfl (Grows.refl _)
        · refine does_mk [(1, some 42)] rfl (by kernel_rfl) (fun u wi hR hf => ?_)
          simp only [putPs, Act.put, List.setIfInBounds_toArray, List.set_cons_zero, List.set_cons_succ, List.getElem_toArray, List.getElem_cons_zero, List.getElem_cons_succ]
          obtain ⟨h1, _⟩ := hf
          have e1 : u 1 = .bool true := h1
          try rw [e1]
          clear h1 e1
          rw [if_pos (by rfl)]
          intro K hK
          go_simp
          exact hK.out _ _ _ (by simp only [Act.put, List.setIfInBounds_toArray, List.set_cons_zero, List.set_cons_succ]) rfl (Grows.refl _)
        · refine does_mk [(1, some 42), (16, some 57), (17, some 58)] rfl (by kernel_rfl) (fun u wi hR hf => ?_)
          simp only [putPs, Act.put, List.setIfInBounds_toArray, List.set_cons_zero, List.set_cons_succ, List.getElem_toArray, List.getElem_cons_zero, List.getElem_cons_succ]
          obtain ⟨h1, h16, h17, _⟩ := hf
          have e1 : u 1 = .bool true := h1
          try rw [e1]
          clear h1 e1
          have e16 : u 16 = .slice a2 len2 cap2 := h16
          try rw [e16]
          clear h16 e16
          have e17 : u 17 = .int .i64 (N : Int) := h17
          try rw [e17]
          clear h17 e17
          rw [if_pos (by rfl)]
          intro K hK
          go_simp
          exact hK.out _ _ _ (by simp only [Act.put, List.setIfInBounds_toArray, List.set_cons_zero, List.set_cons_succ]) rfl (Grows.refl _)
        · refine does_mk [(1, some 42), (18, some 59)] rfl (by kernel_rfl) (fun u wi hR hf => ?_)
          simp only [putPs, Act.put, List.setIfInBounds_toArray, List.set_cons_zero, List.set_cons_succ, List.getElem_toArray, List.getElem_cons_zero, List.getElem_cons_succ]
          obtain ⟨h1, h18, _⟩ := hf
          have e1 : u 1 = .bool true := h1
          try rw [e1]
          clear h1 e1
          have e18 : u 18 = .slice T2 N cap2 := h18
          try rw [e18]
          clear h18 e18
          rw [if_pos (by rfl)]
          intro K hK
          go_simp
          have hbw : Below w.heap.size w wi := HB.out.trans (((Below.refl _ _).drew.trans (hR.mono (by simp))).mono hzr)
          refine hK.out _ _ _ (by simp only [Act.put, List.setIfInBounds_toArray, List.set_cons_zero, List.set_cons_succ]) ⟨_, rfl, rfl, Go.Proofs.Ytndpaehcjaejpaa.parts_new (w := wi) (S := fun k => k < wi.heap.size) 22 [(⟨T2, N, cap2, l2.take N⟩ : Go.Proofs.Ytndpaehcjaejpaa.Part)] (fun p hp => ?_) (fun _ h => h) (by simp) (fun k hk => by simp; omega)⟩ ((Below.refl _ _).alloc (Nat.le_refl _) _)
          simp only [List.mem_singleton] at hp
          subst hp
          exact ⟨HE2.out, by have := HN2.out; have := HF2.out; simp only; omega, by have := HM2.out; simp only; omega, ((HT2.out.below hbw).more hbw.size).s (fun _ h => h)⟩
        · refine does_mk [(1, some 42), (14, some 55), (19, some 60)] rfl (by kernel_rfl) (fun u wi hR hf => ?_)
          simp only [putPs, Act.put, List.setIfInBounds_toArray, List.set_cons_zero, List.set_cons_succ, List.getElem_toArray, List.getElem_cons_zero, List.getElem_cons_succ]
          obtain ⟨h1, h14, h19, _⟩ := hf
          have e1 : u 1 = .bool true := h1
          try rw [e1]
          clear h1 e1
          have e14 : u 14 = .int .i64 (P1 : Int) := h14
          try rw [e14]
          clear h14 e14
          obtain ⟨A19, e19, hl19, hq19⟩ := h19
          try rw [e19]
          clear e19
          rw [if_pos (by rfl)]
          intro K hK
          go_simp
          refine (sum_any A19 1 1 [⟨T2, N, cap2, l2.take N⟩] wi wi.heap.size (Nat.le_refl _) rfl (by omega) (parts_S hq19)).mono ?_
          rw [show Crc.bytesOf [⟨T2, N, cap2, l2.take N⟩] = l2.take N by simp [Crc.bytesOf], HP2.out]
          rintro e w5 ⟨rfl, hb5⟩
          exact hK.out _ _ _ (by simp only [Act.put, List.setIfInBounds_toArray, List.set_cons_zero, List.set_cons_succ]) rfl hb5
        · refine does_mk [(1, some 42), (15, some 56), (20, some 61)] rfl (by kernel_rfl) (fun u wi hR hf => ?_)
          simp only [putPs, Act.put, List.setIfInBounds_toArray, List.set_cons_zero, List.set_cons_succ, List.getElem_toArray, List.getElem_cons_zero, List.getElem_cons_succ]
          obtain ⟨h1, h15, h20, _⟩ := hf
          have e1 : u 1 = .bool true := h1
          try rw [e1]
          clear h1 e1
          have e15 : u 15 = .int .i64 (Q1 : Int) := h15
          try rw [e15]
          clear h15 e15
          have e20 : u 20 = .int .i64 (P2 : Int) := h20
          try rw [e20]
          clear h20 e20
          rw [if_pos (by rfl)]
          intro K hK
          go_simp
          exact hK.out _ _ _ (by simp only [Act.put, List.setIfInBounds_toArray, List.set_cons_zero, List.set_cons_succ]) rfl (Grows.refl _)
        · refine does_mk [(1, some 42), (4, some 45), (21, some 62)] rfl (by kernel_rfl) (fun u wi hR hf => ?_)
          simp only [putPs, Act.put, List.setIfInBounds_toArray, List.set_cons_zero, List.set_cons_succ, List.getElem_toArray, List.getElem_cons_zero, List.getElem_cons_succ]
          obtain ⟨h1, h4, h21, _⟩ := hf
          have e1 : u 1 = .bool true := h1
          try rw [e1]
          clear h1 e1
          have e4 : u 4 = .int .i64 (PX : Int) := h4
          try rw [e4]
          clear h4 e4
          have e21 : u 21 = .int .i64 (PX : Int) := h21
          try rw [e21]
          clear h21 e21
          rw [if_pos (by rfl)]
          intro K hK
          go_simp
          exact hK.out _ _ _ (by simp only [Act.put, List.setIfInBounds_toArray, List.set_cons_zero, List.set_cons_succ]) rfl (Grows.refl _)
        · refine does_mk [(1, some 42), (22, some 63)] rfl (by kernel_rfl) (fun u wi hR hf => ?_)
          simp only [putPs, Act.put, List.setIfInBounds_toArray, List.set_cons_zero, List.set_cons_succ, List.getElem_toArray, List.getElem_cons_zero, List.getElem_cons_succ]
          obtain ⟨h1, h22, _⟩ := hf
          have e1 : u 1 = .bool true := h1
          try rw [e1]
          clear h1 e1
          have e22 : u 22 = .bool true := h22
          try rw [e22]
          clear h22 e22
          rw [if_pos (by rfl)]
          intro K hK
          go_simp
          exact hK.out _ _ _ (by simp only [Act.put, List.setIfInBounds_toArray, List.set_cons_zero, List.set_cons_succ]) rfl (Grows.refl _)
        · refine does_mk [(0, some 41), (1, some 42), (2, some 43), (3, some 44), (4, some 45), (5, some 46), (6, some 47), (7, some 48), (8, some 49), (9, some 50), (10, some 51), (11, some 52), (12, some 53), (13, some 54), (14, some 55), (15, some 56), (16, some 57), (17, some 58), (18, some 59), (19, some 60), (20, some 61), (21, some 62), (22, some 63), (23, some 64)] rfl (by kernel_rfl) (fun u wi hR hf => ?_)
          simp only [putPs, Act.put, List.setIfInBounds_toArray, List.set_cons_zero, List.set_cons_succ, List.getElem_toArray, List.getElem_cons_zero, List.getElem_cons_succ]
          obtain ⟨h0, h1, h2, h3, h4, h5, h6, h7, h8, h9, h10, h11, h12, h13, h14, h15, h16, h17, h18, h19, h20, h21, h22, h23, _⟩ := hf
          have e0 : u 0 = .bool true := h0
          try rw [e0]
          clear h0 e0
          have e1 : u 1 = .bool true := h1
          try rw [e1]
          clear h1 e1
          have e2 : u 2 = .slice A9 N c9 := h2
          try rw [e2]
          clear h2 e2
          obtain ⟨A3, e3, hl3, hq3⟩ := h3
          try rw [e3]
          clear e3
          have e4 : u 4 = .int .i64 (PX : Int) := h4
          try rw [e4]
          clear h4 e4
          have e5 : u 5 = .slice a0 len0 cap0 := h5
          try rw [e5]
          clear h5 e5
          have e6 : u 6 = .int .i64 (N : Int) := h6
          try rw [e6]
          clear h6 e6
          have e7 : u 7 = .slice T0 N cap0 := h7
          try rw [e7]
          clear h7 e7
          obtain ⟨A8, e8, hl8, hq8⟩ := h8
          try rw [e8]
          clear e8
          have e9 : u 9 = .int .i64 (P0 : Int) := h9
          try rw [e9]
          clear h9 e9
          have e10 : u 10 = .slice a1 len1 cap1 := h10
          try rw [e10]
          clear h10 e10
          have e11 : u 11 = .int .i64 (N : Int) := h11
          try rw [e11]
          clear h11 e11
          have e12 : u 12 = .slice T1 N cap1 := h12
          try rw [e12]
          clear h12 e12
          obtain ⟨A13, e13, hl13, hq13⟩ := h13
          try rw [e13]
          clear e13
          have e14 : u 14 = .int .i64 (P1 : Int) := h14
          try rw [e14]
          clear h14 e14
          have e15 : u 15 = .int .i64 (Q1 : Int) := h15
          try rw [e15]
          clear h15 e15
          have e16 : u 16 = .slice a2 len2 cap2 := h16
          try rw [e16]
          clear h16 e16
          have e17 : u 17 = .int .i64 (N : Int) := h17
          try rw [e17]
          clear h17 e17
          have e18 : u 18 = .slice T2 N cap2 := h18
          try rw [e18]
          clear h18 e18
          obtain ⟨A19, e19, hl19, hq19⟩ := h19
          try rw [e19]
          clear e19
          have e20 : u 20 = .int .i64 (P2 : Int) := h20
          try rw [e20]
          clear h20 e20
          have e21 : u 21 = .int .i64 (PX : Int) := h21
          try rw [e21]
          clear h21 e21
          have e22 : u 22 = .bool true := h22
          try rw [e22]
          clear h22 e22
          have e23 : u 23 = .bool true := h23
          try rw [e23]
          clear h23 e23
          rw [if_pos (by rfl)]
          intro K hK
          go_simp
          exact hK.out _ _ _ (by simp only [Act.put, List.setIfInBounds_toArray, List.set_cons_zero, List.set_cons_succ]) rfl (Grows.refl _)
      · intro u wi hR hf
        simp only [putPs, Act.put, List.setIfInBounds_toArray, List.set_cons_zero, List.set_cons_succ, List.getElem_toArray, List.getElem_cons_zero, List.getElem_cons_succ]
        obtain ⟨h0, h1, h2, h3, h4, h5, h6, h7, h8, h9, h10, h11, h12, h13, h14, h15, h16, h17, h18, h19, h20, h21, h22, h23, h24, _⟩ := hf
        have e0 : u 0 = .bool true := h0
        try rw [e0]
        clear h0 e0
        have e1 : u 1 = .bool true := h1
        try rw [e1]
        clear h1 e1
        have e2 : u 2 = .slice A9 N c9 := h2
        try rw [e2]
        clear h2 e2
        obtain ⟨A3, e3, hl3, hq3⟩ := h3
        try rw [e3]
        clear e3
        have e4 : u 4 = .int .i64 (PX : Int) := h4
        try rw [e4]
        clear h4 e4
        have e5 : u 5 = .slice a0 len0 cap0 := h5
        try rw [e5]
        clear h5 e5
        have e6 : u 6 = .int .i64 (N : Int) := h6
        try rw [e6]
        clear h6 e6
        have e7 : u 7 = .slice T0 N cap0 := h7
        try rw [e7]
        clear h7 e7
        obtain ⟨A8, e8, hl8, hq8⟩ := h8
        try rw [e8]
        clear e8
        have e9 : u 9 = .int .i64 (P0 : Int) := h9
        try rw [e9]
        clear h9 e9
        have e10 : u 10 = .slice a1 len1 cap1 := h10
        try rw [e10]
        clear h10 e10
        have e11 : u 11 = .int .i64 (N : Int) := h11
        try rw [e11]
        clear h11 e11
        have e12 : u 12 = .slice T1 N cap1 := h12
        try rw [e12]
        clear h12 e12
        obtain ⟨A13, e13, hl13, hq13⟩ := h13
        try rw [e13]
        clear e13
        have e14 : u 14 = .int .i64 (P1 : Int) := h14
        try rw [e14]
        clear h14 e14
        have e15 : u 15 = .int .i64 (Q1 : Int) := h15
        try rw [e15]
        clear h15 e15
        have e16 : u 16 = .slice a2 len2 cap2 := h16
        try rw [e16]
        clear h16 e16
        have e17 : u 17 = .int .i64 (N : Int) := h17
        try rw [e17]
        clear h17 e17
        have e18 : u 18 = .slice T2 N cap2 := h18
        try rw [e18]
        clear h18 e18
        obtain ⟨A19, e19, hl19, hq19⟩ := h19
        try rw [e19]
        clear e19
        have e20 : u 20 = .int .i64 (P2 : Int) := h20
        try rw [e20]
        clear h20 e20
        have e21 : u 21 = .int .i64 (PX : Int) := h21
        try rw [e21]
        clear h21 e21
        have e22 : u 22 = .bool true := h22
        try rw [e22]
        clear h22 e22
        have e23 : u 23 = .bool true := h23
        try rw [e23]
        clear h23 e23
        have e24 : u 24 = .bool true := h24
        try rw [e24]
        clear h24 e24
        go_wp2
        go_ret
        exact ⟨rfl, HB.out.trans (((Below.refl _ _).drew.trans (hR.mono (by simp))).mono hzr)⟩

set_option maxRecDepth 100000 in
theorem lifted (os : Os) (started : os.Started) (H : Type) (enc : TypeId × Value → H) :
    ReturnsInHanded {} Try.checked os 7 .any (Rows.checkAffineSpec.pre6 enc Try.prog Try.f7 Rows.checkAffineRow.domain false) (Rows.checkAffineSpec.post enc Try.prog Try.f7 false true false false) := by
  refine returnsInHanded_of_change_sized (C := Try.checked) own started (by kernel_rfl) Try.func7
    (ChangeSpec.witness6 (enc := enc) (C := Try.checked) false ⟨#[], #[.slice none 0 0, .slice none 0 0, .slice none 0 0], []⟩ 8 (by kernel_rfl) (by kernel_rfl) (by kernel_rfl) (by kernel_rfl)) ?_
  intro W base args ds gs before hval0 hW hcnd hsz0 _
  have hval : ∀ (j : Nat) t v, Try.f7.params[j]? = some t → args[j]? = some v → Value.okWide Try.prog W .any base t v := hval0
  have hsz : (DataW.weightsEach Try.prog (Try.f7.params.toList ++ Rows.checkAffineSpec.plain.varTypes Try.prog) (ds ++ gs)).all (· ≤ reachBytes) = true := hsz0
  clear hsz0
  have hW' := hW
  obtain ⟨p, q, hA0, hV, rfl, hfz, hnd⟩ := hW
  have hA : DataW.TrodAll enc Try.prog W 0 (fun _ => true) true Try.f7.params.toList args.toList ds p := hA0
  rw [Try.params7] at hA hval hsz
  obtain ⟨v0, vs0, d0, ds0, p0, q0, hargs, rfl, rfl, h0, r0⟩ := trodAll_cons hA
  obtain ⟨v1, vs1, d1, ds1, p1, q1, rfl, rfl, rfl, h1, r1⟩ := trodAll_cons r0
  obtain ⟨v2, vs2, d2, ds2, p2, q2, rfl, rfl, rfl, h2, r2⟩ := trodAll_cons r1
  obtain ⟨rfl, rfl, rfl⟩ := trodAll_nil r2
  obtain rfl : args = #[v0, v1, v2] := by cases args; simp_all
  obtain ⟨rfl, rfl⟩ := trodVars_none hV
  obtain ⟨a0, len0, cap0, rfl⟩ := okWide_slice Try.underlying22 (hval 0 22 v0 rfl rfl)
  have k0 := h0
  have lt0 : ∀ x ∈ p0, x.block < W.heap.size := by obtain ⟨m, hm⟩ := k0; exact DataW.trod_lt m _ _ _ hm
  obtain ⟨l0, w0⟩ := open_bytes u8 (by kernel_rfl) (by kernel_rfl) h0 hsz (j := 0) rfl rfl
  obtain ⟨a1, len1, cap1, rfl⟩ := okWide_slice Try.underlying22 (hval 1 22 v1 rfl rfl)
  have k1 := h1
  have lt1 : ∀ x ∈ p1, x.block < W.heap.size := by obtain ⟨m, hm⟩ := k1; exact DataW.trod_lt m _ _ _ hm
  obtain ⟨l1, w1⟩ := open_bytes u8 (by kernel_rfl) (by kernel_rfl) h1 hsz (j := 1) rfl rfl
  obtain ⟨a2, len2, cap2, rfl⟩ := okWide_slice Try.underlying22 (hval 2 22 v2 rfl rfl)
  have k2 := h2
  have lt2 : ∀ x ∈ p2, x.block < W.heap.size := by obtain ⟨m, hm⟩ := k2; exact DataW.trod_lt m _ _ _ hm
  obtain ⟨l2, w2⟩ := open_bytes u8 (by kernel_rfl) (by kernel_rfl) h2 hsz (j := 2) rfl rfl
  clear hsz
  clear hA0 hval0
  simp only [List.append_nil] at hW'
  refine (walk a0 len0 cap0 l0 a1 len1 cap1 l1 a2 len2 cap2 l2 W w0 w1 w2).mono fun e W' ⟨he, bel⟩ => ?_
  subst he
  exact ⟨_, rfl, _, _, _, [], _, [], hW', trodAll_mk1 (shut_bool Try.underlying4 _), (trodAll_cons_mk (Below.trod laidOut (by kernel_rfl) (of_decide_eq_true (by kernel_rfl)) k0 bel lt0) (trodAll_cons_mk (Below.trod laidOut (by kernel_rfl) (of_decide_eq_true (by kernel_rfl)) k1 bel lt1) (trodAll_cons_mk (Below.trod laidOut (by kernel_rfl) (of_decide_eq_true (by kernel_rfl)) k2 bel lt2) trodAll_mk0))), rfl, bel.frame _, fun h => by cases h⟩

theorem over : Rows.checkAffineRow.holds Try.pinned (OpenSpec.ofChange Rows.checkAffineSpec) :=
  OpenClaim.holds_of_wide 7 Try.f7 rfl rfl rfl rfl rfl rfl rfl ⟨rfl, rfl, rfl, rfl, rfl⟩ rfl rfl rfl rfl rfl (by kernel_rfl) Try.func7 (by kernel_rfl)
    (of_decide_eq_true (by kernel_rfl)) (by unfold Func.isWrapper; first | (rw [if_pos (by decide +kernel)]; kernel_rfl) | (rw [if_neg (by decide +kernel)]; exact ⟨rfl, rfl⟩))
    (fun os started H enc _ => lifted os started H enc)

theorem proved : Rows.CheckAffineSaid := over
end Go.Proofs.Ytndpaehcjaejpaa.checkAffine
