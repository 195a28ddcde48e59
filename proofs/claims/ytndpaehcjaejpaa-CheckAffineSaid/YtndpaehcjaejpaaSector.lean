/- Laying bytes into a sector and taking them: what each function computes. -/
import Derived.Test.YtndpaehcjaejpaaCrcWalks
import Derived.Test.YtndpaehcjaejpaaLent
import Derived.Test.YtndpaehcjaejpaaClone
import Derived.Deep.QuietTactic
import Derived.BigQuiet
import Derived.Deep.RegionHeld3
namespace Go.Proofs.Ytndpaehcjaejpaa.Crc
open Go Go.ChangeShapes Go.WideShapes Go.ChangeAt Go.RowKit
set_option linter.unusedVariables false

def be4 (n : Nat) : List UInt8 := [UInt8.ofNat (n / 16777216), UInt8.ofNat (n / 65536), UInt8.ofNat (n / 256), UInt8.ofNat n]
def pad (l : List UInt8) (N : Nat) : List UInt8 := l ++ List.replicate (N - 4 - l.length) 0
def sealed' (l : List UInt8) : List UInt8 := l ++ be4 (crc l)
def layB (l : List UInt8) (n : Int) : List UInt8 := if n ≤ 4 ∨ 4096 < n then [] else if n - 4 < (l.length : Int) then [] else sealed' (pad l n.toNat)
def layE (l : List UInt8) (n : Int) : Int := if n ≤ 4 ∨ 4096 < n then 1 else if n - 4 < (l.length : Int) then 2 else 0
def takeOk (l : List UInt8) : Bool := be4 (crc (l.take (l.length - 4))) == l.drop (l.length - 4)
def takeB (l : List UInt8) : List UInt8 := if l.length < 5 ∨ 4096 < l.length then [] else if takeOk l then l.take (l.length - 4) else []
def takeE (l : List UInt8) : Int := if l.length < 5 ∨ 4096 < l.length then 4 else if takeOk l then 0 else 6
theorem bv_ofNat (n : Nat) : bv (UInt8.ofNat n) = .int .u8 (((n % 256 : Nat) : Int)) := by simp [bv]
theorem be4_vals (n : Nat) : (bvs (be4 n)).toArray = #[.int .u8 ((n : Int) / 16777216 % 256), .int .u8 ((n : Int) / 65536 % 256), .int .u8 ((n : Int) / 256 % 256), .int .u8 ((n : Int) % 256)] := by
  simp only [bvs, be4, List.map_cons, List.map_nil, bv_ofNat]
  congr 1
theorem pad_length (l : List UInt8) (N : Nat) (h : l.length + 4 ≤ N) : (pad l N).length = N - 4 := by simp [pad]; omega

/-- parts written out in a new block -/
theorem parts_new {w : World} {B : Nat} (T : TypeId) (ps : List Part) (hB : B ≤ w.heap.size) (h : ∀ p ∈ ps, p.l.length = p.n ∧ p.n ≤ 9223372036854775807 ∧ Rd w B p.A p.l) :
    Parts (w.alloc (.cells (ps.map Part.val).toArray T)) (w.heap.size + 1) (some ⟨w.heap.size, 0, none⟩) ps := by
  refine ⟨fun _ => ⟨_, rfl, by show w.heap.size < _; omega, fun j hj => ?_⟩, fun p hp => ?_⟩
  · rw [add_zero_block, cell_of_row _ _ j _ T (0, 0) (heap_alloc_new w _)]
    simp [hj]
  · obtain ⟨h1, h2, h3⟩ := h p hp
    exact ⟨h1, h2, (h3.alloc hB _).more (by omega)⟩

set_option maxHeartbeats 400000 in
theorem four_any (n : Int) (h0 : 0 ≤ n) (h1 : n < 4294967296) (w : World) :
    Calls Try.prog 20 #[.int .i64 n] w fun e w' => e = .returned (.slice (some ⟨w.heap.size, 0, none⟩) 4 4) ∧ Row w' 5 w.heap.size (be4 n.toNat) ∧ Below w.heap.size w w' := by
  obtain ⟨M, rfl⟩ := Int.eq_ofNat_of_zero_le h0
  simp only [Int.toNat_natCast]
  have hv0 := be4_vals M
  rw [show (M : Int) / 16777216 % 256 = (M : Int) / 16777216 by omega] at hv0
  have hv := Lib.hid hv0
  clear hv0
  go_enter Try.func20, Try.ntmps20
  go_wp2
  go_ret
  refine ⟨rfl, ?_, (Below.refl _ _).alloc (Nat.le_refl _) _⟩
  unfold Row
  rw [hv.out]
  exact heap_alloc_new w _

set_option maxRecDepth 100000 in
set_option maxHeartbeats 800000 in
theorem lay_any (A : Option Addr) (n c : Nat) (N : Int) (l : List UInt8) (w : World) (B : Nat) (hB : B ≤ w.heap.size) (hn : l.length = n) (hm : n ≤ 140737488355328) (hr : Rd w B A l)
    (hN0 : -9223372036854775808 ≤ N) (hN1 : N ≤ 9223372036854775807) :
    Calls Try.prog 14 #[.slice A n c, .int .i64 N] w fun e w' => ∃ v, e = .returned (.tuple #[v, .int .i64 (layE l N)]) ∧ Own w' 5 w.heap.size v (layB l N) ∧ Below w.heap.size w w' := by
  subst hn
  by_cases hc1 : N ≤ 4 ∨ 4096 < N
  · have e1 : layE l N = 1 := by unfold layE; rw [if_pos hc1]
    have e2 : layB l N = [] := by unfold layB; rw [if_pos hc1]
    rw [e1, e2]
    clear e1 e2
    by_cases h4 : N ≤ 4
    · clear hc1
      go_enter Try.func14, Try.ntmps14
      go_wp2
      go_ret2
      exact ⟨_, rfl, Own.nil _ _ _, Below.refl _ _⟩
    · have h5 : 4096 < N := hc1.resolve_left h4
      clear hc1
      go_enter Try.func14, Try.ntmps14
      go_wp2
      go_ret2
      exact ⟨_, rfl, Own.nil _ _ _, Below.refl _ _⟩
  · by_cases hc2 : N - 4 < (l.length : Int)
    · have e1 : layE l N = 2 := by unfold layE; rw [if_neg hc1, if_pos hc2]
      have e2 : layB l N = [] := by unfold layB; rw [if_neg hc1, if_pos hc2]
      rw [e1, e2]
      clear e1 e2
      have h4 : 4 < N := by omega
      have h5 : N ≤ 4096 := by omega
      clear hc1
      go_enter Try.func14, Try.ntmps14
      go_wp2
      go_ret2
      exact ⟨_, rfl, Own.nil _ _ _, Below.refl _ _⟩
    · have e1 : layE l N = 0 := by unfold layE; rw [if_neg hc1, if_neg hc2]
      have e2 : layB l N = sealed' (pad l N.toNat) := by unfold layB; rw [if_neg hc1, if_neg hc2]
      rw [e1, e2]
      clear e1 e2
      obtain ⟨M, rfl⟩ := Int.eq_ofNat_of_zero_le (show 0 ≤ N by omega)
      simp only [Int.toNat_natCast]
      have h4 : 4 < M := by omega
      have h5 : M ≤ 4096 := by omega
      have h6 : l.length ≤ M - 4 := by omega
      have hpl := pad_length l M (by omega)
      have hr1 := hr.alloc hB (.cells (bvs (List.replicate M 0)).toArray 5)
      have hrow0 := Row.new w 5 (List.replicate M 0)
      have hb0 := (Below.refl w.heap.size w).alloc (Nat.le_refl _) (.cells (bvs (List.replicate M 0)).toArray 5)
      have e0 : l.take (M - 4) ++ (List.replicate M (0 : UInt8)).drop (0 + min l.length (M - 4)) = pad l M ++ [0, 0, 0, 0] := by
        rw [List.take_of_length_le h6, Nat.zero_add, Nat.min_eq_left h6, List.drop_replicate, pad, List.append_assoc]
        congr 1
        rw [show M - l.length = (M - 4 - l.length) + 4 by omega, ← List.replicate_append_replicate]
        rfl
      have hfit : 0 + (M - 4) ≤ (List.replicate M (0 : UInt8)).length := by simp
      generalize hl0 : List.replicate M (0 : UInt8) = Z at hr1 hrow0 hb0 e0 hfit
      have HZ := Lib.hid hl0
      have E0 := Lib.hid e0
      have hcr := crc_lt (pad l M)
      have hsl : sealed' (pad l M) = pad l M ++ be4 (crc (pad l M)) := rfl
      have HSL := Lib.hid hsl
      generalize pad l M = D at *
      have HPL := Lib.hid hpl
      clear hl0 e0 hc1 hc2 hpl hsl
      go_enter Try.func14, Try.ntmps14
      go_wp2_with (first
        | (with_reducible refine at_slot 23 ?_
           refine wpList_make_u8 u8 rfl (.tmp 21) (.tmp 22) rfl .i64 .i64 _ _ (M - 4) M rfl rfl (by omega) rfl (by omega) (by omega) ?_
           rw [HZ.out])
        | (with_reducible refine at_slot 26 ?_
           refine wpList_copy_u8 u8 rfl (.tmp 24) (.tmp 25) rfl w.heap.size 0 _ _ _ _ _ Z l B rfl rfl hrow0 hr1 rfl hfit ?_
           intro w2 hrow1 hg2
           rw [List.take_zero, List.nil_append, E0.out] at hrow1
           have hb2 := hb0.grown hg2 (by simp) (fun k hk => by injection hk with hk; omega)
           have hsz2 := hrow1.lt
           clear hg2)
        | (go_at_call 11
           have hO2 : Own w2 5 w.heap.size (.slice (some ⟨w.heap.size, 0, none⟩) (M - 4) M) D := hrow1.toOwn (Nat.le_refl _) HPL.out (by simp [HPL.out]; omega) (by omega)
           have hRd : Rd w2 w2.heap.size (some ⟨w.heap.size, 0, none⟩) D := Rd.of_own (n := M - 4) (c := M) (base := w.heap.size) (by have := hO2; unfold Own at this; rwa [HPL.out] at this)
           have hP := parts_new (w := w2) 22 [⟨some ⟨w.heap.size, 0, none⟩, M - 4, M, D⟩] (Nat.le_refl _) (by intro p hp; simp only [List.mem_singleton] at hp; subst hp; exact ⟨HPL.out, by show M - 4 ≤ _; omega, hRd⟩)
           refine (sum_any _ 1 1 [⟨some ⟨w.heap.size, 0, none⟩, M - 4, M, D⟩] _ (w2.heap.size + 1) (by simp) rfl (by omega) hP).mono ?_
           have hbo : bytesOf [⟨some ⟨w.heap.size, 0, none⟩, M - 4, M, D⟩] = D := by simp [bytesOf]
           rw [hbo]
           rintro e w3 ⟨rfl, hb3⟩
           have hb3' : Below w2.heap.size w2 w3 := ((Below.refl _ _).alloc (Nat.le_refl _) _).trans (hb3.mono (by simp))
           have hO3 := hO2.below hb3'
           have hbw3 := hb2.trans (hb3'.mono hb2.size)
           clear hb3 hb3' hP hRd hO2 hbo hb2 hrow1)
        | (go_at_call 20
           refine (four_any _ (by omega) (by omega) _).mono ?_
           rintro e w4 ⟨rfl, hrow4, hb4⟩
           have hO4 := hO3.below hb4
           have hR4 := hrow4.rd
           have hbw4 := hbw3.trans (hb4.mono hbw3.size)
           have hs4 := hbw4.size
           clear hb4 hO3 hbw3)
        | (with_reducible refine at_slot 32 ?_
           refine wpList_append_u8 u8 rfl (.tmp 27) (.tmp 31) rfl w.heap.size _ D _ 4 4 _ w4.heap.size rfl rfl hO4 hR4 rfl (by have := HPL.out; omega) hs4 ?_
           intro v5 w5 hO5 hg5 hat5))
      go_ret2
      refine ⟨v5, rfl, ?_, below_grown hbw4 hg5 hs4 hO4 (Nat.le_refl _)⟩
      rw [HSL.out]
      simpa using hO5

set_option maxRecDepth 100000 in
set_option maxHeartbeats 800000 in
theorem take_any (A : Option Addr) (n c : Nat) (l : List UInt8) (w : World) (B : Nat) (hB : B ≤ w.heap.size) (hn : l.length = n) (hnc : n ≤ c) (hm : n ≤ 140737488355328) (hr : Rd w B A l) :
    Calls Try.prog 15 #[.slice A n c] w fun e w' => ∃ v, e = .returned (.tuple #[v, .int .i64 (takeE l)]) ∧ Own w' 5 w.heap.size v (takeB l) ∧ Below w.heap.size w w' := by
  subst hn
  by_cases hc1 : l.length < 5 ∨ 4096 < l.length
  · have e1 : takeE l = 4 := by unfold takeE; rw [if_pos hc1]
    have e2 : takeB l = [] := by unfold takeB; rw [if_pos hc1]
    rw [e1, e2]
    clear e1 e2
    by_cases h4 : l.length < 5
    · clear hc1
      go_enter Try.func15, Try.ntmps15
      go_wp2
      go_ret2
      exact ⟨_, rfl, Own.nil _ _ _, Below.refl _ _⟩
    · have h5 : 4096 < l.length := hc1.resolve_left h4
      clear hc1
      go_enter Try.func15, Try.ntmps15
      go_wp2
      go_ret2
      exact ⟨_, rfl, Own.nil _ _ _, Below.refl _ _⟩
  · have h5 : 5 ≤ l.length := by omega
    have h6 : l.length ≤ 4096 := by omega
    have e1 : takeE l = if takeOk l then 0 else 6 := by unfold takeE; rw [if_neg hc1]
    have e2 : takeB l = if takeOk l then l.take (l.length - 4) else [] := by unfold takeB; rw [if_neg hc1]
    rw [e1, e2]
    clear e1 e2 hc1
    obtain ⟨M, hM⟩ : ∃ M, l.length = M + 4 := ⟨l.length - 4, by omega⟩
    have hMc : (M : Int) ≤ (c : Int) := by omega
    have hMc4 : (M : Int) + 4 ≤ (c : Int) := by omega
    have hM0 : (0 : Int) ≤ (M : Int) := by omega
    have hMne : (c = M) = False := by simp; omega
    have hM4 : (M : Int) ≤ (M : Int) + 4 := by omega
    have hM1 : 1 ≤ M := by omega
    have hM2 : M ≤ 4092 := by omega
    have hl4 : l.length - 4 = M := by omega
    rw [hl4]
    have ht : (l.take M).length = M := by simp; omega
    have hd : (l.drop M).length = 4 := by simp; omega
    have hok : takeOk l = (be4 (crc (l.take M)) == l.drop M) := by unfold takeOk; rw [hl4]
    have hrt := hr.take M
    have hrd := hr.drop M (cap := c) (by omega)
    rw [if_neg (by omega : ¬ c = M)] at hrd
    have hcr := crc_lt (l.take M)
    rw [hok]
    rw [hM]
    clear hok hM h5 h6 hl4 hnc hm hr
    generalize l.take M = T at *
    generalize l.drop M = D at *
    have HT := Lib.hid ht
    have HD := Lib.hid hd
    clear ht hd
    rcases hq : (be4 (crc T) == D) with _ | _
    · rw [if_neg (by decide), if_neg (by decide)]
      have HQ := Lib.hid hq
      clear hq
      go_enter Try.func15, Try.ntmps15
      go_wp2_with fail
      go_region_held3 (fun _ => True) (trivial) (first
        | (go_at_call 11
           have hP := parts_new (w := w.drew) 22 [⟨A, M, c, T⟩] (Nat.le_refl _) (by intro p hp; simp only [List.mem_singleton] at hp; subst hp; exact ⟨HT.out, by show M ≤ _; omega, hrt.more hB⟩)
           refine (sum_any _ 1 1 [⟨A, M, c, T⟩] _ (w.heap.size + 1) (by simp) rfl (by omega) hP).mono ?_
           have hbo : bytesOf [⟨A, M, c, T⟩] = T := by simp [bytesOf]
           rw [hbo]
           rintro e w3 ⟨rfl, hb3⟩
           have hbw3 : Below w.heap.size w w3 := ((Below.refl _ _).drew.alloc (Nat.le_refl _) _).trans (hb3.mono (by simp))
           clear hb3 hbo hP)
        | (go_at_call 20
           refine (four_any _ (by omega) (by omega) _).mono ?_
           rintro e w4 ⟨rfl, hrow4, hb4⟩
           have hbw4 := hbw3.trans (hb4.mono hbw3.size)
           have hR4 := hrow4.rd
           have hD4 := (hrd.more hB).below hbw4
           clear hb4 hbw3 hrow4)
        | (go_at_call 21
           refine (bytes_eq hR4 hD4 4 4 _ _ rfl HD.out).mono ?_
           rw [Int.toNat_natCast, HQ.out]
           rintro e w5 ⟨rfl, rfl⟩))
      go_wp2
      go_ret2
      exact ⟨_, rfl, Own.nil _ _ _, hbw4⟩
    · rw [if_pos rfl, if_pos rfl]
      have HQ := Lib.hid hq
      clear hq
      go_enter Try.func15, Try.ntmps15
      go_wp2_with fail
      go_region_held3 (fun _ => True) (trivial) (first
        | (go_at_call 11
           have hP := parts_new (w := w.drew) 22 [⟨A, M, c, T⟩] (Nat.le_refl _) (by intro p hp; simp only [List.mem_singleton] at hp; subst hp; exact ⟨HT.out, by show M ≤ _; omega, hrt.more hB⟩)
           refine (sum_any _ 1 1 [⟨A, M, c, T⟩] _ (w.heap.size + 1) (by simp) rfl (by omega) hP).mono ?_
           have hbo : bytesOf [⟨A, M, c, T⟩] = T := by simp [bytesOf]
           rw [hbo]
           rintro e w3 ⟨rfl, hb3⟩
           have hbw3 : Below w.heap.size w w3 := ((Below.refl _ _).drew.alloc (Nat.le_refl _) _).trans (hb3.mono (by simp))
           clear hb3 hbo hP)
        | (go_at_call 20
           refine (four_any _ (by omega) (by omega) _).mono ?_
           rintro e w4 ⟨rfl, hrow4, hb4⟩
           have hbw4 := hbw3.trans (hb4.mono hbw3.size)
           have hR4 := hrow4.rd
           have hD4 := (hrd.more hB).below hbw4
           clear hb4 hbw3 hrow4)
        | (go_at_call 21
           refine (bytes_eq hR4 hD4 4 4 _ _ rfl HD.out).mono ?_
           rw [Int.toNat_natCast, HQ.out]
           rintro e w5 ⟨rfl, rfl⟩))
      go_wp2_with (go_at_call 22; refine (clone_any A M c T _ w.heap.size HT.out (by omega) ((hrt.more hB).below hbw4)).mono ?_; rintro e w6 ⟨v6, rfl, hO6, hb6⟩)
      go_ret2
      exact ⟨_, rfl, hO6.mono hbw4.size, hbw4.trans (hb6.mono hbw4.size)⟩
end Go.Proofs.Ytndpaehcjaejpaa.Crc
