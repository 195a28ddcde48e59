/- The law 'CheckCuts' answers true for every input, and its arguments read afterwards as before; no condition. The frame follows the kit's skeleton; the walk is ours. -/
import Derived.Test.YtndpaehcjaejpaaRows
import Derived.Test.YtndpaehcjaejpaaArgs
import Derived.Test.YtndpaehcjaejpaaCheckSmall
import Derived.Deep.RegionHeld3
import Derived.WalkKit
import Derived.ProofKit
import Derived.OpenShut
import Derived.ShutString
import Derived.ChangeOld
import Derived.Below
import Derived.SizedLaws
namespace Go.Proofs.Ytndpaehcjaejpaa.checkCuts
open Go.ChangeShapes Go.WideShapes Go.ChangeAt Go.RowKit
set_option linter.unusedVariables false

theorem own : ownKnob Try.prog.godebug = none := by kernel_rfl
theorem laidOut : laidOutB Try.prog = true := by kernel_rfl

open Crc
theorem parts1 (T : TypeId) {A : Option Addr} {n : Nat} {l : List UInt8} {w : World} (hl : l.length = n) (hm : n ≤ 9223372036854775807) (c : Nat) (hr : Rd w w.heap.size A l) :
    ∀ w1 : World, Below w.heap.size w w1 → Parts (w1.alloc (.cells #[.slice A n c] T)) (w1.heap.size + 1) (some ⟨w1.heap.size, 0, none⟩) [⟨A, n, c, l⟩] := fun w1 hb =>
  parts_new T [⟨A, n, c, l⟩] (Nat.le_refl _) (by
    intro p hp; simp only [List.mem_singleton] at hp; subst hp
    exact ⟨hl, hm, (hr.below hb).more hb.size⟩)
theorem ret_bool {a b : Bool} (h : a = b) : Ending.returned (.bool a) = .returned (.bool b) := by rw [h]
theorem parts_drew {w : World} {B : Nat} {A : Option Addr} {ps : List Part} (h : Parts w B A ps) : Parts w.drew B A ps := h
theorem parts3 (T : TypeId) {A : Option Addr} {n : Nat} {l : List UInt8} {w : World} (hl : l.length = n) (hm : n ≤ 9223372036854775807) (c : Nat) (hr : Rd w w.heap.size A l) :
    ∀ w1 : World, Below w.heap.size w w1 → Parts (w1.alloc (.cells #[.slice none 0 0, .slice A n c, .slice none 0 0] T)) (w1.heap.size + 1) (some ⟨w1.heap.size, 0, none⟩) [⟨none, 0, 0, []⟩, ⟨A, n, c, l⟩, ⟨none, 0, 0, []⟩] := fun w1 hb =>
  parts_new T [⟨none, 0, 0, []⟩, ⟨A, n, c, l⟩, ⟨none, 0, 0, []⟩] (Nat.le_refl _) (by
    intro p hp
    simp only [List.mem_cons, List.not_mem_nil, or_false] at hp
    rcases hp with rfl | rfl | rfl
    · exact ⟨rfl, (by show 0 ≤ 9223372036854775807; omega), Rd.nil _ _ _⟩
    · exact ⟨hl, hm, (hr.below hb).more hb.size⟩
    · exact ⟨rfl, (by show 0 ≤ 9223372036854775807; omega), Rd.nil _ _ _⟩)
theorem parts2 (T : TypeId) {A : Option Addr} {n c K : Nat} {l : List UInt8} {w : World} (ht : (l.take K).length = K) (hd : (l.drop K).length = n - K) (hm : n ≤ 9223372036854775807 ∧ K ≤ n ∧ l.length = n) (hc : n ≤ c) (hr : Rd w w.heap.size A l) :
    ∀ w1 : World, Below w.heap.size w w1 → Parts (w1.alloc (.cells #[.slice A K c, .slice (if c = K then A else A.map (·.add K)) (n - K) (c - K)] T)) (w1.heap.size + 1) (some ⟨w1.heap.size, 0, none⟩) [⟨A, K, c, l.take K⟩, ⟨if c = K then A else A.map (·.add K), n - K, c - K, l.drop K⟩] := fun w1 hb =>
  parts_new T [⟨A, K, c, l.take K⟩, ⟨if c = K then A else A.map (·.add K), n - K, c - K, l.drop K⟩] (Nat.le_refl _) (by
    intro p hp
    simp only [List.mem_cons, List.not_mem_nil, or_false] at hp
    rcases hp with rfl | rfl
    · exact ⟨ht, (by show K ≤ 9223372036854775807; omega), ((hr.take K).below hb).more hb.size⟩
    · exact ⟨hd, (by show n - K ≤ 9223372036854775807; omega), ((hr.drop K (cap := c) (by omega)).below hb).more hb.size⟩)

set_option maxRecDepth 100000 in
set_option maxHeartbeats 800000 in
theorem walk (a0 : Option Addr) (len0 cap0 : Nat) (l0 : List UInt8) (a1 : Int) (w : World) (w0 : ArgB w a0 len0 cap0 l0) (w1 : (Lit.int .i64 a1).wf = true) :
    Calls Try.prog 8 #[.slice a0 len0 cap0, .int .i64 a1] w fun e w' => e = .returned (.bool true) ∧ Below w.heap.size w w' := by
  obtain ⟨hl0, hf0, hm0, hr0⟩ := w0
  obtain ⟨hb10, hb11⟩ := bounds_i64 w1
  by_cases hneg : a1 < 0
  · go_enter Try.func8, Try.ntmps8
    go_wp2_with (go_at_call 9; refine (small_any _).mono ?_; rintro e w1 ⟨rfl, hb1⟩)
    go_ret
    exact ⟨rfl, hb1⟩
  · obtain ⟨K, rfl⟩ := Int.eq_ofNat_of_zero_le (show 0 ≤ a1 by omega)
    by_cases hbig : len0 < K
    · go_enter Try.func8, Try.ntmps8
      go_wp2_with (go_at_call 9; refine (small_any _).mono ?_; rintro e w1 ⟨rfl, hb1⟩)
      go_ret
      exact ⟨rfl, hb1⟩
    · have hK : K ≤ len0 := by omega
      clear hbig hneg
      by_cases hlong : 65536 < len0
      · go_enter Try.func8, Try.ntmps8
        go_wp2_with (go_at_call 9; refine (small_any _).mono ?_; rintro e w1 ⟨rfl, hb1⟩)
        go_ret
        exact ⟨rfl, hb1⟩
      · have h16 : len0 ≤ 65536 := by omega
        clear hlong
        have htk : (l0.take K).length = K := by simp; omega
        have hdk : (l0.drop K).length = len0 - K := by simp; omega
        have hcr := crc_lt l0
        obtain ⟨C, hC⟩ : ∃ C, crc l0 = C := ⟨_, rfl⟩
        rw [hC] at hcr
        have HC := Lib.hid hC
        clear hC
        have hp1 := parts1 (22) hl0 (by omega : len0 ≤ 9223372036854775807) cap0 hr0
        have hp2 := parts2 (22) (l := l0) (K := K) htk hdk ⟨by omega, hK, hl0⟩ hf0 hr0
        have hp3 := parts3 (22) hl0 (by omega : len0 ≤ 9223372036854775807) cap0 hr0
        have HP1 := Lib.hid hp1
        have HP3 := Lib.hid hp3
        have k0 : (0 : Int) ≤ (K : Int) := by omega
        have k1 : (K : Int) ≤ (len0 : Int) := by omega
        have k2 : (K : Int) ≤ (cap0 : Int) := by omega
        clear hp1 hp3 htk hdk
        by_cases hck : cap0 = K
        · have hlk : len0 = K := by omega
          subst hck
          subst hlk
          rw [show (if len0 = len0 then a0 else a0.map (·.add len0)) = a0 by simp] at hp2
          simp only [Nat.sub_self] at hp2
          have e1 : l0.take len0 = l0 := by rw [List.take_of_length_le]; omega
          have e2 : l0.drop len0 = [] := by rw [List.drop_eq_nil_of_le]; omega
          rw [e1, e2] at hp2
          have HP2 := Lib.hid hp2
          clear hp2 e1 e2
          go_enter Try.func8, Try.ntmps8
          go_wp2_with (first
            | (go_at_call 9; refine (small_any _).mono ?_; rintro e w1 ⟨rfl, hb1⟩)
            | (go_at_call 11
               have hq := HP1.out _ hb1
               refine (sum_any _ 1 1 _ _ _ (by simp) rfl (by omega) hq).mono ?_
               rw [show bytesOf [⟨a0, len0, len0, l0⟩] = l0 by simp [bytesOf], HC.out]
               rintro e w2 ⟨rfl, hb2⟩
               have hbw2 := hb1.trans ((((Below.refl w1.heap.size w1).alloc (Nat.le_refl _) _).trans (hb2.mono (by simp))).mono hb1.size)
               clear hb2 hq))
          go_region_held3 (fun _ => True) (trivial) (first
            | (go_at_call 11
               with_reducible show Calls _ _ #[Value.slice _ 2 2] _ _
               have hq2 := parts_drew (HP2.out _ hbw2)
               refine (sum_any _ 2 2 _ _ _ (by simp) rfl (by omega) hq2).mono ?_
               rw [show bytesOf [⟨a0, len0, len0, l0⟩, ⟨a0, 0, 0, []⟩] = l0 by simp [bytesOf], HC.out]
               rintro e w3 ⟨rfl, hb3⟩
               have hbw3 := hbw2.trans ((((Below.refl w2.heap.size w2).alloc (Nat.le_refl _) _).drew.trans (hb3.mono (by simp))).mono hbw2.size)
               clear hb3 hq2)
            | (go_at_call 11
               with_reducible show Calls _ _ #[Value.slice _ 3 3] _ _
               have hq3 := HP3.out _ hbw3
               refine (sum_any _ 3 3 _ _ _ (by simp) rfl (by omega) hq3).mono ?_
               rw [show bytesOf [⟨none, 0, 0, []⟩, ⟨a0, len0, len0, l0⟩, ⟨none, 0, 0, []⟩] = l0 by simp [bytesOf], HC.out]
               rintro e w4 ⟨rfl, hb4⟩
               have hbw4 := hbw3.trans ((((Below.refl w3.heap.size w3).alloc (Nat.le_refl _) _).trans (hb4.mono (by simp))).mono hbw3.size)
               clear hb4 hq3))
          go_wp2
          go_ret
          exact ⟨ret_bool (decide_eq_true (by omega)), hbw4⟩
        · rw [if_neg hck] at hp2
          have HP2 := Lib.hid hp2
          have hck' : (cap0 = K) = False := by simp [hck]
          clear hp2 hck
          go_enter Try.func8, Try.ntmps8
          go_wp2_with (first
            | (go_at_call 9; refine (small_any _).mono ?_; rintro e w1 ⟨rfl, hb1⟩)
            | (go_at_call 11
               have hq := HP1.out _ hb1
               refine (sum_any _ 1 1 _ _ _ (by simp) rfl (by omega) hq).mono ?_
               rw [show bytesOf [⟨a0, len0, cap0, l0⟩] = l0 by simp [bytesOf], HC.out]
               rintro e w2 ⟨rfl, hb2⟩
               have hbw2 := hb1.trans ((((Below.refl w1.heap.size w1).alloc (Nat.le_refl _) _).trans (hb2.mono (by simp))).mono hb1.size)
               clear hb2 hq))
          go_region_held3 (fun _ => True) (trivial) (first
            | (go_at_call 11
               with_reducible show Calls _ _ #[Value.slice _ 2 2] _ _
               have hq2 := parts_drew (HP2.out _ hbw2)
               refine (sum_any _ 2 2 _ _ _ (by simp) rfl (by omega) hq2).mono ?_
               rw [show bytesOf [⟨a0, K, cap0, l0.take K⟩, ⟨a0.map (·.add K), len0 - K, cap0 - K, l0.drop K⟩] = l0 by simp [bytesOf], HC.out]
               rintro e w3 ⟨rfl, hb3⟩
               have hbw3 := hbw2.trans ((((Below.refl w2.heap.size w2).alloc (Nat.le_refl _) _).drew.trans (hb3.mono (by simp))).mono hbw2.size)
               clear hb3 hq2)
            | (go_at_call 11
               with_reducible show Calls _ _ #[Value.slice _ 3 3] _ _
               have hq3 := HP3.out _ hbw3
               refine (sum_any _ 3 3 _ _ _ (by simp) rfl (by omega) hq3).mono ?_
               rw [show bytesOf [⟨none, 0, 0, []⟩, ⟨a0, len0, cap0, l0⟩, ⟨none, 0, 0, []⟩] = l0 by simp [bytesOf], HC.out]
               rintro e w4 ⟨rfl, hb4⟩
               have hbw4 := hbw3.trans ((((Below.refl w3.heap.size w3).alloc (Nat.le_refl _) _).trans (hb4.mono (by simp))).mono hbw3.size)
               clear hb4 hq3))
          go_wp2
          go_ret
          exact ⟨ret_bool (decide_eq_true (by omega)), hbw4⟩

set_option maxRecDepth 100000 in
theorem lifted (os : Os) (started : os.Started) (H : Type) (enc : TypeId × Value → H) :
    ReturnsInHanded {} Try.checked os 8 .any (Rows.checkCutsSpec.pre6 enc Try.prog Try.f8 Rows.checkCutsRow.domain false) (Rows.checkCutsSpec.post enc Try.prog Try.f8 false true false false) := by
  refine returnsInHanded_of_change_sized (C := Try.checked) own started (by kernel_rfl) Try.func8
    (ChangeSpec.witness6 (enc := enc) (C := Try.checked) false ⟨#[], #[.slice none 0 0, .int .i64 0], []⟩ 8 (by kernel_rfl) (by kernel_rfl) (by kernel_rfl) (by kernel_rfl)) ?_
  intro W base args ds gs before hval0 hW hcnd hsz0 _
  have hval : ∀ (j : Nat) t v, Try.f8.params[j]? = some t → args[j]? = some v → Value.okWide Try.prog W .any base t v := hval0
  have hsz : (DataW.weightsEach Try.prog (Try.f8.params.toList ++ Rows.checkCutsSpec.plain.varTypes Try.prog) (ds ++ gs)).all (· ≤ reachBytes) = true := hsz0
  clear hsz0
  have hW' := hW
  obtain ⟨p, q, hA0, hV, rfl, hfz, hnd⟩ := hW
  have hA : DataW.TrodAll enc Try.prog W 0 (fun _ => true) true Try.f8.params.toList args.toList ds p := hA0
  rw [Try.params8] at hA hval hsz
  obtain ⟨v0, vs0, d0, ds0, p0, q0, hargs, rfl, rfl, h0, r0⟩ := trodAll_cons hA
  obtain ⟨v1, vs1, d1, ds1, p1, q1, rfl, rfl, rfl, h1, r1⟩ := trodAll_cons r0
  obtain ⟨rfl, rfl, rfl⟩ := trodAll_nil r1
  obtain rfl : args = #[v0, v1] := by cases args; simp_all
  obtain ⟨rfl, rfl⟩ := trodVars_none hV
  obtain ⟨a0, len0, cap0, rfl⟩ := okWide_slice Try.underlying22 (hval 0 22 v0 rfl rfl)
  have k0 := h0
  have lt0 : ∀ x ∈ p0, x.block < W.heap.size := by obtain ⟨m, hm⟩ := k0; exact DataW.trod_lt m _ _ _ hm
  obtain ⟨l0, w0⟩ := open_bytes u8 (by kernel_rfl) (by kernel_rfl) h0 hsz (j := 0) rfl rfl
  clear hsz
  obtain ⟨a1, rfl, rfl, rfl, w1⟩ := open_int Try.underlying3 (hval 1 3 v1 rfl rfl) h1
  clear hA0 hval0
  simp only [List.append_nil] at hW'
  refine (walk a0 len0 cap0 l0 a1 W w0 w1).mono fun e W' ⟨he, bel⟩ => ?_
  subst he
  exact ⟨_, rfl, _, _, _, [], _, [], hW', trodAll_mk1 (shut_bool Try.underlying4 _), (trodAll_cons_mk (Below.trod laidOut (by kernel_rfl) (of_decide_eq_true (by kernel_rfl)) k0 bel lt0) (trodAll_cons_mk (shut_int Try.underlying3 w1) trodAll_mk0)), rfl, bel.frame _, fun h => by cases h⟩

theorem over : Rows.checkCutsRow.holds Try.pinned (OpenSpec.ofChange Rows.checkCutsSpec) :=
  OpenClaim.holds_of_wide 8 Try.f8 rfl rfl rfl rfl rfl rfl rfl ⟨rfl, rfl, rfl, rfl, rfl⟩ rfl rfl rfl rfl rfl (by kernel_rfl) Try.func8 (by kernel_rfl)
    (of_decide_eq_true (by kernel_rfl)) (by unfold Func.isWrapper; first | (rw [if_pos (by decide +kernel)]; kernel_rfl) | (rw [if_neg (by decide +kernel)]; exact ⟨rfl, rfl⟩))
    (fun os started H enc _ => lifted os started H enc)

theorem proved : Rows.CheckCutsSaid := over
end Go.Proofs.Ytndpaehcjaejpaa.checkCuts
