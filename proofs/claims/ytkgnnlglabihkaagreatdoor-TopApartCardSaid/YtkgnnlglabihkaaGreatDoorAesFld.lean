/- What the field's functions compute that the block cipher calls: contracts, by walking their text. -/
import Derived.Test.YtkgnnlglabihkaaGreatDoorRows
import Derived.Test.YtkgnnlglabihkaaGreatDoorFldAll
import Derived.Test.YtkgnnlglabihkaaGreatDoorMemAll
import Derived.WalkKit
import Derived.ProofKit
import Derived.OpenShut
import Derived.WalkLawsBesides
import Derived.WalkSpells
import Derived.Lib.Hide
namespace Go.Proofs.YtkgnnlglabihkaaGreatDoor.Fld
open Go Go.ChangeShapes Go.WideShapes Go.ChangeAt Go.RowKit

theorem ret_int {k : IntKind} {a b : Int} (h : a = b) : Ending.returned (.int k a) = .returned (.int k b) := by rw [h]

/-! ### bits -/
theorem xt_go : ∀ a : Nat, a < 256 → bits BinOp.xor IntKind.u8 ((a:Int) * 2 % 256) (bits BinOp.and IntKind.u8 27 (-((a:Int) / 128) % 256)) = ((xt a : Nat) : Int) := by decide +kernel
theorem neg_bit : ∀ b : Nat, b < 256 → -(bits BinOp.and IntKind.u8 (b:Int) 1) % 256 = ((b % 2 * 255 : Nat) : Int) := by decide +kernel
theorem and_ones (a : Nat) (ha : a < 256) : a &&& 255 = a := by
  have := Nat.and_two_pow_sub_one_eq_mod a 8
  simp at this
  rw [this]; omega
theorem mul_go (p a b : Nat) (hp : p < 256) (ha : a < 256) (hb : b < 256) :
    bits BinOp.xor IntKind.u8 (p:Int) (bits BinOp.and IntKind.u8 (a:Int) (-(bits BinOp.and IntKind.u8 (b:Int) 1) % 256)) = ((p ^^^ (b % 2 * a) : Nat) : Int) := by
  rw [neg_bit b hb, u8_and_nat a _ ha (by omega)]
  have e : a &&& (b % 2 * 255) = b % 2 * a := by
    rcases Nat.mod_two_eq_zero_or_one b with e | e <;> rw [e]
    · simp
    · simpa using and_ones a ha
  rw [e, u8_xor_nat p _ hp (bit_mul_lt b a ha)]

theorem low_bit (M : Nat) (h : (M : Int) ≤ 9223372036854775807) : (bits BinOp.and IntKind.i64 (M : Int) 1 == 0) = decide (M % 2 = 0) := by
  rw [show (1 : Int) = ((1 : Nat) : Int) from rfl, i64_and M 1 (by omega) (by omega), Nat.and_one_is_mod, Bool.eq_iff_iff]
  simp only [beq_iff_eq, decide_eq_true_eq]
  omega
theorem rot_go1 : ∀ a : Nat, a < 256 → bits BinOp.or IntKind.u8 ((a:Int) * 2 % 256) ((a:Int) / 128) = ((rot 1 a : Nat) : Int) := by decide +kernel
theorem rot_go3 : ∀ a : Nat, a < 256 → bits BinOp.or IntKind.u8 ((a:Int) * 8 % 256) ((a:Int) / 32) = ((rot 3 a : Nat) : Int) := by decide +kernel
theorem rot_go6 : ∀ a : Nat, a < 256 → bits BinOp.or IntKind.u8 ((a:Int) * 64 % 256) ((a:Int) / 4) = ((rot 6 a : Nat) : Int) := by decide +kernel

/-! ### the program's own functions -/
set_option maxRecDepth 100000 in
set_option maxHeartbeats 400000 in
theorem twice_any (a : Int) (h0 : 0 ≤ a) (h1 : a < 256) (w : World) :
    Calls Tryz.prog 152 #[.int .u8 a] w fun e w' => e = .returned (.int .u8 ((xt a.toNat : Nat) : Int)) ∧ w = w' := by
  obtain ⟨A, rfl⟩ := Int.eq_ofNat_of_zero_le h0
  have hA : A < 256 := by omega
  go_enter Tryz.func152, Tryz.ntmps152
  go_wp2
  go_ret
  exact ⟨ret_int (xt_go A hA), rfl⟩

set_option maxRecDepth 100000 in
set_option maxHeartbeats 400000 in
theorem mul_any (a b : Int) (h0 : 0 ≤ a) (h1 : a < 256) (h2 : 0 ≤ b) (h3 : b < 256) (w : World) :
    Calls Tryz.prog 136 #[.int .u8 a, .int .u8 b] w fun e w' => e = .returned (.int .u8 ((gm a.toNat b.toNat : Nat) : Int)) ∧ w = w' := by
  obtain ⟨A, rfl⟩ := Int.eq_ofNat_of_zero_le h0
  obtain ⟨B, rfl⟩ := Int.eq_ofNat_of_zero_le h2
  simp only [Int.toNat_natCast]
  go_enter Tryz.func136, Tryz.ntmps136
  go_wp2
  go_loop [0, 1, 5] (fun a b p => ∃ k x y z : Nat, x < 256 ∧ y < 2 ^ k ∧ k ≤ 8 ∧ z < 256 ∧ a = .int .u8 x ∧ b = .int .u8 y ∧ p = .int .u8 z ∧ Hid (gmL k x y z = gm A B)) (fun _ b _ => (intOf b).toNat)
  case atStart => exact ⟨8, A, B, 0, by omega, by omega, by omega, by omega, rfl, rfl, rfl, Lib.hid rfl⟩
  case round =>
    obtain ⟨k, x, y, z, hx, hy, hk, hz, rfl, rfl, rfl, H⟩ := hrel
    have hy8 : y < 256 := Nat.lt_of_lt_of_le hy (Nat.pow_le_pow_right (n := 2) (by omega) hk)
    by_cases hlt : 0 < y
    · cases k with
      | zero => exfalso; simp at hy; omega
      | succ k =>
        have hy2 : y / 2 < 2 ^ k := by rw [Nat.pow_succ] at hy; omega
        have Hy2 : Hid (y / 2 < 2 ^ k) := Lib.hid hy2
        clear hy hy2
        go_wp2_with (go_at_call 152; refine (twice_any _ (by omega) (by omega) _).mono ?_; rintro e w' ⟨rfl, rfl⟩)
        go_round
        case rel =>
          refine ⟨k, xt x, y / 2, z ^^^ (y % 2 * x), xt_lt x hx, Hy2.out, by omega, xor_lt hz (bit_mul_lt y x hx), rfl, by go_num, ?_, ?_⟩
          · rw [mul_go z x y hz hx hy8]
          · exact Lib.hid H.out
        case measure => simp [intOf]; omega
    · have hy0 : y = 0 := by omega
      subst hy0
      go_wp2
      go_ret
      refine ⟨?_, rfl⟩
      have h := H.out
      rw [gmL_zero] at h
      rw [h]; rfl

set_option maxRecDepth 100000 in
set_option maxHeartbeats 400000 in
theorem pow_any (a n : Int) (h0 : 0 ≤ a) (h1 : a < 256) (h2 : n ≤ 9223372036854775807) (w : World) :
    Calls Tryz.prog 155 #[.int .u8 a, .int .i64 n] w fun e w' => e = .returned (.int .u8 ((gpow a.toNat n.toNat : Nat) : Int)) ∧ w = w' := by
  obtain ⟨A, rfl⟩ := Int.eq_ofNat_of_zero_le h0
  simp only [Int.toNat_natCast]
  go_enter Tryz.func155, Tryz.ntmps155
  go_wp2
  go_step3
  go_wp2
  go_step3
  go_wp2
  go_loop [0, 1, 5] (fun a n' p => ∃ (x z : Nat) (m : Int), x < 256 ∧ z < 256 ∧ m ≤ 9223372036854775807 ∧ a = .int .u8 x ∧ n' = .int .i64 m ∧ p = .int .u8 z ∧ Hid (gm z (gpow x m.toNat) = gpow A n.toNat)) (fun _ n' _ => (intOf n').toNat)
  case atStart => exact ⟨A, 1, n, by omega, by omega, h2, rfl, rfl, rfl, Lib.hid (one_gm _ (gpow_lt A (by omega) _))⟩
  case round =>
    obtain ⟨x, z, m, hx, hz, hm, rfl, rfl, rfl, H⟩ := hrel
    by_cases hlt : 0 < m
    · obtain ⟨M, rfl⟩ := Int.eq_ofNat_of_zero_le (show 0 ≤ m by omega)
      rw [Int.toNat_natCast] at H
      have hb : (bits BinOp.and IntKind.i64 (M : Int) 1 == 0) = decide (M % 2 = 0) := low_bit M (by omega)
      rcases Nat.mod_two_eq_zero_or_one M with e | e
      · rw [e] at hb
        have hb' : (bits BinOp.and IntKind.i64 (M : Int) 1 == 0) = true := by rw [hb]; rfl
        have E := Lib.hid e
        clear hb e
        go_wp2_with (go_at_call 136; refine (mul_any _ _ (by omega) (by omega) (by omega) (by omega) _).mono ?_; rintro e w' ⟨rfl, rfl⟩)
        go_round
        case rel =>
          have e := E.out
          refine ⟨gm x x, z, (M / 2 : Nat), gm_lt x x hx, hz, by omega, rfl, by go_num, rfl, ?_⟩
          refine Lib.hid ?_
          rw [Int.toNat_natCast, gpow_sq x hx, show 2 * (M / 2) = M by omega]
          exact H.out
        case measure => simp [intOf]; omega
      · rw [e] at hb
        have hb' : (bits BinOp.and IntKind.i64 (M : Int) 1 == 0) = false := by rw [hb]; rfl
        have E := Lib.hid e
        clear hb e
        go_wp2_with (go_at_call 136; refine (mul_any _ _ (by omega) (by omega) (by omega) (by omega) _).mono ?_; rintro e w' ⟨rfl, rfl⟩)
        go_round
        case rel =>
          refine ⟨x, gm z x, (M - 1 : Nat), hx, gm_lt z x hz, by omega, rfl, by go_num, rfl, ?_⟩
          refine Lib.hid ?_
          have e : gpow x M = gm x (gpow x (M - 1)) := by
            have := gpow_add x hx 1 (M - 1)
            rw [gpow_one x hx, show 1 + (M - 1) = M by omega] at this
            exact this
          rw [Int.toNat_natCast, gm_assoc z x _ hz hx (gpow_lt x hx _), ← e]
          exact H.out
        case measure => simp [intOf]; omega
    · have h := H.out
      rw [show m.toNat = 0 by omega] at h
      have h' := Lib.hid h
      have hle : m ≤ 0 := by omega
      clear H h hlt
      go_wp2
      go_ret
      refine ⟨ret_int ?_, rfl⟩
      rw [← h'.out, show gpow x 0 = 1 from rfl, gm_one z hz]

set_option maxRecDepth 100000 in
set_option maxHeartbeats 400000 in
theorem rot_1 (a : Int) (h0 : 0 ≤ a) (h1 : a < 256) (w : World) :
    Calls Tryz.prog 151 #[.int .u8 a, .int .i64 1] w fun e w' => e = .returned (.int .u8 ((rot 1 a.toNat : Nat) : Int)) ∧ w = w' := by
  obtain ⟨A, rfl⟩ := Int.eq_ofNat_of_zero_le h0
  simp only [Int.toNat_natCast]
  have hs : bits BinOp.and IntKind.u64 1 7 = 1 := by decide +kernel
  go_enter Tryz.func151, Tryz.ntmps151
  go_wp2
  refine bodyPost_ret (v := .int .u8 ((rot 1 A : Nat) : Int)) ?_ rfl ⟨rfl, rfl⟩
  have e := rot_go1 A (by omega)
  simp [results, Tryz.results151, go_sem, e]

set_option maxRecDepth 100000 in
set_option maxHeartbeats 400000 in
theorem rot_3 (a : Int) (h0 : 0 ≤ a) (h1 : a < 256) (w : World) :
    Calls Tryz.prog 151 #[.int .u8 a, .int .i64 3] w fun e w' => e = .returned (.int .u8 ((rot 3 a.toNat : Nat) : Int)) ∧ w = w' := by
  obtain ⟨A, rfl⟩ := Int.eq_ofNat_of_zero_le h0
  simp only [Int.toNat_natCast]
  have hs : bits BinOp.and IntKind.u64 3 7 = 3 := by decide +kernel
  go_enter Tryz.func151, Tryz.ntmps151
  go_wp2
  refine bodyPost_ret (v := .int .u8 ((rot 3 A : Nat) : Int)) ?_ rfl ⟨rfl, rfl⟩
  have e := rot_go3 A (by omega)
  simp [results, Tryz.results151, go_sem, e]

set_option maxRecDepth 100000 in
set_option maxHeartbeats 400000 in
theorem rot_6 (a : Int) (h0 : 0 ≤ a) (h1 : a < 256) (w : World) :
    Calls Tryz.prog 151 #[.int .u8 a, .int .i64 6] w fun e w' => e = .returned (.int .u8 ((rot 6 a.toNat : Nat) : Int)) ∧ w = w' := by
  obtain ⟨A, rfl⟩ := Int.eq_ofNat_of_zero_le h0
  simp only [Int.toNat_natCast]
  have hs : bits BinOp.and IntKind.u64 6 7 = 6 := by decide +kernel
  go_enter Tryz.func151, Tryz.ntmps151
  go_wp2
  refine bodyPost_ret (v := .int .u8 ((rot 6 A : Nat) : Int)) ?_ rfl ⟨rfl, rfl⟩
  have e := rot_go6 A (by omega)
  simp [results, Tryz.results151, go_sem, e]

set_option maxHeartbeats 400000 in
theorem inv_any (a : Int) (h0 : 0 ≤ a) (h1 : a < 256) (w : World) :
    Calls Tryz.prog 150 #[.int .u8 a] w fun e w' => e = .returned (.int .u8 ((inv a.toNat : Nat) : Int)) ∧ w = w' := by
  go_enter Tryz.func150, Tryz.ntmps150
  go_wp2_with (go_at_call 155; refine (pow_any _ _ (by omega) (by omega) (by omega) _).mono ?_; rintro e w' ⟨rfl, rfl⟩)
  go_ret
  exact ⟨rfl, rfl⟩

def rots : Nat → Nat → Nat
  | 0, i => i
  | k+1, i => rot 1 (rots k i)
def affs : Nat → Nat → Nat
  | 0, i => i ^^^ 99
  | k+1, i => affs k i ^^^ rots (k+1) i
theorem rots_lt (k i : Nat) (hi : i < 256) : rots k i < 256 := by
  induction k with
  | zero => exact hi
  | succ k ih => exact (rot_lt _ ih).1
theorem affs_lt (k i : Nat) (hi : i < 256) : affs k i < 256 := by
  induction k with
  | zero => exact xor_lt hi (by omega)
  | succ k ih => exact xor_lt ih (rots_lt (k+1) i hi)

set_option maxRecDepth 100000 in
set_option maxHeartbeats 400000 in
theorem box_any (a : Int) (h0 : 0 ≤ a) (h1 : a < 256) (w : World) :
    Calls Tryz.prog 135 #[.int .u8 a] w fun e w' => e = .returned (.int .u8 ((box a.toNat : Nat) : Int)) ∧ w = w' := by
  obtain ⟨A, rfl⟩ := Int.eq_ofNat_of_zero_le h0
  simp only [Int.toNat_natCast]
  have hA : A < 256 := by omega
  have hi := inv_lt A hA
  have x0 : bits BinOp.xor IntKind.u8 (inv A : Nat) 99 = ((inv A ^^^ 99 : Nat) : Int) := u8_xor_nat _ 99 hi (by omega)
  have X := Lib.hid x0
  clear x0
  go_enter Tryz.func135, Tryz.ntmps135
  go_wp2_with (go_at_call 150; refine (inv_any _ (by omega) (by omega) _).mono ?_; rintro e w' ⟨rfl, rfl⟩)
  go_loop [3, 4, 9] (fun i p j => ∃ k : Nat, k ≤ 4 ∧ j = .int .i64 k ∧ i = .int .u8 (rots k (inv A) : Nat) ∧ p = .int .u8 (affs k (inv A) : Nat)) (fun _ _ j => 4 - (intOf j).toNat)
  case atStart => exact ⟨0, by omega, rfl, rfl, by rw [X.out]; rfl⟩
  case round =>
    obtain ⟨k, hk, rfl, rfl, rfl⟩ := hrel
    by_cases hlt : k < 4
    · have hr := rots_lt k _ hi
      have hr1 : rot 1 (rots k (inv A)) < 256 := rots_lt (k + 1) _ hi
      have ha := affs_lt k _ hi
      go_wp2_with (go_at_call 151; refine (rot_1 _ (by omega) (by omega) _).mono ?_; rintro e w' ⟨rfl, rfl⟩)
      go_round
      case rel =>
        refine ⟨k + 1, by omega, by go_num, rfl, ?_⟩
        rw [u8_xor_nat _ _ ha hr1]; rfl
      case measure => simp [intOf]; omega
    · have hk4 : k = 4 := by omega
      subst hk4
      go_wp2
      go_ret
      exact ⟨ret_int rfl, rfl⟩
end Go.Proofs.YtkgnnlglabihkaaGreatDoor.Fld
