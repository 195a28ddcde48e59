/- The byte maps, and the small case that each statement begins with: contracts. -/
import Derived.Test.YtcjmglpnkjlkmaaFldWalks
namespace Go.Proofs.Ytcjmglpnkjlkmaa.Fld
open Go Go.ChangeShapes Go.WideShapes Go.ChangeAt Go.RowKit

def rots : Nat → Nat → Nat
  | 0, i => i
  | k+1, i => rot 1 (rots k i)
def affs : Nat → Nat → Nat
  | 0, i => i ^^^ 99
  | k+1, i => affs k i ^^^ rots (k+1) i
theorem rots_lt (k i : Nat) (hi : i < 256) : rots k i < 256 := by
  induction k with
  | zero => exact hi
  | succ k ih => exact (rot_lt _ ih).1
theorem affs_lt (k i : Nat) (hi : i < 256) : affs k i < 256 := by
  induction k with
  | zero => exact xor_lt hi (by omega)
  | succ k ih => exact xor_lt ih (rots_lt (k+1) i hi)

set_option maxRecDepth 100000 in
set_option maxHeartbeats 400000 in
theorem box_any (a : Int) (h0 : 0 ≤ a) (h1 : a < 256) (w : World) :
    Calls Try.prog 18 #[.int .u8 a] w fun e w' => e = .returned (.int .u8 ((box a.toNat : Nat) : Int)) ∧ w = w' := by
  obtain ⟨A, rfl⟩ := Int.eq_ofNat_of_zero_le h0
  simp only [Int.toNat_natCast]
  have hA : A < 256 := by omega
  have hi := inv_lt A hA
  have x0 : bits BinOp.xor IntKind.u8 (inv A : Nat) 99 = ((inv A ^^^ 99 : Nat) : Int) := u8_xor_nat _ 99 hi (by omega)
  have X := Lib.hid x0
  clear x0
  go_enter Try.func18, Try.ntmps18
  go_wp2_with (go_at_call 16; refine (inv_any _ (by omega) (by omega) _).mono ?_; rintro e w' ⟨rfl, rfl⟩)
  go_loop [3, 4, 9] (fun i p j => ∃ k : Nat, k ≤ 4 ∧ j = .int .i64 k ∧ i = .int .u8 (rots k (inv A) : Nat) ∧ p = .int .u8 (affs k (inv A) : Nat)) (fun _ _ j => 4 - (intOf j).toNat)
  case atStart => exact ⟨0, by omega, rfl, rfl, by rw [X.out]; rfl⟩
  case round =>
    obtain ⟨k, hk, rfl, rfl, rfl⟩ := hrel
    by_cases hlt : k < 4
    · have hr := rots_lt k _ hi
      have hr1 : rot 1 (rots k (inv A)) < 256 := rots_lt (k + 1) _ hi
      have ha := affs_lt k _ hi
      go_wp2_with (go_at_call 23; refine (rot_1 _ (by omega) (by omega) _).mono ?_; rintro e w' ⟨rfl, rfl⟩)
      go_round
      case rel =>
        refine ⟨k + 1, by omega, by go_num, rfl, ?_⟩
        rw [u8_xor_nat _ _ ha hr1]; rfl
      case measure => simp [intOf]; omega
    · have hk4 : k = 4 := by omega
      subst hk4
      go_wp2
      go_ret
      exact ⟨ret_int rfl, rfl⟩

set_option maxHeartbeats 400000 in
theorem unbox_any (a : Int) (h0 : 0 ≤ a) (h1 : a < 256) (w : World) :
    Calls Try.prog 20 #[.int .u8 a] w fun e w' => e = .returned (.int .u8 ((unbox a.toNat : Nat) : Int)) ∧ w = w' := by
  obtain ⟨A, rfl⟩ := Int.eq_ofNat_of_zero_le h0
  simp only [Int.toNat_natCast]
  have hA : A < 256 := by omega
  have hu := unaff_lt A hA
  obtain ⟨r1, r3, r6⟩ := rot_lt A hA
  have x1 : bits BinOp.xor IntKind.u8 (rot 1 A : Nat) (rot 3 A : Nat) = ((rot 1 A ^^^ rot 3 A : Nat) : Int) := u8_xor_nat _ _ r1 r3
  have x2 : bits BinOp.xor IntKind.u8 ((rot 1 A ^^^ rot 3 A : Nat) : Int) (rot 6 A : Nat) = ((rot 1 A ^^^ rot 3 A ^^^ rot 6 A : Nat) : Int) := u8_xor_nat _ _ (xor_lt r1 r3) r6
  have x3 : bits BinOp.xor IntKind.u8 ((rot 1 A ^^^ rot 3 A ^^^ rot 6 A : Nat) : Int) 5 = ((unaff A : Nat) : Int) := u8_xor_nat _ 5 (xor_lt (xor_lt r1 r3) r6) (by omega)
  go_enter Try.func20, Try.ntmps20
  go_wp2_with fail
  refine (rot_1 _ (by omega) (by omega) _).mono ?_; rintro e w' ⟨rfl, rfl⟩
  go_wp2_with fail
  refine (rot_3 _ (by omega) (by omega) _).mono ?_; rintro e w' ⟨rfl, rfl⟩
  go_wp2_with fail
  refine (rot_6 _ (by omega) (by omega) _).mono ?_; rintro e w' ⟨rfl, rfl⟩
  go_wp2_with fail
  refine (inv_any _ (by omega) (by omega) _).mono ?_; rintro e w' ⟨rfl, rfl⟩
  go_wp2_with fail
  go_ret
  exact ⟨ret_int rfl, rfl⟩

set_option maxRecDepth 100000 in
set_option maxHeartbeats 400000 in
theorem refbox_any (a : Int) (h0 : 0 ≤ a) (h1 : a < 256) (w : World) :
    Calls Try.prog 19 #[.int .u8 a] w fun e w' => e = .returned (.int .u8 ((box a.toNat : Nat) : Int)) ∧ w = w' := by
  obtain ⟨A, rfl⟩ := Int.eq_ofNat_of_zero_le h0
  simp only [Int.toNat_natCast]
  have hA : A < 256 := by omega
  have hi := inv_lt A hA
  have l1 := lft_lt 1 (inv A) 8
  have l2 := lft_lt 2 (inv A) 8
  have l3 := lft_lt 3 (inv A) 8
  have l4 := lft_lt 4 (inv A) 8
  have fin : bits BinOp.xor IntKind.u8 (bits BinOp.xor IntKind.u8 (bits BinOp.xor IntKind.u8 (bits BinOp.xor IntKind.u8 (bits BinOp.xor IntKind.u8 (inv A : Nat) (lft 1 (inv A) 8 : Nat)) (lft 2 (inv A) 8 : Nat)) (lft 3 (inv A) 8 : Nat)) (lft 4 (inv A) 8 : Nat)) 99 = ((box A : Nat) : Int) := by
    rw [u8_xor_nat _ _ hi l1, u8_xor_nat _ _ (xor_lt hi l1) l2, u8_xor_nat _ _ (xor_lt (xor_lt hi l1) l2) l3, u8_xor_nat _ _ (xor_lt (xor_lt (xor_lt hi l1) l2) l3) l4]
    rw [show (99 : Int) = ((99 : Nat) : Int) from rfl, u8_xor_nat _ _ (xor_lt (xor_lt (xor_lt (xor_lt hi l1) l2) l3) l4) (by omega)]
    unfold box
    rw [← refaff_eq _ hi]
    rfl
  have F := Lib.hid fin
  clear fin
  go_enter Try.func19, Try.ntmps19
  go_wp2_with fail
  refine (refinv_any _ (by omega) (by omega) _).mono ?_; rintro e w' ⟨rfl, rfl⟩
  go_wp2_with fail
  refine (left_any _ _ (by omega) (by omega) (by omega) (by omega) _).mono ?_; rintro e w' ⟨rfl, rfl⟩
  go_wp2_with fail
  refine (left_any _ _ (by omega) (by omega) (by omega) (by omega) _).mono ?_; rintro e w' ⟨rfl, rfl⟩
  go_wp2_with fail
  refine (left_any _ _ (by omega) (by omega) (by omega) (by omega) _).mono ?_; rintro e w' ⟨rfl, rfl⟩
  go_wp2_with fail
  refine (left_any _ _ (by omega) (by omega) (by omega) (by omega) _).mono ?_; rintro e w' ⟨rfl, rfl⟩
  go_wp2_with fail
  go_ret
  exact ⟨ret_int F.out, rfl⟩

set_option maxRecDepth 100000 in
set_option maxHeartbeats 400000 in
theorem refunbox_any (a : Int) (h0 : 0 ≤ a) (h1 : a < 256) (w : World) :
    Calls Try.prog 21 #[.int .u8 a] w fun e w' => e = .returned (.int .u8 ((unbox a.toNat : Nat) : Int)) ∧ w = w' := by
  obtain ⟨A, rfl⟩ := Int.eq_ofNat_of_zero_le h0
  simp only [Int.toNat_natCast]
  have hA : A < 256 := by omega
  go_enter Try.func21, Try.ntmps21
  go_wp2
  go_loop [3] (fun b => ∃ k : Nat, k ≤ unbox A ∧ b = .int .i64 k) (fun b => 256 - (intOf b).toNat)
  case atStart => exact ⟨0, by omega, rfl⟩
  case round =>
    obtain ⟨k, hk, rfl⟩ := hrel
    have hu := unbox_lt A hA
    have hmod : (k : Int) % 256 = k := by omega
    have hlt : k < 256 := by omega
    by_cases he : k = unbox A
    · have hb : (((box k : Nat) : Int) == (A : Int)) = true := by rw [beq_iff_eq, he, box_unbox A hA]
      have E := Lib.hid he
      clear he
      go_wp2_with (go_at_call 19; refine (refbox_any _ (by omega) (by omega) _).mono ?_; rintro e w' ⟨rfl, rfl⟩)
      go_ret
      refine ⟨ret_int ?_, rfl⟩
      rw [E.out]
    · have hb : (((box k : Nat) : Int) == (A : Int)) = false := by
        rw [beq_eq_false_iff_ne]
        intro h
        have h' : box k = A := by omega
        apply he
        rw [← h', unbox_box k hlt]
      have hk2 : k + 1 ≤ unbox A := by omega
      clear he
      go_wp2_with (go_at_call 19; refine (refbox_any _ (by omega) (by omega) _).mono ?_; rintro e w' ⟨rfl, rfl⟩)
      go_round
      case rel => exact ⟨k + 1, by omega, by go_num⟩
      case measure => simp [intOf]; omega

/-! ### the small case -/
theorem s_mul : gm 87 131 = 193 := by decide +kernel
theorem s_inv : inv 83 = 202 := by unfold inv; rw [gpow_254 83 (by omega)]; decide +kernel
theorem s_box : box 83 = 237 := by unfold box; rw [s_inv]; decide +kernel
theorem s_unbox : unbox 237 = 83 := by rw [← s_box]; exact unbox_box 83 (by omega)
theorem s_pow : gpow 2 8 = 27 := by decide +kernel
set_option maxHeartbeats 400000 in
theorem small_any (w : World) :
    Calls Try.prog 11 #[] w fun e w' => e = .returned (.bool true) ∧ w = w' := by
  have h1 := s_mul
  have h2 := s_inv
  have h3 := s_box
  have h4 := s_unbox
  have h5 := s_pow
  go_enter Try.func11, Try.ntmps11
  go_wp2_with (first | (go_at_call 12; refine (mul_any _ _ (by omega) (by omega) (by omega) (by omega) _).mono ?_; rintro e w' ⟨rfl, rfl⟩) | (go_at_call 16; refine (inv_any _ (by omega) (by omega) _).mono ?_; rintro e w' ⟨rfl, rfl⟩) | (go_at_call 18; refine (box_any _ (by omega) (by omega) _).mono ?_; rintro e w' ⟨rfl, rfl⟩) | (go_at_call 20; refine (unbox_any _ (by omega) (by omega) _).mono ?_; rintro e w' ⟨rfl, rfl⟩) | (go_at_call 14; refine (pow_any _ _ (by omega) (by omega) (by omega) _).mono ?_; rintro e w' ⟨rfl, rfl⟩))
  go_ret
  exact ⟨rfl, rfl⟩
end Go.Proofs.Ytcjmglpnkjlkmaa.Fld
