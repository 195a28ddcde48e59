/- The reference's turn of a word: contracts. Written by gen_right.py. -/
import Derived.Test.YtcbihjcnnfohmaaGreatShaRight
namespace Go.Proofs.YtcbihjcnnfohmaaGreat.Sha
open Go Go.ChangeShapes Go.WideShapes Go.ChangeAt Go.RowKit
set_option linter.unusedVariables false

set_option maxRecDepth 100000 in
theorem refright7 (x : Nat) (hx : x < 4294967296) (w : World) :
    Calls Tryz.prog 87 #[.int .i64 (x : Int), .int .i64 7] w fun e w' => e = .returned (.int .i64 ((rotr x 7 : Nat) : Int)) ∧ ∃ n, w' = w.drewN n := by
  have h0 : IntKind.i64.wrap ((x : Int) * 33554432) = (x : Int) * 33554432 := i64_wraps _ (by omega) (by omega)
  have h1 : ((x : Int) * 33554432).tmod 4294967296 = ((x * 33554432 % 4294967296 : Nat) : Int) := by rw [Int.tmod_eq_emod_of_nonneg (by omega)]; omega
  have h2 : bits BinOp.or IntKind.i64 ((x : Int) / 128) ((x : Int) * 33554432 % 4294967296) = ((rotr x 7 : Nat) : Int) := by
    rw [show ((x : Int) / 128) = ((x / 128 : Nat) : Int) by omega, show ((x : Int) * 33554432 % 4294967296) = ((x * 33554432 % 4294967296 : Nat) : Int) by omega, i64_or _ _ (by omega) (by omega)]
    rfl
  go_enter Tryz.func87, Tryz.ntmps87
  go_wp2_with fail
  go_quiet (fail)
  go_wp2
  go_ret
  exact ⟨rfl, _, rfl⟩

set_option maxRecDepth 100000 in
theorem refright18 (x : Nat) (hx : x < 4294967296) (w : World) :
    Calls Tryz.prog 87 #[.int .i64 (x : Int), .int .i64 18] w fun e w' => e = .returned (.int .i64 ((rotr x 18 : Nat) : Int)) ∧ ∃ n, w' = w.drewN n := by
  have h0 : IntKind.i64.wrap ((x : Int) * 16384) = (x : Int) * 16384 := i64_wraps _ (by omega) (by omega)
  have h1 : ((x : Int) * 16384).tmod 4294967296 = ((x * 16384 % 4294967296 : Nat) : Int) := by rw [Int.tmod_eq_emod_of_nonneg (by omega)]; omega
  have h2 : bits BinOp.or IntKind.i64 ((x : Int) / 262144) ((x : Int) * 16384 % 4294967296) = ((rotr x 18 : Nat) : Int) := by
    rw [show ((x : Int) / 262144) = ((x / 262144 : Nat) : Int) by omega, show ((x : Int) * 16384 % 4294967296) = ((x * 16384 % 4294967296 : Nat) : Int) by omega, i64_or _ _ (by omega) (by omega)]
    rfl
  go_enter Tryz.func87, Tryz.ntmps87
  go_wp2_with fail
  go_quiet (fail)
  go_wp2
  go_ret
  exact ⟨rfl, _, rfl⟩

set_option maxRecDepth 100000 in
theorem refright17 (x : Nat) (hx : x < 4294967296) (w : World) :
    Calls Tryz.prog 87 #[.int .i64 (x : Int), .int .i64 17] w fun e w' => e = .returned (.int .i64 ((rotr x 17 : Nat) : Int)) ∧ ∃ n, w' = w.drewN n := by
  have h0 : IntKind.i64.wrap ((x : Int) * 32768) = (x : Int) * 32768 := i64_wraps _ (by omega) (by omega)
  have h1 : ((x : Int) * 32768).tmod 4294967296 = ((x * 32768 % 4294967296 : Nat) : Int) := by rw [Int.tmod_eq_emod_of_nonneg (by omega)]; omega
  have h2 : bits BinOp.or IntKind.i64 ((x : Int) / 131072) ((x : Int) * 32768 % 4294967296) = ((rotr x 17 : Nat) : Int) := by
    rw [show ((x : Int) / 131072) = ((x / 131072 : Nat) : Int) by omega, show ((x : Int) * 32768 % 4294967296) = ((x * 32768 % 4294967296 : Nat) : Int) by omega, i64_or _ _ (by omega) (by omega)]
    rfl
  go_enter Tryz.func87, Tryz.ntmps87
  go_wp2_with fail
  go_quiet (fail)
  go_wp2
  go_ret
  exact ⟨rfl, _, rfl⟩

set_option maxRecDepth 100000 in
theorem refright19 (x : Nat) (hx : x < 4294967296) (w : World) :
    Calls Tryz.prog 87 #[.int .i64 (x : Int), .int .i64 19] w fun e w' => e = .returned (.int .i64 ((rotr x 19 : Nat) : Int)) ∧ ∃ n, w' = w.drewN n := by
  have h0 : IntKind.i64.wrap ((x : Int) * 8192) = (x : Int) * 8192 := i64_wraps _ (by omega) (by omega)
  have h1 : ((x : Int) * 8192).tmod 4294967296 = ((x * 8192 % 4294967296 : Nat) : Int) := by rw [Int.tmod_eq_emod_of_nonneg (by omega)]; omega
  have h2 : bits BinOp.or IntKind.i64 ((x : Int) / 524288) ((x : Int) * 8192 % 4294967296) = ((rotr x 19 : Nat) : Int) := by
    rw [show ((x : Int) / 524288) = ((x / 524288 : Nat) : Int) by omega, show ((x : Int) * 8192 % 4294967296) = ((x * 8192 % 4294967296 : Nat) : Int) by omega, i64_or _ _ (by omega) (by omega)]
    rfl
  go_enter Tryz.func87, Tryz.ntmps87
  go_wp2_with fail
  go_quiet (fail)
  go_wp2
  go_ret
  exact ⟨rfl, _, rfl⟩

set_option maxRecDepth 100000 in
theorem refright6 (x : Nat) (hx : x < 4294967296) (w : World) :
    Calls Tryz.prog 87 #[.int .i64 (x : Int), .int .i64 6] w fun e w' => e = .returned (.int .i64 ((rotr x 6 : Nat) : Int)) ∧ ∃ n, w' = w.drewN n := by
  have h0 : IntKind.i64.wrap ((x : Int) * 67108864) = (x : Int) * 67108864 := i64_wraps _ (by omega) (by omega)
  have h1 : ((x : Int) * 67108864).tmod 4294967296 = ((x * 67108864 % 4294967296 : Nat) : Int) := by rw [Int.tmod_eq_emod_of_nonneg (by omega)]; omega
  have h2 : bits BinOp.or IntKind.i64 ((x : Int) / 64) ((x : Int) * 67108864 % 4294967296) = ((rotr x 6 : Nat) : Int) := by
    rw [show ((x : Int) / 64) = ((x / 64 : Nat) : Int) by omega, show ((x : Int) * 67108864 % 4294967296) = ((x * 67108864 % 4294967296 : Nat) : Int) by omega, i64_or _ _ (by omega) (by omega)]
    rfl
  go_enter Tryz.func87, Tryz.ntmps87
  go_wp2_with fail
  go_quiet (fail)
  go_wp2
  go_ret
  exact ⟨rfl, _, rfl⟩

set_option maxRecDepth 100000 in
theorem refright11 (x : Nat) (hx : x < 4294967296) (w : World) :
    Calls Tryz.prog 87 #[.int .i64 (x : Int), .int .i64 11] w fun e w' => e = .returned (.int .i64 ((rotr x 11 : Nat) : Int)) ∧ ∃ n, w' = w.drewN n := by
  have h0 : IntKind.i64.wrap ((x : Int) * 2097152) = (x : Int) * 2097152 := i64_wraps _ (by omega) (by omega)
  have h1 : ((x : Int) * 2097152).tmod 4294967296 = ((x * 2097152 % 4294967296 : Nat) : Int) := by rw [Int.tmod_eq_emod_of_nonneg (by omega)]; omega
  have h2 : bits BinOp.or IntKind.i64 ((x : Int) / 2048) ((x : Int) * 2097152 % 4294967296) = ((rotr x 11 : Nat) : Int) := by
    rw [show ((x : Int) / 2048) = ((x / 2048 : Nat) : Int) by omega, show ((x : Int) * 2097152 % 4294967296) = ((x * 2097152 % 4294967296 : Nat) : Int) by omega, i64_or _ _ (by omega) (by omega)]
    rfl
  go_enter Tryz.func87, Tryz.ntmps87
  go_wp2_with fail
  go_quiet (fail)
  go_wp2
  go_ret
  exact ⟨rfl, _, rfl⟩

set_option maxRecDepth 100000 in
theorem refright25 (x : Nat) (hx : x < 4294967296) (w : World) :
    Calls Tryz.prog 87 #[.int .i64 (x : Int), .int .i64 25] w fun e w' => e = .returned (.int .i64 ((rotr x 25 : Nat) : Int)) ∧ ∃ n, w' = w.drewN n := by
  have h0 : IntKind.i64.wrap ((x : Int) * 128) = (x : Int) * 128 := i64_wraps _ (by omega) (by omega)
  have h1 : ((x : Int) * 128).tmod 4294967296 = ((x * 128 % 4294967296 : Nat) : Int) := by rw [Int.tmod_eq_emod_of_nonneg (by omega)]; omega
  have h2 : bits BinOp.or IntKind.i64 ((x : Int) / 33554432) ((x : Int) * 128 % 4294967296) = ((rotr x 25 : Nat) : Int) := by
    rw [show ((x : Int) / 33554432) = ((x / 33554432 : Nat) : Int) by omega, show ((x : Int) * 128 % 4294967296) = ((x * 128 % 4294967296 : Nat) : Int) by omega, i64_or _ _ (by omega) (by omega)]
    rfl
  go_enter Tryz.func87, Tryz.ntmps87
  go_wp2_with fail
  go_quiet (fail)
  go_wp2
  go_ret
  exact ⟨rfl, _, rfl⟩

set_option maxRecDepth 100000 in
theorem refright2 (x : Nat) (hx : x < 4294967296) (w : World) :
    Calls Tryz.prog 87 #[.int .i64 (x : Int), .int .i64 2] w fun e w' => e = .returned (.int .i64 ((rotr x 2 : Nat) : Int)) ∧ ∃ n, w' = w.drewN n := by
  have h0 : IntKind.i64.wrap ((x : Int) * 1073741824) = (x : Int) * 1073741824 := i64_wraps _ (by omega) (by omega)
  have h1 : ((x : Int) * 1073741824).tmod 4294967296 = ((x * 1073741824 % 4294967296 : Nat) : Int) := by rw [Int.tmod_eq_emod_of_nonneg (by omega)]; omega
  have h2 : bits BinOp.or IntKind.i64 ((x : Int) / 4) ((x : Int) * 1073741824 % 4294967296) = ((rotr x 2 : Nat) : Int) := by
    rw [show ((x : Int) / 4) = ((x / 4 : Nat) : Int) by omega, show ((x : Int) * 1073741824 % 4294967296) = ((x * 1073741824 % 4294967296 : Nat) : Int) by omega, i64_or _ _ (by omega) (by omega)]
    rfl
  go_enter Tryz.func87, Tryz.ntmps87
  go_wp2_with fail
  go_quiet (fail)
  go_wp2
  go_ret
  exact ⟨rfl, _, rfl⟩

set_option maxRecDepth 100000 in
theorem refright13 (x : Nat) (hx : x < 4294967296) (w : World) :
    Calls Tryz.prog 87 #[.int .i64 (x : Int), .int .i64 13] w fun e w' => e = .returned (.int .i64 ((rotr x 13 : Nat) : Int)) ∧ ∃ n, w' = w.drewN n := by
  have h0 : IntKind.i64.wrap ((x : Int) * 524288) = (x : Int) * 524288 := i64_wraps _ (by omega) (by omega)
  have h1 : ((x : Int) * 524288).tmod 4294967296 = ((x * 524288 % 4294967296 : Nat) : Int) := by rw [Int.tmod_eq_emod_of_nonneg (by omega)]; omega
  have h2 : bits BinOp.or IntKind.i64 ((x : Int) / 8192) ((x : Int) * 524288 % 4294967296) = ((rotr x 13 : Nat) : Int) := by
    rw [show ((x : Int) / 8192) = ((x / 8192 : Nat) : Int) by omega, show ((x : Int) * 524288 % 4294967296) = ((x * 524288 % 4294967296 : Nat) : Int) by omega, i64_or _ _ (by omega) (by omega)]
    rfl
  go_enter Tryz.func87, Tryz.ntmps87
  go_wp2_with fail
  go_quiet (fail)
  go_wp2
  go_ret
  exact ⟨rfl, _, rfl⟩

set_option maxRecDepth 100000 in
theorem refright22 (x : Nat) (hx : x < 4294967296) (w : World) :
    Calls Tryz.prog 87 #[.int .i64 (x : Int), .int .i64 22] w fun e w' => e = .returned (.int .i64 ((rotr x 22 : Nat) : Int)) ∧ ∃ n, w' = w.drewN n := by
  have h0 : IntKind.i64.wrap ((x : Int) * 1024) = (x : Int) * 1024 := i64_wraps _ (by omega) (by omega)
  have h1 : ((x : Int) * 1024).tmod 4294967296 = ((x * 1024 % 4294967296 : Nat) : Int) := by rw [Int.tmod_eq_emod_of_nonneg (by omega)]; omega
  have h2 : bits BinOp.or IntKind.i64 ((x : Int) / 4194304) ((x : Int) * 1024 % 4294967296) = ((rotr x 22 : Nat) : Int) := by
    rw [show ((x : Int) / 4194304) = ((x / 4194304 : Nat) : Int) by omega, show ((x : Int) * 1024 % 4294967296) = ((x * 1024 % 4294967296 : Nat) : Int) by omega, i64_or _ _ (by omega) (by omega)]
    rfl
  go_enter Tryz.func87, Tryz.ntmps87
  go_wp2_with fail
  go_quiet (fail)
  go_wp2
  go_ret
  exact ⟨rfl, _, rfl⟩
end Go.Proofs.YtcbihjcnnfohmaaGreat.Sha
