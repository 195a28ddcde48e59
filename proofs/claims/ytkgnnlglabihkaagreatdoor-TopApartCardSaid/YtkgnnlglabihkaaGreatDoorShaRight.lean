/- The functions that turn a word, and that read one: contracts. Written by gen_right.py. -/
import Derived.Test.YtkgnnlglabihkaaGreatDoorRows
import Derived.Test.YtkgnnlglabihkaaGreatDoorShaPlain
import Derived.Test.YtkgnnlglabihkaaGreatDoorMemAll
import Derived.WalkLawsBesides
import Derived.WalkSpells
import Derived.Deep.QuietTactic
import Derived.BigQuiet
namespace Go.Proofs.YtkgnnlglabihkaaGreatDoor.Sha
open Go Go.ChangeShapes Go.WideShapes Go.ChangeAt Go.RowKit
set_option linter.unusedVariables false

theorem rot_low7 : bits BinOp.and IntKind.u64 (IntKind.u64.wrap (-7)) 31 = 25 := by decide +kernel
set_option maxRecDepth 100000 in
theorem right7 (x : Nat) (hx : x < 4294967296) (w : World) :
    Calls Tryz.prog 110 #[.int .u32 (x : Int), .int .i64 7] w fun e w' => e = .returned (.int .u32 ((rotr x 7 : Nat) : Int)) ∧ w = w' := by
  have h1 := rot_low7
  have h2 : bits BinOp.or IntKind.u32 ((x : Int) * 33554432 % 4294967296) ((x : Int) / 128) = ((rotr x 7 : Nat) : Int) := by
    rw [show ((x : Int) * 33554432 % 4294967296) = ((x * 33554432 % 4294967296 : Nat) : Int) by omega, show ((x : Int) / 128) = ((x / 128 : Nat) : Int) by omega, u32_or_nat _ _ (by omega) (by omega), Nat.or_comm]
    rfl
  go_enter Tryz.func110, Tryz.ntmps110
  go_wp2_with fail
  go_enter Tryz.func134, Tryz.ntmps134
  go_wp2
  go_ret
  exact ⟨rfl, rfl⟩

theorem rot_low18 : bits BinOp.and IntKind.u64 (IntKind.u64.wrap (-18)) 31 = 14 := by decide +kernel
set_option maxRecDepth 100000 in
theorem right18 (x : Nat) (hx : x < 4294967296) (w : World) :
    Calls Tryz.prog 110 #[.int .u32 (x : Int), .int .i64 18] w fun e w' => e = .returned (.int .u32 ((rotr x 18 : Nat) : Int)) ∧ w = w' := by
  have h1 := rot_low18
  have h2 : bits BinOp.or IntKind.u32 ((x : Int) * 16384 % 4294967296) ((x : Int) / 262144) = ((rotr x 18 : Nat) : Int) := by
    rw [show ((x : Int) * 16384 % 4294967296) = ((x * 16384 % 4294967296 : Nat) : Int) by omega, show ((x : Int) / 262144) = ((x / 262144 : Nat) : Int) by omega, u32_or_nat _ _ (by omega) (by omega), Nat.or_comm]
    rfl
  go_enter Tryz.func110, Tryz.ntmps110
  go_wp2_with fail
  go_enter Tryz.func134, Tryz.ntmps134
  go_wp2
  go_ret
  exact ⟨rfl, rfl⟩

theorem rot_low17 : bits BinOp.and IntKind.u64 (IntKind.u64.wrap (-17)) 31 = 15 := by decide +kernel
set_option maxRecDepth 100000 in
theorem right17 (x : Nat) (hx : x < 4294967296) (w : World) :
    Calls Tryz.prog 110 #[.int .u32 (x : Int), .int .i64 17] w fun e w' => e = .returned (.int .u32 ((rotr x 17 : Nat) : Int)) ∧ w = w' := by
  have h1 := rot_low17
  have h2 : bits BinOp.or IntKind.u32 ((x : Int) * 32768 % 4294967296) ((x : Int) / 131072) = ((rotr x 17 : Nat) : Int) := by
    rw [show ((x : Int) * 32768 % 4294967296) = ((x * 32768 % 4294967296 : Nat) : Int) by omega, show ((x : Int) / 131072) = ((x / 131072 : Nat) : Int) by omega, u32_or_nat _ _ (by omega) (by omega), Nat.or_comm]
    rfl
  go_enter Tryz.func110, Tryz.ntmps110
  go_wp2_with fail
  go_enter Tryz.func134, Tryz.ntmps134
  go_wp2
  go_ret
  exact ⟨rfl, rfl⟩

theorem rot_low19 : bits BinOp.and IntKind.u64 (IntKind.u64.wrap (-19)) 31 = 13 := by decide +kernel
set_option maxRecDepth 100000 in
theorem right19 (x : Nat) (hx : x < 4294967296) (w : World) :
    Calls Tryz.prog 110 #[.int .u32 (x : Int), .int .i64 19] w fun e w' => e = .returned (.int .u32 ((rotr x 19 : Nat) : Int)) ∧ w = w' := by
  have h1 := rot_low19
  have h2 : bits BinOp.or IntKind.u32 ((x : Int) * 8192 % 4294967296) ((x : Int) / 524288) = ((rotr x 19 : Nat) : Int) := by
    rw [show ((x : Int) * 8192 % 4294967296) = ((x * 8192 % 4294967296 : Nat) : Int) by omega, show ((x : Int) / 524288) = ((x / 524288 : Nat) : Int) by omega, u32_or_nat _ _ (by omega) (by omega), Nat.or_comm]
    rfl
  go_enter Tryz.func110, Tryz.ntmps110
  go_wp2_with fail
  go_enter Tryz.func134, Tryz.ntmps134
  go_wp2
  go_ret
  exact ⟨rfl, rfl⟩

theorem rot_low6 : bits BinOp.and IntKind.u64 (IntKind.u64.wrap (-6)) 31 = 26 := by decide +kernel
set_option maxRecDepth 100000 in
theorem right6 (x : Nat) (hx : x < 4294967296) (w : World) :
    Calls Tryz.prog 110 #[.int .u32 (x : Int), .int .i64 6] w fun e w' => e = .returned (.int .u32 ((rotr x 6 : Nat) : Int)) ∧ w = w' := by
  have h1 := rot_low6
  have h2 : bits BinOp.or IntKind.u32 ((x : Int) * 67108864 % 4294967296) ((x : Int) / 64) = ((rotr x 6 : Nat) : Int) := by
    rw [show ((x : Int) * 67108864 % 4294967296) = ((x * 67108864 % 4294967296 : Nat) : Int) by omega, show ((x : Int) / 64) = ((x / 64 : Nat) : Int) by omega, u32_or_nat _ _ (by omega) (by omega), Nat.or_comm]
    rfl
  go_enter Tryz.func110, Tryz.ntmps110
  go_wp2_with fail
  go_enter Tryz.func134, Tryz.ntmps134
  go_wp2
  go_ret
  exact ⟨rfl, rfl⟩

theorem rot_low11 : bits BinOp.and IntKind.u64 (IntKind.u64.wrap (-11)) 31 = 21 := by decide +kernel
set_option maxRecDepth 100000 in
theorem right11 (x : Nat) (hx : x < 4294967296) (w : World) :
    Calls Tryz.prog 110 #[.int .u32 (x : Int), .int .i64 11] w fun e w' => e = .returned (.int .u32 ((rotr x 11 : Nat) : Int)) ∧ w = w' := by
  have h1 := rot_low11
  have h2 : bits BinOp.or IntKind.u32 ((x : Int) * 2097152 % 4294967296) ((x : Int) / 2048) = ((rotr x 11 : Nat) : Int) := by
    rw [show ((x : Int) * 2097152 % 4294967296) = ((x * 2097152 % 4294967296 : Nat) : Int) by omega, show ((x : Int) / 2048) = ((x / 2048 : Nat) : Int) by omega, u32_or_nat _ _ (by omega) (by omega), Nat.or_comm]
    rfl
  go_enter Tryz.func110, Tryz.ntmps110
  go_wp2_with fail
  go_enter Tryz.func134, Tryz.ntmps134
  go_wp2
  go_ret
  exact ⟨rfl, rfl⟩

theorem rot_low25 : bits BinOp.and IntKind.u64 (IntKind.u64.wrap (-25)) 31 = 7 := by decide +kernel
set_option maxRecDepth 100000 in
theorem right25 (x : Nat) (hx : x < 4294967296) (w : World) :
    Calls Tryz.prog 110 #[.int .u32 (x : Int), .int .i64 25] w fun e w' => e = .returned (.int .u32 ((rotr x 25 : Nat) : Int)) ∧ w = w' := by
  have h1 := rot_low25
  have h2 : bits BinOp.or IntKind.u32 ((x : Int) * 128 % 4294967296) ((x : Int) / 33554432) = ((rotr x 25 : Nat) : Int) := by
    rw [show ((x : Int) * 128 % 4294967296) = ((x * 128 % 4294967296 : Nat) : Int) by omega, show ((x : Int) / 33554432) = ((x / 33554432 : Nat) : Int) by omega, u32_or_nat _ _ (by omega) (by omega), Nat.or_comm]
    rfl
  go_enter Tryz.func110, Tryz.ntmps110
  go_wp2_with fail
  go_enter Tryz.func134, Tryz.ntmps134
  go_wp2
  go_ret
  exact ⟨rfl, rfl⟩

theorem rot_low2 : bits BinOp.and IntKind.u64 (IntKind.u64.wrap (-2)) 31 = 30 := by decide +kernel
set_option maxRecDepth 100000 in
theorem right2 (x : Nat) (hx : x < 4294967296) (w : World) :
    Calls Tryz.prog 110 #[.int .u32 (x : Int), .int .i64 2] w fun e w' => e = .returned (.int .u32 ((rotr x 2 : Nat) : Int)) ∧ w = w' := by
  have h1 := rot_low2
  have h2 : bits BinOp.or IntKind.u32 ((x : Int) * 1073741824 % 4294967296) ((x : Int) / 4) = ((rotr x 2 : Nat) : Int) := by
    rw [show ((x : Int) * 1073741824 % 4294967296) = ((x * 1073741824 % 4294967296 : Nat) : Int) by omega, show ((x : Int) / 4) = ((x / 4 : Nat) : Int) by omega, u32_or_nat _ _ (by omega) (by omega), Nat.or_comm]
    rfl
  go_enter Tryz.func110, Tryz.ntmps110
  go_wp2_with fail
  go_enter Tryz.func134, Tryz.ntmps134
  go_wp2
  go_ret
  exact ⟨rfl, rfl⟩

theorem rot_low13 : bits BinOp.and IntKind.u64 (IntKind.u64.wrap (-13)) 31 = 19 := by decide +kernel
set_option maxRecDepth 100000 in
theorem right13 (x : Nat) (hx : x < 4294967296) (w : World) :
    Calls Tryz.prog 110 #[.int .u32 (x : Int), .int .i64 13] w fun e w' => e = .returned (.int .u32 ((rotr x 13 : Nat) : Int)) ∧ w = w' := by
  have h1 := rot_low13
  have h2 : bits BinOp.or IntKind.u32 ((x : Int) * 524288 % 4294967296) ((x : Int) / 8192) = ((rotr x 13 : Nat) : Int) := by
    rw [show ((x : Int) * 524288 % 4294967296) = ((x * 524288 % 4294967296 : Nat) : Int) by omega, show ((x : Int) / 8192) = ((x / 8192 : Nat) : Int) by omega, u32_or_nat _ _ (by omega) (by omega), Nat.or_comm]
    rfl
  go_enter Tryz.func110, Tryz.ntmps110
  go_wp2_with fail
  go_enter Tryz.func134, Tryz.ntmps134
  go_wp2
  go_ret
  exact ⟨rfl, rfl⟩

theorem rot_low22 : bits BinOp.and IntKind.u64 (IntKind.u64.wrap (-22)) 31 = 10 := by decide +kernel
set_option maxRecDepth 100000 in
theorem right22 (x : Nat) (hx : x < 4294967296) (w : World) :
    Calls Tryz.prog 110 #[.int .u32 (x : Int), .int .i64 22] w fun e w' => e = .returned (.int .u32 ((rotr x 22 : Nat) : Int)) ∧ w = w' := by
  have h1 := rot_low22
  have h2 : bits BinOp.or IntKind.u32 ((x : Int) * 1024 % 4294967296) ((x : Int) / 4194304) = ((rotr x 22 : Nat) : Int) := by
    rw [show ((x : Int) * 1024 % 4294967296) = ((x * 1024 % 4294967296 : Nat) : Int) by omega, show ((x : Int) / 4194304) = ((x / 4194304 : Nat) : Int) by omega, u32_or_nat _ _ (by omega) (by omega), Nat.or_comm]
    rfl
  go_enter Tryz.func110, Tryz.ntmps110
  go_wp2_with fail
  go_enter Tryz.func134, Tryz.ntmps134
  go_wp2
  go_ret
  exact ⟨rfl, rfl⟩

theorem or_shift (a b k : Nat) (hb : b < 2 ^ k) : a * 2 ^ k ||| b = a * 2 ^ k + b := by
  rw [Nat.mul_comm, Nat.two_pow_add_eq_or_of_lt hb]
theorem or_word (a b c d : Nat) (ha : a < 256) (hb : b < 256) (hc : c < 256) (hd : d < 256) :
    bits BinOp.or IntKind.u32 (bits BinOp.or IntKind.u32 (bits BinOp.or IntKind.u32 ((a : Int) * 16777216) ((b : Int) * 65536)) ((c : Int) * 256)) (d : Int) = ((a * 16777216 + b * 65536 + c * 256 + d : Nat) : Int) := by
  rw [show ((a : Int) * 16777216) = ((a * 16777216 : Nat) : Int) by omega, show ((b : Int) * 65536) = ((b * 65536 : Nat) : Int) by omega, show ((c : Int) * 256) = ((c * 256 : Nat) : Int) by omega]
  have e1 : a * 16777216 ||| b * 65536 = a * 16777216 + b * 65536 := or_shift a (b * 65536) 24 (by omega)
  have e2 : (a * 16777216 + b * 65536) ||| c * 256 = a * 16777216 + b * 65536 + c * 256 := by
    have := or_shift (a * 256 + b) (c * 256) 16 (by omega)
    rw [show (a * 256 + b) * 2 ^ 16 = a * 16777216 + b * 65536 by omega] at this
    exact this
  have e3 : (a * 16777216 + b * 65536 + c * 256) ||| d = a * 16777216 + b * 65536 + c * 256 + d := by
    have := or_shift (a * 65536 + b * 256 + c) d 8 (by omega)
    rw [show (a * 65536 + b * 256 + c) * 2 ^ 8 = a * 16777216 + b * 65536 + c * 256 by omega] at this
    exact this
  rw [u32_or_nat _ _ (by omega) (by omega), e1, u32_or_nat _ _ (by omega) (by omega), e2, u32_or_nat _ _ (by omega) (by omega), e3]
set_option maxRecDepth 100000 in
theorem word_any (A : Option Addr) (n c : Nat) (l : List UInt8) (w : World) (B : Nat) (hn : l.length = n) (h4 : 4 ≤ n) (hm : n ≤ 9223372036854775807) (hr : Rd w B A l) :
    Calls Tryz.prog 109 #[.slice A n c] w fun e w' => e = .returned (.int .u32 ((word l 0 : Nat) : Int)) ∧ ∃ n, w' = w.drewN n := by
  subst hn
  obtain ⟨ad, rfl, _, hc⟩ := hr (by omega)
  have c0 := hc 0 (by omega)
  have c1 := hc 1 (by omega)
  have c2 := hc 2 (by omega)
  have c3 := hc 3 (by omega)
  have hw : word l 0 = l[0].toNat * 16777216 + l[1].toNat * 65536 + l[2].toNat * 256 + l[3].toNat := by
    unfold word
    simp [List.getD, (by omega : 0 < l.length), (by omega : 1 < l.length), (by omega : 2 < l.length), (by omega : 3 < l.length)]
  have b0 := l[0].toNat_lt
  have b1 := l[1].toNat_lt
  have b2 := l[2].toNat_lt
  have b3 := l[3].toNat_lt
  unfold bv at c0 c1 c2 c3
  have a0 : ad.add 0 = ad := by unfold Addr.add; rfl
  rw [a0] at c0
  have a1 : ad.add 1 = ⟨ad.block, ad.off + 1, none⟩ := by unfold Addr.add; rfl
  have a2 : ad.add 2 = ⟨ad.block, ad.off + 2, none⟩ := by unfold Addr.add; rfl
  have a3 : ad.add 3 = ⟨ad.block, ad.off + 3, none⟩ := by unfold Addr.add; rfl
  rw [a1] at c1
  rw [a2] at c2
  rw [a3] at c3
  have ho := or_word l[0].toNat l[1].toNat l[2].toNat l[3].toNat b0 b1 b2 b3
  rw [← hw] at ho
  generalize word l 0 = W at *
  have p4 : (1 : Int) < (l.length : Int) := by omega
  have p5 : (2 : Int) < (l.length : Int) := by omega
  have p6 : (3 : Int) < (l.length : Int) := by omega
  have p7 : (0 : Int) < (l.length : Int) := by omega
  generalize l[0].toNat = x0 at *
  generalize l[1].toNat = x1 at *
  generalize l[2].toNat = x2 at *
  generalize l[3].toNat = x3 at *
  clear hw a0 a1 a2 a3 hc hr
  go_enter Tryz.func109, Tryz.ntmps109
  go_wp2_with fail
  go_quiet (fail)
  go_wp2
  go_ret
  exact ⟨rfl, _, rfl⟩
end Go.Proofs.YtkgnnlglabihkaaGreatDoor.Sha
