/- Bits of Go's integers as bits of natural numbers. No program in sight. -/
import Derived.Laws.BitsAllLaws
import Derived.IntWalk
import Derived.WalkKit
namespace Go.Proofs.Ytcbihjcnnfohmaa
open Go Go.RowKit
set_option linter.unusedVariables false
theorem i64_wraps (n : Int) (h0 : 0 ≤ n) (h1 : n < 2 ^ 63) : IntKind.i64.wrap n = n := by rw [IntKind.wrap_i64]; omega
theorem i64_ofInt (a : Nat) (ha : a < 2 ^ 63) : (BitVec.ofInt 64 (a : Int)).toNat = a := by
  rw [BitVec.ofInt_natCast, BitVec.toNat_ofNat]; exact Nat.mod_eq_of_lt (by omega)
theorem i64_and (a b : Nat) (ha : a < 2 ^ 63) (hb : b < 2 ^ 63) : bits .and .i64 (a : Int) (b : Int) = ((a &&& b : Nat) : Int) :=
  (bits_nat .i64 63 (by decide) i64_wraps a b ha hb).1
theorem i64_or (a b : Nat) (ha : a < 2 ^ 63) (hb : b < 2 ^ 63) : bits .or .i64 (a : Int) (b : Int) = ((a ||| b : Nat) : Int) :=
  (bits_nat .i64 63 (by decide) i64_wraps a b ha hb).2
theorem i64_xor (a b : Nat) (ha : a < 2 ^ 63) (hb : b < 2 ^ 63) : bits .xor .i64 (a : Int) (b : Int) = ((a ^^^ b : Nat) : Int) := by
  have hx : a ^^^ b < 2 ^ 63 := Nat.xor_lt_two_pow ha hb
  show IntKind.i64.wrap ((BitVec.ofInt 64 (a : Int) ^^^ BitVec.ofInt 64 (b : Int)).toNat : Int) = _
  rw [BitVec.toNat_xor, i64_ofInt a ha, i64_ofInt b hb]
  exact i64_wraps _ (by omega) (by exact_mod_cast hx)
theorem wrap64_nat (a : Nat) (ha : a < 2 ^ 63) : wrap64 (a : Int) = (a : Int) := IntWalk.wrap64_in _ ⟨by omega, by omega⟩
/-- a bit's test, as the walk writes it -/
theorem bit_test (a k : Nat) : (((a : Int) / 2 ^ k).tmod 2 == 1) = decide (a / 2 ^ k % 2 = 1) := by
  have e : ((a : Int) / 2 ^ k) = ((a / 2 ^ k : Nat) : Int) := by simp
  rw [e, Int.tmod_eq_emod_of_nonneg (Int.natCast_nonneg _)]
  rw [Bool.eq_iff_iff]
  simp only [beq_iff_eq, decide_eq_true_eq]
  omega
theorem bit_yes {a k : Nat} (h : (((a : Int) / 2 ^ k).tmod 2 == 1) = true) : a / 2 ^ k % 2 = 1 := by rw [bit_test] at h; simpa using h
theorem bit_no {a k : Nat} (h : (((a : Int) / 2 ^ k).tmod 2 == 1) = false) : a / 2 ^ k % 2 = 0 := by rw [bit_test] at h; simp at h; exact h
end Go.Proofs.Ytcbihjcnnfohmaa
