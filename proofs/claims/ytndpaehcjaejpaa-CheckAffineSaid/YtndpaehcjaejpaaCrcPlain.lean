/- Plain facts of the sum of bytes: a register of 32 bits, stepped bit by bit; no program in sight. -/
import Derived.Laws.BitsAllLaws
namespace Go.Proofs.Ytndpaehcjaejpaa.Crc
open Go

/-- one bit -/
def st (r : Nat) : Nat := (r / 2) ^^^ (r % 2 * 3988292384)
def sts : Nat → Nat → Nat
  | 0, r => r
  | k+1, r => sts k (st r)
/-- one byte -/
def by1 (r : Nat) (c : UInt8) : Nat := sts 8 (r ^^^ c.toNat)
def run (r : Nat) (l : List UInt8) : Nat := l.foldl by1 r
def crc (l : List UInt8) : Nat := 4294967295 - run 4294967295 l
def tab (i : Nat) : Nat := sts 4 i

theorem xlc (a b c : Nat) : a ^^^ (b ^^^ c) = b ^^^ (a ^^^ c) := by rw [← Nat.xor_assoc, Nat.xor_comm a b, Nat.xor_assoc]
theorem xor_lt {a b : Nat} (ha : a < 4294967296) (hb : b < 4294967296) : a ^^^ b < 4294967296 := Nat.xor_lt_two_pow (n := 32) ha hb
theorem bit_xor (b c : Nat) : (b ^^^ c) % 2 = b % 2 ^^^ c % 2 := by
  have := Nat.xor_mod_two_pow (a := b) (b := c) (n := 1)
  simpa using this
theorem half_xor (b c : Nat) : (b ^^^ c) / 2 = b / 2 ^^^ c / 2 := by
  have := Nat.shiftRight_xor_distrib (a := b) (b := c) (i := 1)
  simpa [Nat.shiftRight_succ] using this
theorem mul_bits (x y a : Nat) (hx : x < 2) (hy : y < 2) : (x ^^^ y) * a = x * a ^^^ y * a := by
  have : x = 0 ∨ x = 1 := by omega
  have : y = 0 ∨ y = 1 := by omega
  rcases ‹x = 0 ∨ x = 1› with rfl | rfl <;> rcases ‹y = 0 ∨ y = 1› with rfl | rfl <;> simp
theorem st_xor (a b : Nat) : st (a ^^^ b) = st a ^^^ st b := by
  unfold st
  rw [half_xor, bit_xor, mul_bits _ _ _ (by omega) (by omega)]
  simp only [Nat.xor_assoc, xlc]
theorem sts_xor (k : Nat) : ∀ a b : Nat, sts k (a ^^^ b) = sts k a ^^^ sts k b := by
  induction k with
  | zero => intro a b; rfl
  | succ k ih => intro a b; show sts k _ = sts k _ ^^^ sts k _; rw [st_xor, ih]
theorem st_lt (r : Nat) (h : r < 4294967296) : st r < 4294967296 := by
  unfold st
  refine xor_lt (by omega) ?_
  rcases Nat.mod_two_eq_zero_or_one r with e | e <;> rw [e] <;> decide
theorem sts_lt (k : Nat) : ∀ r : Nat, r < 4294967296 → sts k r < 4294967296 := by
  induction k with
  | zero => intro r h; exact h
  | succ k ih => intro r h; exact ih _ (st_lt r h)
theorem sts_add (j : Nat) : ∀ k r : Nat, sts (j + k) r = sts k (sts j r) := by
  induction j with
  | zero => intro k r; rw [Nat.zero_add]; rfl
  | succ j ih => intro k r; rw [Nat.succ_add]; show sts (j + k) (st r) = sts k (sts j (st r)); exact ih k (st r)
theorem sts_shl (k : Nat) : ∀ x : Nat, sts k (x * 2 ^ k) = x := by
  induction k with
  | zero => intro x; simp [sts]
  | succ k ih =>
    intro x
    have e1 : x * 2 ^ (k + 1) / 2 = x * 2 ^ k := by rw [Nat.pow_succ, ← Nat.mul_assoc]; omega
    have e2 : x * 2 ^ (k + 1) % 2 = 0 := by rw [Nat.pow_succ, ← Nat.mul_assoc]; omega
    show sts k (st _) = x
    unfold st
    rw [e1, e2, Nat.zero_mul, Nat.xor_zero]
    exact ih x
theorem low4 (r : Nat) : r = r / 16 * 16 ^^^ r % 16 := by
  have h := Nat.two_pow_add_eq_or_of_lt (b := r % 16) (i := 4) (by omega) (r / 16)
  have h2 : r / 16 * 16 ^^^ r % 16 = r / 16 * 16 ||| r % 16 := by
    apply Nat.eq_of_testBit_eq
    intro i
    rw [Nat.testBit_xor, Nat.testBit_or]
    have e1 : (r / 16 * 16).testBit i = (decide (i ≥ 4) && (r / 16).testBit (i - 4)) := by
      have := Nat.testBit_shiftLeft (x := r / 16) (i := 4) (j := i)
      simpa [Nat.shiftLeft_eq] using this
    have e2 : (r % 16).testBit i = (decide (i < 4) && r.testBit i) := by
      have := Nat.testBit_mod_two_pow r 4 i
      simpa using this
    rw [e1, e2]
    by_cases hi : i < 4
    · have : ¬ i ≥ 4 := by omega
      simp [hi, this]
    · have : i ≥ 4 := by omega
      simp [hi, this]
  rw [h2, Nat.mul_comm (r / 16) 16]
  rw [show (2 : Nat) ^ 4 = 16 from rfl] at h
  rw [← h]
  omega
/-- four bits at once, by the table -/
theorem four_bits (r : Nat) : sts 4 r = r / 16 ^^^ tab (r % 16) := by
  conv => lhs; rw [low4 r]
  rw [sts_xor]
  rw [show r / 16 * 16 = r / 16 * 2 ^ 4 from rfl, sts_shl]
  rfl
theorem by1_two (r : Nat) (c : UInt8) : by1 r c = sts 4 (r ^^^ c.toNat) / 16 ^^^ tab (sts 4 (r ^^^ c.toNat) % 16) := by
  rw [← four_bits]
  exact sts_add 4 4 _
theorem u8_lt (c : UInt8) : c.toNat < 4294967296 := by have := c.toNat_lt; omega
theorem by1_lt (r : Nat) (c : UInt8) (h : r < 4294967296) : by1 r c < 4294967296 := sts_lt 8 _ (xor_lt h (u8_lt c))
theorem run_lt (l : List UInt8) : ∀ r : Nat, r < 4294967296 → run r l < 4294967296 := by
  induction l with
  | nil => intro r h; exact h
  | cons c l ih => intro r h; exact ih _ (by1_lt r c h)
theorem run_append (r : Nat) (a b : List UInt8) : run r (a ++ b) = run (run r a) b := List.foldl_append
theorem run_snoc (r : Nat) (a : List UInt8) (c : UInt8) : run r (a ++ [c]) = by1 (run r a) c := by rw [run_append]; rfl
theorem crc_lt (l : List UInt8) : crc l < 4294967296 := by unfold crc; omega

/-! ### the sum of three rows -/
def xor3 (a b c : UInt8) : UInt8 := a ^^^ b ^^^ c
theorem by1_xor3 (r s t : Nat) (a b c : UInt8) : by1 (r ^^^ s ^^^ t) (a ^^^ b ^^^ c) = by1 r a ^^^ by1 s b ^^^ by1 t c := by
  unfold by1
  rw [← sts_xor, ← sts_xor]
  congr 1
  rw [UInt8.toNat_xor, UInt8.toNat_xor]
  simp only [Nat.xor_assoc, xlc]
end Go.Proofs.Ytndpaehcjaejpaa.Crc
