/- The document's own answers for the field, as plain functions, and that they are the field's. No program in sight. -/
import Derived.Test.YtcbihjcnnfohmaaFldPlain
namespace Go.Proofs.Ytcbihjcnnfohmaa.Fld
open Go

/-! ### the product, divided from the top -/
def cl : Nat → Nat → Nat → Nat
  | 0, _, _ => 0
  | k+1, a, b => cl k a b ^^^ (b / 2 ^ k % 2 * (a * 2 ^ k))
def rd : Nat → Nat → Nat
  | 0, p => p
  | k+1, p => rd k p ^^^ (rd k p / 2 ^ (14 - k) % 2 * (283 * 2 ^ (6 - k)))
def refm (a b : Nat) : Nat := rd 7 (cl 8 a b) % 256
theorem div_xor (a b k : Nat) : (a ^^^ b) / 2 ^ k = a / 2 ^ k ^^^ b / 2 ^ k := by
  have := Nat.shiftRight_xor_distrib (a := a) (b := b) (i := k)
  simpa [Nat.shiftRight_eq_div_pow] using this
theorem shl_xor (a b k : Nat) : (a ^^^ b) * 2 ^ k = a * 2 ^ k ^^^ b * 2 ^ k := by
  have := Nat.shiftLeft_xor_distrib (a := a) (b := b) (i := k)
  simpa [Nat.shiftLeft_eq] using this
theorem cl_right (k : Nat) : ∀ a b c : Nat, cl k a (b ^^^ c) = cl k a b ^^^ cl k a c := by
  induction k with
  | zero => intro a b c; simp [cl]
  | succ k ih =>
    intro a b c
    show cl k a _ ^^^ _ = (cl k a b ^^^ _) ^^^ (cl k a c ^^^ _)
    rw [ih, div_xor, bit_mul_xor]
    simp only [Nat.xor_assoc, xlc]
theorem cl_left (k : Nat) : ∀ a a' b : Nat, cl k (a ^^^ a') b = cl k a b ^^^ cl k a' b := by
  induction k with
  | zero => intro a b c; simp [cl]
  | succ k ih =>
    intro a a' b
    show cl k _ b ^^^ _ = (cl k a b ^^^ _) ^^^ (cl k a' b ^^^ _)
    rw [ih, shl_xor, bit_mul_xor']
    simp only [Nat.xor_assoc, xlc]
theorem rd_xor (k : Nat) : ∀ p q : Nat, rd k (p ^^^ q) = rd k p ^^^ rd k q := by
  induction k with
  | zero => intro p q; rfl
  | succ k ih =>
    intro p q
    show rd k _ ^^^ (rd k _ / _ % 2 * _) = (rd k p ^^^ _) ^^^ (rd k q ^^^ _)
    rw [ih, div_xor, bit_mul_xor]
    simp only [Nat.xor_assoc, xlc]
theorem mod_xor (a b : Nat) : (a ^^^ b) % 256 = a % 256 ^^^ b % 256 := Nat.xor_mod_two_pow (n := 8)
theorem refm_right (a : Nat) : Add (refm a) := by
  intro b c _ _
  show rd 7 (cl 8 a (b ^^^ c)) % 256 = _
  rw [cl_right, rd_xor, mod_xor]; rfl
theorem refm_left (b : Nat) : Add (fun a => refm a b) := by
  intro a a' _ _
  show rd 7 (cl 8 (a ^^^ a') b) % 256 = _
  rw [cl_left, rd_xor, mod_xor]; rfl
theorem refm_basis : ∀ i < 8, ∀ j < 8, refm (2 ^ i) (2 ^ j) = gm (2 ^ i) (2 ^ j) := by decide +kernel
theorem refm_eq (a b : Nat) (ha : a < 256) (hb : b < 256) : refm a b = gm a b :=
  lin_ext (f := fun a => refm a b) (g := fun a => gm a b) (refm_left b) (add_left b)
    (fun i hi => lin_ext (f := refm (2 ^ i)) (g := gm (2 ^ i)) (refm_right _) (add_right _) (fun j hj => refm_basis i hi j hj) b hb) a ha
theorem cl_lt (k : Nat) : ∀ a b : Nat, k ≤ 8 → a < 256 → cl k a b < 65536 := by
  induction k with
  | zero => intro a b _ _; show 0 < _; omega
  | succ k ih =>
    intro a b hk ha
    refine Nat.xor_lt_two_pow (n := 16) (ih a b (by omega) ha) ?_
    have h : (2 : Nat) ^ k ≤ 2 ^ 7 := Nat.pow_le_pow_right (by omega) (by omega)
    have h2 : a * 2 ^ k ≤ 255 * 2 ^ 7 := Nat.mul_le_mul (by omega) h
    rcases Nat.mod_two_eq_zero_or_one (b / 2 ^ k) with e | e <;> rw [e] <;> omega
theorem rd_lt (k : Nat) : ∀ p : Nat, p < 65536 → rd k p < 65536 := by
  induction k with
  | zero => intro p h; exact h
  | succ k ih =>
    intro p h
    refine Nat.xor_lt_two_pow (n := 16) (ih p h) ?_
    have h1 : (2 : Nat) ^ (6 - k) ≤ 2 ^ 6 := Nat.pow_le_pow_right (by omega) (by omega)
    rcases Nat.mod_two_eq_zero_or_one (rd k p / 2 ^ (14 - k)) with e | e <;> rw [e] <;> omega

/-! ### the maps -/
def rot (n a : Nat) : Nat := (a * 2 ^ n % 256) ||| (a / 2 ^ (8 - n))
def aff (i : Nat) : Nat := (((i ^^^ 99) ^^^ rot 1 i) ^^^ rot 1 (rot 1 i)) ^^^ rot 1 (rot 1 (rot 1 i)) ^^^ rot 1 (rot 1 (rot 1 (rot 1 i)))
def unaff (a : Nat) : Nat := rot 1 a ^^^ rot 3 a ^^^ rot 6 a ^^^ 5
def box (a : Nat) : Nat := aff (inv a)
def unbox (a : Nat) : Nat := inv (unaff a)
theorem aff_lt : ∀ i < 256, aff i < 256 := by decide +kernel
theorem unaff_lt : ∀ i < 256, unaff i < 256 := by decide +kernel
theorem rot_lt : ∀ a < 256, rot 1 a < 256 ∧ rot 3 a < 256 ∧ rot 6 a < 256 := by decide +kernel
theorem unaff_aff : ∀ i < 256, unaff (aff i) = i := by decide +kernel
theorem aff_unaff : ∀ i < 256, aff (unaff i) = i := by decide +kernel
theorem box_lt (a : Nat) (ha : a < 256) : box a < 256 := aff_lt _ (inv_lt a ha)
theorem unbox_lt (a : Nat) (ha : a < 256) : unbox a < 256 := inv_lt _ (unaff_lt a ha)
theorem unbox_box (a : Nat) (ha : a < 256) : unbox (box a) = a := by
  unfold unbox box
  rw [unaff_aff _ (inv_lt a ha), inv_inv a ha]
theorem box_unbox (a : Nat) (ha : a < 256) : box (unbox a) = a := by
  unfold unbox box
  rw [inv_inv _ (unaff_lt a ha), aff_unaff a ha]
theorem box_inj (a b : Nat) (ha : a < 256) (hb : b < 256) : box a = box b ↔ a = b := by
  constructor
  · intro h
    rw [← unbox_box a ha, h, unbox_box b hb]
  · rintro rfl; rfl
theorem box_moves' : ∀ a < 256, aff (chain a) ≠ a ∧ aff (chain a) ≠ 255 - a := by decide +kernel
theorem box_moves (a : Nat) (ha : a < 256) : box a ≠ a ∧ box a ≠ 255 - a := by
  unfold box inv
  rw [gpow_254 a ha]
  exact box_moves' a ha
/-- turned left, bit by bit -/
def lft (n a : Nat) : Nat → Nat
  | 0 => 0
  | k+1 => lft n a k ||| (a / 2 ^ k % 2 * 2 ^ ((k + n) % 8))
def refaff (i : Nat) : Nat := i ^^^ lft 1 i 8 ^^^ lft 2 i 8 ^^^ lft 3 i 8 ^^^ lft 4 i 8 ^^^ 99
theorem lft_lt (n a : Nat) : ∀ k, lft n a k < 256
  | 0 => by show 0 < 256; omega
  | k+1 => by
    refine Nat.or_lt_two_pow (n := 8) (lft_lt n a k) ?_
    have h : (2 : Nat) ^ ((k + n) % 8) ≤ 2 ^ 7 := Nat.pow_le_pow_right (by omega) (by omega)
    rcases Nat.mod_two_eq_zero_or_one (a / 2 ^ k) with e | e <;> rw [e] <;> omega
theorem refaff_eq : ∀ i < 256, refaff i = aff i := by decide +kernel

/-! ### each byte but 0 is a power of 3, once -/
def pows : Nat → List Nat
  | 0 => []
  | k+1 => pows k ++ [gpow 3 k]
def times (a : Nat) : Nat → Nat
  | 0 => 0
  | k+1 => times a k + if gpow 3 k = a then 1 else 0
/-- the powers of 3, one by one -/
def run3 : Nat → Nat → List Nat
  | 0, _ => []
  | k+1, x => x :: run3 k (gm x 3)
def cnt (a : Nat) : List Nat → Nat
  | [] => 0
  | x :: r => (if x == a then 1 else 0) + cnt a r
theorem cnt_run3 (a : Nat) : ∀ (n j : Nat), times a j + cnt a (run3 n (gpow 3 j)) = times a (j + n)
  | 0, j => rfl
  | n+1, j => by
    show times a j + ((if (gpow 3 j == a) = true then 1 else 0) + cnt a (run3 n (gpow 3 (j+1)))) = _
    have := cnt_run3 a n (j+1)
    rw [show j + (n + 1) = j + 1 + n by omega, ← this]
    show _ = times a j + (if gpow 3 j = a then 1 else 0) + _
    simp only [beq_iff_eq]
    omega
end Go.Proofs.Ytcbihjcnnfohmaa.Fld
