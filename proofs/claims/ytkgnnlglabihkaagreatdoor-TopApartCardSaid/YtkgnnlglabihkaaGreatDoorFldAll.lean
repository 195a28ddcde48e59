/- Plain facts of the field of 256 elements: no program in sight. -/
import Derived.Laws.BitsAllLaws
namespace Go.Proofs.YtkgnnlglabihkaaGreatDoor.Fld
open Go

/-- times x -/
def xt (a : Nat) : Nat := (a * 2 % 256) ^^^ (27 * (a / 128))
def gmL : Nat → Nat → Nat → Nat → Nat
  | 0, _, _, p => p
  | k+1, a, b, p => gmL k (xt a) (b / 2) (p ^^^ (b % 2 * a))
/-- the product -/
def gm (a b : Nat) : Nat := gmL 8 a b 0

theorem xlc (a b c : Nat) : a ^^^ (b ^^^ c) = b ^^^ (a ^^^ c) := by rw [← Nat.xor_assoc, Nat.xor_comm a b, Nat.xor_assoc]

/-! ### bytes are below 256 -/
theorem xor_lt {a b : Nat} (ha : a < 256) (hb : b < 256) : a ^^^ b < 256 := Nat.xor_lt_two_pow (n := 8) ha hb
theorem xt_lt (a : Nat) (h : a < 256) : xt a < 256 := by
  unfold xt
  exact xor_lt (by omega) (by omega)
theorem bit_mul_lt (b a : Nat) (h : a < 256) : b % 2 * a < 256 := by
  rcases Nat.mod_two_eq_zero_or_one b with e | e <;> rw [e] <;> omega
theorem gmL_lt (k : Nat) : ∀ a b p : Nat, a < 256 → p < 256 → gmL k a b p < 256 := by
  induction k with
  | zero => intro a b p _ hp; exact hp
  | succ k ih => intro a b p ha hp; exact ih _ _ _ (xt_lt a ha) (xor_lt hp (bit_mul_lt b a ha))
theorem gm_lt (a b : Nat) (ha : a < 256) : gm a b < 256 := gmL_lt 8 a b 0 ha (by omega)

theorem gmL_zero (k : Nat) : ∀ a p : Nat, gmL k a 0 p = p := by
  induction k with
  | zero => intro a p; rfl
  | succ k ih => intro a p; show gmL k _ (0 / 2) (p ^^^ (0 % 2 * a)) = p; simp [ih]

/-! ### linear in both -/
theorem bit_xor (b c : Nat) : (b ^^^ c) % 2 = b % 2 ^^^ c % 2 := by
  have := Nat.xor_mod_two_pow (a := b) (b := c) (n := 1)
  simpa using this
theorem half_xor (b c : Nat) : (b ^^^ c) / 2 = b / 2 ^^^ c / 2 := by
  have := Nat.shiftRight_xor_distrib (a := b) (b := c) (i := 1)
  simpa [Nat.shiftRight_succ] using this
theorem mul_bits (x y a : Nat) (hx : x < 2) (hy : y < 2) : (x ^^^ y) * a = x * a ^^^ y * a := by
  have : x = 0 ∨ x = 1 := by omega
  have : y = 0 ∨ y = 1 := by omega
  rcases ‹x = 0 ∨ x = 1› with rfl | rfl <;> rcases ‹y = 0 ∨ y = 1› with rfl | rfl <;> simp
theorem bit_mul_xor (b c a : Nat) : (b ^^^ c) % 2 * a = b % 2 * a ^^^ c % 2 * a := by
  rw [bit_xor]; exact mul_bits _ _ _ (by omega) (by omega)
theorem bit_mul_xor' (b a a' : Nat) : b % 2 * (a ^^^ a') = b % 2 * a ^^^ b % 2 * a' := by
  rcases Nat.mod_two_eq_zero_or_one b with e | e <;> rw [e] <;> simp
theorem xt_xor (a b : Nat) (ha : a < 256) (hb : b < 256) : xt (a ^^^ b) = xt a ^^^ xt b := by
  have h1 : (a ^^^ b) * 2 % 256 = a * 2 % 256 ^^^ b * 2 % 256 := by
    have e := Nat.shiftLeft_xor_distrib (a := a) (b := b) (i := 1)
    have e2 := Nat.xor_mod_two_pow (a := a <<< 1) (b := b <<< 1) (n := 8)
    rw [← e] at e2
    simpa [Nat.shiftLeft_eq] using e2
  have h2 : (a ^^^ b) / 128 = a / 128 ^^^ b / 128 := by
    have := Nat.shiftRight_xor_distrib (a := a) (b := b) (i := 7)
    simpa [Nat.shiftRight_eq_div_pow] using this
  have h3 : 27 * (a / 128 ^^^ b / 128) = 27 * (a / 128) ^^^ 27 * (b / 128) := by
    rw [Nat.mul_comm 27, Nat.mul_comm 27, Nat.mul_comm 27]
    exact mul_bits _ _ _ (by omega) (by omega)
  unfold xt
  rw [h1, h2, h3]
  simp only [Nat.xor_assoc, xlc]
theorem gmL_p (k : Nat) : ∀ a b p q : Nat, gmL k a b (p ^^^ q) = p ^^^ gmL k a b q := by
  induction k with
  | zero => intro a b p q; rfl
  | succ k ih => intro a b p q; show gmL k _ _ _ = _ ^^^ gmL k _ _ _; rw [Nat.xor_assoc, ih]
theorem gmL_succ0 (k a b : Nat) : gmL (k+1) a b 0 = b % 2 * a ^^^ gmL k (xt a) (b / 2) 0 := by
  show gmL k (xt a) (b / 2) (0 ^^^ (b % 2 * a)) = _
  rw [Nat.zero_xor]
  have := gmL_p k (xt a) (b / 2) (b % 2 * a) 0
  rwa [Nat.xor_zero] at this
theorem gmL_xor_right (k : Nat) : ∀ a b c : Nat, gmL k a (b ^^^ c) 0 = gmL k a b 0 ^^^ gmL k a c 0 := by
  induction k with
  | zero => intro a b c; simp [gmL]
  | succ k ih =>
    intro a b c
    rw [gmL_succ0, gmL_succ0, gmL_succ0, bit_mul_xor, half_xor, ih]
    simp only [Nat.xor_assoc, xlc]
theorem gmL_xor_left (k : Nat) : ∀ a a' b : Nat, a < 256 → a' < 256 → gmL k (a ^^^ a') b 0 = gmL k a b 0 ^^^ gmL k a' b 0 := by
  induction k with
  | zero => intro a a' b _ _; simp [gmL]
  | succ k ih =>
    intro a a' b h h'
    rw [gmL_succ0, gmL_succ0, gmL_succ0, bit_mul_xor', xt_xor a a' h h', ih _ _ _ (xt_lt a h) (xt_lt a' h')]
    simp only [Nat.xor_assoc, xlc]
theorem gm_xor_right (a b c : Nat) : gm a (b ^^^ c) = gm a b ^^^ gm a c := gmL_xor_right 8 a b c
theorem gm_xor_left (a a' b : Nat) (h : a < 256) (h' : a' < 256) : gm (a ^^^ a') b = gm a b ^^^ gm a' b := gmL_xor_left 8 a a' b h h'

/-! ### an additive map of bytes is told by the eight bytes of one bit -/
theorem bits_of : ∀ a < 256, a = a % 2 * 1 ^^^ (a / 2 % 2 * 2 ^^^ (a / 4 % 2 * 4 ^^^ (a / 8 % 2 * 8 ^^^ (a / 16 % 2 * 16 ^^^ (a / 32 % 2 * 32 ^^^ (a / 64 % 2 * 64 ^^^ a / 128 % 2 * 128)))))) := by decide +kernel
def Add (f : Nat → Nat) : Prop := ∀ a b : Nat, a < 256 → b < 256 → f (a ^^^ b) = f a ^^^ f b
theorem Add.zero {f : Nat → Nat} (h : Add f) : f 0 = 0 := by
  have := h 0 0 (by omega) (by omega)
  simpa using this
theorem lin_ext {f g : Nat → Nat} (hf : Add f) (hg : Add g) (hb : ∀ i < 8, f (2 ^ i) = g (2 ^ i)) (a : Nat) (ha : a < 256) : f a = g a := by
  have one : ∀ (b i : Nat), i < 8 → f (b % 2 * 2 ^ i) = g (b % 2 * 2 ^ i) := by
    intro b i hi
    rcases Nat.mod_two_eq_zero_or_one b with e | e <;> rw [e]
    · rw [Nat.zero_mul, hf.zero, hg.zero]
    · rw [Nat.one_mul]; exact hb i hi
  have lt : ∀ (b i : Nat), i < 8 → b % 2 * 2 ^ i < 256 := by
    intro b i hi
    have h : (2 : Nat) ^ i ≤ 2 ^ 7 := Nat.pow_le_pow_right (by omega) (by omega)
    rcases Nat.mod_two_eq_zero_or_one b with e | e <;> rw [e] <;> omega
  have l0 := lt a 0 (by omega); have l1 := lt (a / 2) 1 (by omega); have l2 := lt (a / 4) 2 (by omega); have l3 := lt (a / 8) 3 (by omega)
  have l4 := lt (a / 16) 4 (by omega); have l5 := lt (a / 32) 5 (by omega); have l6 := lt (a / 64) 6 (by omega); have l7 := lt (a / 128) 7 (by omega)
  have o0 := one a 0 (by omega); have o1 := one (a / 2) 1 (by omega); have o2 := one (a / 4) 2 (by omega); have o3 := one (a / 8) 3 (by omega)
  have o4 := one (a / 16) 4 (by omega); have o5 := one (a / 32) 5 (by omega); have o6 := one (a / 64) 6 (by omega); have o7 := one (a / 128) 7 (by omega)
  have e := bits_of a ha
  have m6 := xor_lt l6 l7; have m5 := xor_lt l5 m6; have m4 := xor_lt l4 m5; have m3 := xor_lt l3 m4; have m2 := xor_lt l2 m3; have m1 := xor_lt l1 m2
  rw [e]
  show f (a % 2 * 2 ^ 0 ^^^ (a / 2 % 2 * 2 ^ 1 ^^^ (a / 4 % 2 * 2 ^ 2 ^^^ (a / 8 % 2 * 2 ^ 3 ^^^ (a / 16 % 2 * 2 ^ 4 ^^^ (a / 32 % 2 * 2 ^ 5 ^^^ (a / 64 % 2 * 2 ^ 6 ^^^ a / 128 % 2 * 2 ^ 7))))))) = g (a % 2 * 2 ^ 0 ^^^ (a / 2 % 2 * 2 ^ 1 ^^^ (a / 4 % 2 * 2 ^ 2 ^^^ (a / 8 % 2 * 2 ^ 3 ^^^ (a / 16 % 2 * 2 ^ 4 ^^^ (a / 32 % 2 * 2 ^ 5 ^^^ (a / 64 % 2 * 2 ^ 6 ^^^ a / 128 % 2 * 2 ^ 7)))))))
  rw [hf _ _ l0 m1, hf _ _ l1 m2, hf _ _ l2 m3, hf _ _ l3 m4, hf _ _ l4 m5, hf _ _ l5 m6, hf _ _ l6 l7]
  rw [hg _ _ l0 m1, hg _ _ l1 m2, hg _ _ l2 m3, hg _ _ l3 m4, hg _ _ l4 m5, hg _ _ l5 m6, hg _ _ l6 l7]
  rw [o0, o1, o2, o3, o4, o5, o6, o7]

theorem pow_lt8 (i : Nat) (hi : i < 8) : 2 ^ i < 256 := by
  have h : (2 : Nat) ^ i ≤ 2 ^ 7 := Nat.pow_le_pow_right (by omega) (by omega)
  omega
theorem add_right (a : Nat) : Add (gm a) := fun b c _ _ => gm_xor_right a b c
theorem add_left (b : Nat) : Add (fun a => gm a b) := fun a a' h h' => gm_xor_left a a' b h h'

/-! ### the rules of a field -/
theorem comm_basis : ∀ i < 8, ∀ j < 8, gm (2 ^ i) (2 ^ j) = gm (2 ^ j) (2 ^ i) := by decide +kernel
theorem gm_comm (a b : Nat) (ha : a < 256) (hb : b < 256) : gm a b = gm b a :=
  lin_ext (f := fun a => gm a b) (g := gm b) (add_left b) (add_right b)
    (fun i hi => lin_ext (f := gm (2 ^ i)) (g := fun b => gm b (2 ^ i)) (add_right _) (add_left _) (fun j hj => comm_basis i hi j hj) b hb) a ha
theorem assoc_basis : ∀ i < 8, ∀ j < 8, ∀ k < 8, gm (gm (2 ^ i) (2 ^ j)) (2 ^ k) = gm (2 ^ i) (gm (2 ^ j) (2 ^ k)) := by decide +kernel
theorem gm_assoc (a b c : Nat) (ha : a < 256) (hb : b < 256) (hc : c < 256) : gm (gm a b) c = gm a (gm b c) := by
  refine lin_ext (f := fun a => gm (gm a b) c) (g := fun a => gm a (gm b c)) ?_ (add_left _) (fun i hi => ?_) a ha
  · intro x y hx hy
    show gm (gm (x ^^^ y) b) c = _
    rw [gm_xor_left x y b hx hy, gm_xor_left _ _ c (gm_lt x b hx) (gm_lt y b hy)]
  · have hi' := pow_lt8 i hi
    refine lin_ext (f := fun b => gm (gm (2 ^ i) b) c) (g := fun b => gm (2 ^ i) (gm b c)) ?_ ?_ (fun j hj => ?_) b hb
    · intro x y hx hy
      show gm (gm _ (x ^^^ y)) c = _
      rw [gm_xor_right, gm_xor_left _ _ c (gm_lt _ x hi') (gm_lt _ y hi')]
    · intro x y hx hy
      show gm _ (gm (x ^^^ y) c) = _
      rw [gm_xor_left _ _ _ hx hy, gm_xor_right]
    · refine lin_ext (f := fun c => gm (gm (2 ^ i) (2 ^ j)) c) (g := fun c => gm (2 ^ i) (gm (2 ^ j) c)) (add_right _) ?_ (fun k hk => assoc_basis i hi j hj k hk) c hc
      intro x y hx hy
      show gm _ (gm _ (x ^^^ y)) = _
      rw [gm_xor_right, gm_xor_right]
theorem gm_one (a : Nat) (ha : a < 256) : gm a 1 = a := by
  refine lin_ext (f := fun a => gm a 1) (g := fun a => a) (add_left 1) (fun _ _ _ _ => rfl) ?_ a ha
  decide +kernel
theorem one_gm (a : Nat) (ha : a < 256) : gm 1 a = a := by rw [gm_comm 1 a (by omega) ha, gm_one a ha]
theorem gm_zero (a : Nat) : gm a 0 = 0 := by have := gm_xor_right a 0 0; simpa using this
theorem zero_gm (a : Nat) : gm 0 a = 0 := by have := gm_xor_left 0 0 a (by omega) (by omega); simpa using this

/-! ### powers -/
def gpow (a : Nat) : Nat → Nat
  | 0 => 1
  | n+1 => gm (gpow a n) a
theorem gpow_lt (a : Nat) (ha : a < 256) : ∀ n, gpow a n < 256
  | 0 => by show 1 < 256; omega
  | n+1 => gm_lt _ _ (gpow_lt a ha n)
theorem gpow_add (a : Nat) (ha : a < 256) (m : Nat) : ∀ n, gpow a (m + n) = gm (gpow a m) (gpow a n)
  | 0 => (gm_one _ (gpow_lt a ha m)).symm
  | n+1 => by
    show gm (gpow a (m + n)) a = gm (gpow a m) (gm (gpow a n) a)
    rw [gpow_add a ha m n, gm_assoc _ _ _ (gpow_lt a ha m) (gpow_lt a ha n) ha]
theorem gpow_one (a : Nat) (ha : a < 256) : gpow a 1 = a := one_gm a ha
theorem gpow_two (a : Nat) (ha : a < 256) : gpow a 2 = gm a a := by show gm (gm 1 a) a = _; rw [one_gm a ha]
theorem gpow_mul (a : Nat) (ha : a < 256) (m : Nat) : ∀ n, gpow a (m * n) = gpow (gpow a m) n
  | 0 => rfl
  | n+1 => by rw [Nat.mul_succ, gpow_add a ha, gpow_mul a ha m n]; rfl
theorem gpow_sq (a : Nat) (ha : a < 256) (n : Nat) : gpow (gm a a) n = gpow a (2 * n) := by rw [gpow_mul a ha, gpow_two a ha]

/-- a to the 254th by seven squares -/
def chain (a : Nat) : Nat :=
  let b := gm a a
  let c := gm b b
  let d := gm c c
  let e := gm d d
  let f := gm e e
  let g := gm f f
  let h := gm g g
  gm (gm (gm (gm (gm (gm b c) d) e) f) g) h
theorem gpow_dbl (a n : Nat) (ha : a < 256) : gm (gpow a n) (gpow a n) = gpow a (n + n) := (gpow_add a ha n n).symm
theorem gpow_254 (a : Nat) (ha : a < 256) : gpow a 254 = chain a := by
  have h2 : gm a a = gpow a 2 := (gpow_two a ha).symm
  simp only [chain, h2, gpow_dbl a _ ha, ← gpow_add a ha]
/-- the inverse -/
def inv (a : Nat) : Nat := gpow a 254
theorem inv_lt (a : Nat) (ha : a < 256) : inv a < 256 := gpow_lt a ha 254
theorem chain_inv : ∀ a < 256, a = 0 ∨ gm a (chain a) = 1 := by decide +kernel
theorem gm_inv (a : Nat) (ha : a < 256) (h0 : a ≠ 0) : gm a (inv a) = 1 := by
  unfold inv
  rw [gpow_254 a ha]
  exact (chain_inv a ha).resolve_left h0
theorem inv_zero : inv 0 = 0 := by unfold inv; rw [gpow_254 0 (by omega)]; decide +kernel
theorem gpow_255 (a : Nat) (ha : a < 256) (h0 : a ≠ 0) : gpow a 255 = 1 := by
  show gm (gpow a 254) a = 1
  rw [gm_comm _ _ (gpow_lt a ha 254) ha]
  exact gm_inv a ha h0
theorem gm_cancel (a b : Nat) (ha : a < 256) (hb : b < 256) (h0 : a ≠ 0) : gm (inv a) (gm a b) = b := by
  rw [← gm_assoc _ _ _ (inv_lt a ha) ha hb, gm_comm _ _ (inv_lt a ha) ha, gm_inv a ha h0, one_gm b hb]
theorem gm_eq_zero (a b : Nat) (ha : a < 256) (hb : b < 256) : gm a b = 0 ↔ a = 0 ∨ b = 0 := by
  constructor
  · intro h
    by_cases h0 : a = 0
    · exact .inl h0
    · right
      have := gm_cancel a b ha hb h0
      rw [h, gm_zero] at this
      exact this.symm
  · rintro (rfl | rfl)
    · exact zero_gm b
    · exact gm_zero a
theorem inv_unique (a b : Nat) (ha : a < 256) (hb : b < 256) (h : gm a b = 1) : b = inv a := by
  have h0 : a ≠ 0 := by rintro rfl; rw [zero_gm] at h; omega
  have := gm_cancel a b ha hb h0
  rw [h, gm_one _ (inv_lt a ha)] at this
  exact this.symm
theorem inv_ne_zero (a : Nat) (ha : a < 256) (h0 : a ≠ 0) : inv a ≠ 0 := by
  intro h
  have := gm_inv a ha h0
  rw [h, gm_zero] at this
  omega
theorem inv_inv (a : Nat) (ha : a < 256) : inv (inv a) = a := by
  by_cases h0 : a = 0
  · subst h0; rw [inv_zero, inv_zero]
  · refine (inv_unique (inv a) a (inv_lt a ha) ha ?_).symm
    rw [gm_comm _ _ (inv_lt a ha) ha, gm_inv a ha h0]
theorem gpow_zero (n : Nat) (h : 0 < n) : gpow 0 n = 0 := by
  cases n with
  | zero => omega
  | succ n => exact gm_zero _
theorem one_gpow (n : Nat) : gpow 1 n = 1 := by
  induction n with
  | zero => rfl
  | succ n ih => show gm (gpow 1 n) 1 = 1; rw [ih, gm_one 1 (by omega)]
theorem gpow_mod (a : Nat) (ha : a < 256) (h0 : a ≠ 0) (n : Nat) : gpow a (n % 255) = gpow a n := by
  have e : 255 * (n / 255) + n % 255 = n := Nat.div_add_mod n 255
  conv => rhs; rw [← e]
  rw [gpow_add a ha, gpow_mul a ha, gpow_255 a ha h0, one_gpow, one_gm _ (gpow_lt a ha _)]
end Go.Proofs.YtkgnnlglabihkaaGreatDoor.Fld

/- The document's own answers for the field, as plain functions, and that they are the field's. No program in sight. -/
namespace Go.Proofs.YtkgnnlglabihkaaGreatDoor.Fld
open Go

/-! ### the product, divided from the top -/
def cl : Nat → Nat → Nat → Nat
  | 0, _, _ => 0
  | k+1, a, b => cl k a b ^^^ (b / 2 ^ k % 2 * (a * 2 ^ k))
def rd : Nat → Nat → Nat
  | 0, p => p
  | k+1, p => rd k p ^^^ (rd k p / 2 ^ (14 - k) % 2 * (283 * 2 ^ (6 - k)))
def refm (a b : Nat) : Nat := rd 7 (cl 8 a b) % 256
theorem div_xor (a b k : Nat) : (a ^^^ b) / 2 ^ k = a / 2 ^ k ^^^ b / 2 ^ k := by
  have := Nat.shiftRight_xor_distrib (a := a) (b := b) (i := k)
  simpa [Nat.shiftRight_eq_div_pow] using this
theorem shl_xor (a b k : Nat) : (a ^^^ b) * 2 ^ k = a * 2 ^ k ^^^ b * 2 ^ k := by
  have := Nat.shiftLeft_xor_distrib (a := a) (b := b) (i := k)
  simpa [Nat.shiftLeft_eq] using this
theorem cl_right (k : Nat) : ∀ a b c : Nat, cl k a (b ^^^ c) = cl k a b ^^^ cl k a c := by
  induction k with
  | zero => intro a b c; simp [cl]
  | succ k ih =>
    intro a b c
    show cl k a _ ^^^ _ = (cl k a b ^^^ _) ^^^ (cl k a c ^^^ _)
    rw [ih, div_xor, bit_mul_xor]
    simp only [Nat.xor_assoc, xlc]
theorem cl_left (k : Nat) : ∀ a a' b : Nat, cl k (a ^^^ a') b = cl k a b ^^^ cl k a' b := by
  induction k with
  | zero => intro a b c; simp [cl]
  | succ k ih =>
    intro a a' b
    show cl k _ b ^^^ _ = (cl k a b ^^^ _) ^^^ (cl k a' b ^^^ _)
    rw [ih, shl_xor, bit_mul_xor']
    simp only [Nat.xor_assoc, xlc]
theorem rd_xor (k : Nat) : ∀ p q : Nat, rd k (p ^^^ q) = rd k p ^^^ rd k q := by
  induction k with
  | zero => intro p q; rfl
  | succ k ih =>
    intro p q
    show rd k _ ^^^ (rd k _ / _ % 2 * _) = (rd k p ^^^ _) ^^^ (rd k q ^^^ _)
    rw [ih, div_xor, bit_mul_xor]
    simp only [Nat.xor_assoc, xlc]
theorem mod_xor (a b : Nat) : (a ^^^ b) % 256 = a % 256 ^^^ b % 256 := Nat.xor_mod_two_pow (n := 8)
theorem refm_right (a : Nat) : Add (refm a) := by
  intro b c _ _
  show rd 7 (cl 8 a (b ^^^ c)) % 256 = _
  rw [cl_right, rd_xor, mod_xor]; rfl
theorem refm_left (b : Nat) : Add (fun a => refm a b) := by
  intro a a' _ _
  show rd 7 (cl 8 (a ^^^ a') b) % 256 = _
  rw [cl_left, rd_xor, mod_xor]; rfl
theorem refm_basis : ∀ i < 8, ∀ j < 8, refm (2 ^ i) (2 ^ j) = gm (2 ^ i) (2 ^ j) := by decide +kernel
theorem refm_eq (a b : Nat) (ha : a < 256) (hb : b < 256) : refm a b = gm a b :=
  lin_ext (f := fun a => refm a b) (g := fun a => gm a b) (refm_left b) (add_left b)
    (fun i hi => lin_ext (f := refm (2 ^ i)) (g := gm (2 ^ i)) (refm_right _) (add_right _) (fun j hj => refm_basis i hi j hj) b hb) a ha
theorem cl_lt (k : Nat) : ∀ a b : Nat, k ≤ 8 → a < 256 → cl k a b < 65536 := by
  induction k with
  | zero => intro a b _ _; show 0 < _; omega
  | succ k ih =>
    intro a b hk ha
    refine Nat.xor_lt_two_pow (n := 16) (ih a b (by omega) ha) ?_
    have h : (2 : Nat) ^ k ≤ 2 ^ 7 := Nat.pow_le_pow_right (by omega) (by omega)
    have h2 : a * 2 ^ k ≤ 255 * 2 ^ 7 := Nat.mul_le_mul (by omega) h
    rcases Nat.mod_two_eq_zero_or_one (b / 2 ^ k) with e | e <;> rw [e] <;> omega
theorem rd_lt (k : Nat) : ∀ p : Nat, p < 65536 → rd k p < 65536 := by
  induction k with
  | zero => intro p h; exact h
  | succ k ih =>
    intro p h
    refine Nat.xor_lt_two_pow (n := 16) (ih p h) ?_
    have h1 : (2 : Nat) ^ (6 - k) ≤ 2 ^ 6 := Nat.pow_le_pow_right (by omega) (by omega)
    rcases Nat.mod_two_eq_zero_or_one (rd k p / 2 ^ (14 - k)) with e | e <;> rw [e] <;> omega

/-! ### the maps -/
def rot (n a : Nat) : Nat := (a * 2 ^ n % 256) ||| (a / 2 ^ (8 - n))
def aff (i : Nat) : Nat := (((i ^^^ 99) ^^^ rot 1 i) ^^^ rot 1 (rot 1 i)) ^^^ rot 1 (rot 1 (rot 1 i)) ^^^ rot 1 (rot 1 (rot 1 (rot 1 i)))
def unaff (a : Nat) : Nat := rot 1 a ^^^ rot 3 a ^^^ rot 6 a ^^^ 5
def box (a : Nat) : Nat := aff (inv a)
def unbox (a : Nat) : Nat := inv (unaff a)
theorem aff_lt : ∀ i < 256, aff i < 256 := by decide +kernel
theorem unaff_lt : ∀ i < 256, unaff i < 256 := by decide +kernel
theorem rot_lt : ∀ a < 256, rot 1 a < 256 ∧ rot 3 a < 256 ∧ rot 6 a < 256 := by decide +kernel
theorem unaff_aff : ∀ i < 256, unaff (aff i) = i := by decide +kernel
theorem aff_unaff : ∀ i < 256, aff (unaff i) = i := by decide +kernel
theorem box_lt (a : Nat) (ha : a < 256) : box a < 256 := aff_lt _ (inv_lt a ha)
theorem unbox_lt (a : Nat) (ha : a < 256) : unbox a < 256 := inv_lt _ (unaff_lt a ha)
theorem unbox_box (a : Nat) (ha : a < 256) : unbox (box a) = a := by
  unfold unbox box
  rw [unaff_aff _ (inv_lt a ha), inv_inv a ha]
theorem box_unbox (a : Nat) (ha : a < 256) : box (unbox a) = a := by
  unfold unbox box
  rw [inv_inv _ (unaff_lt a ha), aff_unaff a ha]
theorem box_inj (a b : Nat) (ha : a < 256) (hb : b < 256) : box a = box b ↔ a = b := by
  constructor
  · intro h
    rw [← unbox_box a ha, h, unbox_box b hb]
  · rintro rfl; rfl
theorem box_moves' : ∀ a < 256, aff (chain a) ≠ a ∧ aff (chain a) ≠ 255 - a := by decide +kernel
theorem box_moves (a : Nat) (ha : a < 256) : box a ≠ a ∧ box a ≠ 255 - a := by
  unfold box inv
  rw [gpow_254 a ha]
  exact box_moves' a ha
/-- turned left, bit by bit -/
def lft (n a : Nat) : Nat → Nat
  | 0 => 0
  | k+1 => lft n a k ||| (a / 2 ^ k % 2 * 2 ^ ((k + n) % 8))
def refaff (i : Nat) : Nat := i ^^^ lft 1 i 8 ^^^ lft 2 i 8 ^^^ lft 3 i 8 ^^^ lft 4 i 8 ^^^ 99
theorem lft_lt (n a : Nat) : ∀ k, lft n a k < 256
  | 0 => by show 0 < 256; omega
  | k+1 => by
    refine Nat.or_lt_two_pow (n := 8) (lft_lt n a k) ?_
    have h : (2 : Nat) ^ ((k + n) % 8) ≤ 2 ^ 7 := Nat.pow_le_pow_right (by omega) (by omega)
    rcases Nat.mod_two_eq_zero_or_one (a / 2 ^ k) with e | e <;> rw [e] <;> omega
theorem refaff_eq : ∀ i < 256, refaff i = aff i := by decide +kernel

/-! ### each byte but 0 is a power of 3, once -/
def pows : Nat → List Nat
  | 0 => []
  | k+1 => pows k ++ [gpow 3 k]
def times (a : Nat) : Nat → Nat
  | 0 => 0
  | k+1 => times a k + if gpow 3 k = a then 1 else 0
/-- the powers of 3, one by one -/
def run3 : Nat → Nat → List Nat
  | 0, _ => []
  | k+1, x => x :: run3 k (gm x 3)
def cnt (a : Nat) : List Nat → Nat
  | [] => 0
  | x :: r => (if x == a then 1 else 0) + cnt a r
theorem cnt_run3 (a : Nat) : ∀ (n j : Nat), times a j + cnt a (run3 n (gpow 3 j)) = times a (j + n)
  | 0, j => rfl
  | n+1, j => by
    show times a j + ((if (gpow 3 j == a) = true then 1 else 0) + cnt a (run3 n (gpow 3 (j+1)))) = _
    have := cnt_run3 a n (j+1)
    rw [show j + (n + 1) = j + 1 + n by omega, ← this]
    show _ = times a j + (if gpow 3 j = a then 1 else 0) + _
    simp only [beq_iff_eq]
    omega
end Go.Proofs.YtkgnnlglabihkaaGreatDoor.Fld
