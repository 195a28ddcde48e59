/- Numbers by their digits; roots bit by bit. No program in sight. -/
import Derived.Test.YtoklpohpfoacpaaShaPlain
namespace Go.Proofs.Ytoklpohpfoacpaa.Sha
open Go
set_option linter.unusedVariables false

def val (B : Nat) : List Nat → Nat
  | [] => 0
  | d :: l => d + B * val B l
theorem val_append (B : Nat) (a b : List Nat) : val B (a ++ b) = val B a + B ^ a.length * val B b := by
  induction a with
  | nil => simp [val]
  | cons d a ih =>
    simp only [List.cons_append, val, ih, List.length_cons, Nat.pow_succ, Nat.mul_add]
    rw [← Nat.mul_assoc, Nat.mul_comm B (B ^ a.length), Nat.add_assoc]
theorem val_zeros (B n : Nat) : val B (List.replicate n 0) = 0 := by
  induction n with
  | zero => rfl
  | succ n ih => simp [List.replicate_succ, val, ih]
theorem getD_lt {l : List Nat} {i : Nat} (h : i < l.length) : l.getD i 0 = l[i] := by rw [List.getD, List.getElem?_eq_getElem h]; rfl
theorem val_take_succ (B : Nat) {l : List Nat} {i : Nat} (h : i < l.length) : val B (l.take (i + 1)) = val B (l.take i) + B ^ i * l.getD i 0 := by
  rw [List.take_succ_eq_append_getElem h, val_append, List.length_take, Nat.min_eq_left (by omega), getD_lt h]
  simp [val]
theorem val_set (B : Nat) {l : List Nat} {i : Nat} (h : i < l.length) (x : Nat) : val B (l.set i x) + B ^ i * l.getD i 0 = val B l + B ^ i * x := by
  induction l generalizing i with
  | nil => simp at h
  | cons d l ih =>
    cases i with
    | zero => simp [val]; omega
    | succ i =>
      have := ih (i := i) (by simpa using h)
      simp only [List.set_cons_succ, val, List.getD_cons_succ, Nat.pow_succ]
      have e : ∀ y, B ^ i * B * y = B * (B ^ i * y) := fun y => by rw [Nat.mul_comm (B ^ i) B, Nat.mul_assoc]
      rw [e, e, Nat.add_assoc, Nat.add_assoc, ← Nat.mul_add, ← Nat.mul_add, this]
def Digs (B : Nat) (l : List Nat) : Prop := ∀ d ∈ l, d < B
theorem Digs.get {B : Nat} {l : List Nat} (h : Digs B l) (hB : 0 < B) (i : Nat) : l.getD i 0 < B := by
  rw [List.getD]
  rcases Nat.lt_or_ge i l.length with hi | hi
  · rw [List.getElem?_eq_getElem hi]; exact h _ (List.getElem_mem hi)
  · rw [List.getElem?_eq_none hi]; exact hB
theorem Digs.set {B : Nat} {l : List Nat} (h : Digs B l) {x : Nat} (hx : x < B) (i : Nat) : Digs B (l.set i x) := by
  intro d hd
  rcases List.mem_or_eq_of_mem_set hd with h1 | h1
  · exact h d h1
  · rw [h1]; exact hx
theorem Digs.tail {B d : Nat} {l : List Nat} (h : Digs B (d :: l)) : Digs B l := fun x hx => h x (List.mem_cons_of_mem _ hx)
theorem val_lt {B : Nat} {l : List Nat} (h : Digs B l) : val B l < B ^ l.length := by
  induction l with
  | nil => simp [val]
  | cons d l ih =>
    have h1 := ih h.tail
    have h2 := h d List.mem_cons_self
    simp only [val, List.length_cons, Nat.pow_succ]
    have : B * val B l + B ≤ B * B ^ l.length := by rw [← Nat.mul_succ]; exact Nat.mul_le_mul_left B h1
    rw [Nat.mul_comm (B ^ l.length) B]
    omega
/-- the first digit that differs, from the top, decides; what lies below it are digits -/
theorem val_cmp {B : Nat} (hB : 0 < B) {a b : List Nat} (hl : a.length = b.length) {i : Nat} (hi : i < a.length) (ha : Digs B (a.take i)) (hd : a.drop (i + 1) = b.drop (i + 1)) (hlt : a.getD i 0 < b.getD i 0) : val B a < val B b := by
  have e : ∀ l : List Nat, i < l.length → val B l = val B (l.take i) + B ^ i * (l.getD i 0 + B * val B (l.drop (i + 1))) := fun l hl => by
    conv => lhs; rw [← List.take_append_drop i l, val_append, List.length_take, Nat.min_eq_left (by omega), List.drop_eq_getElem_cons hl]
    rw [getD_lt hl]; rfl
  rw [e a hi, e b (by omega), hd]
  have h1 := val_lt ha
  rw [List.length_take, Nat.min_eq_left (by omega)] at h1
  have h2 : B ^ i * (a.getD i 0 + B * val B (b.drop (i + 1))) + B ^ i ≤ B ^ i * (b.getD i 0 + B * val B (b.drop (i + 1))) := by
    rw [← Nat.mul_succ]; exact Nat.mul_le_mul_left _ (by omega)
  omega
/-- one column of a product -/
theorem col_step {B : Nat} {o : List Nat} {i k ai bk c M Vb : Nat} (hi : i + k < o.length) (h : val B o + c * B ^ (i + k) = M + B ^ i * ai * Vb) :
    val B (o.set (i + k) ((o.getD (i + k) 0 + ai * bk + c) % B)) + (o.getD (i + k) 0 + ai * bk + c) / B * B ^ (i + (k + 1)) = M + B ^ i * ai * (Vb + B ^ k * bk) := by
  have hs := val_set B hi ((o.getD (i + k) 0 + ai * bk + c) % B)
  generalize o.getD (i + k) 0 = z at *
  have hdm := Nat.div_add_mod (z + ai * bk + c) B
  generalize (z + ai * bk + c) / B = q at *
  generalize (z + ai * bk + c) % B = r at *
  have e1 : q * B ^ (i + (k + 1)) = B ^ (i + k) * (B * q) := by rw [show i + (k + 1) = (i + k) + 1 by omega, Nat.pow_succ, Nat.mul_comm q, Nat.mul_assoc]
  have e2 : B ^ i * ai * (Vb + B ^ k * bk) = B ^ i * ai * Vb + B ^ (i + k) * (ai * bk) := by
    rw [Nat.mul_add, Nat.pow_add]; congr 1; ac_rfl
  have e3 : B ^ (i + k) * (B * q) + B ^ (i + k) * r = B ^ (i + k) * z + B ^ (i + k) * (ai * bk) + B ^ (i + k) * c := by
    rw [← Nat.mul_add, hdm, Nat.mul_add, Nat.mul_add]
  have e4 : c * B ^ (i + k) = B ^ (i + k) * c := Nat.mul_comm _ _
  rw [e1, e2]
  rw [e4] at h
  omega
theorem row_end {B : Nat} {o : List Nat} {i lb ai c M Vb : Nat} (hi : i + lb < o.length) (hz : o.getD (i + lb) 0 = 0) (h : val B o + c * B ^ (i + lb) = M * Vb + B ^ i * ai * Vb) :
    val B (o.set (i + lb) (o.getD (i + lb) 0 + c)) = (M + B ^ i * ai) * Vb := by
  have hs := val_set B hi (o.getD (i + lb) 0 + c)
  rw [hz, Nat.mul_zero, Nat.zero_add] at hs
  rw [hz, Nat.zero_add, Nat.add_mul]
  rw [Nat.mul_comm c] at h
  omega
/-- a number of one digit, k places up -/
def unit (n k p : Nat) : List Nat := (List.replicate n 0).set k p
theorem unit_val (B n k p : Nat) (h : k < n) : val B (unit n k p) = p * B ^ k := by
  have := val_set B (l := List.replicate n 0) (i := k) (by simpa using h) p
  rw [val_zeros] at this
  have e : (List.replicate n 0).getD k 0 = 0 := by rw [getD_lt (by simpa using h)]; simp
  rw [e] at this
  unfold unit
  rw [Nat.mul_comm p]; omega
theorem unit_len (n k p : Nat) : (unit n k p).length = n := by simp [unit]
theorem unit_get (n k p i : Nat) (hi : i < n) : (unit n k p).getD i 0 = if i = k then p else 0 := by
  rw [getD_lt (by simpa [unit] using hi)]
  simp only [unit, List.getElem_set, List.getElem_replicate]
  by_cases h : k = i <;> simp [h, eq_comm]
theorem unit_digs (B n k p : Nat) (hB : 0 < B) (hp : p < B) : Digs B (unit n k p) := Digs.set (fun d hd => by rw [(List.mem_replicate.1 hd).2]; exact hB) hp _
theorem Digs.take {B : Nat} {l : List Nat} (h : Digs B l) (i : Nat) : Digs B (l.take i) := fun d hd => h d (List.mem_of_mem_take hd)
theorem above_more {n k p i : Nat} {a : List Nat} (hl : a.length = n) (hp : p < 65536) (ha : Digs 65536 a) (hk : k < n) (hi : i < n) (hd : a.drop (i + 1) = (unit n k p).drop (i + 1)) (h : (if i = k then p else 0) < a.getD i 0) : p * 65536 ^ k < val 65536 a := by
  rw [← unit_val 65536 n k p hk]
  exact val_cmp (by decide) (by rw [unit_len, hl]) (by rw [unit_len]; exact hi) ((unit_digs _ _ _ _ (by decide) hp).take _) hd.symm (by rw [unit_get _ _ _ _ hi]; exact h)
theorem above_less {n k p i : Nat} {a : List Nat} (hl : a.length = n) (hp : p < 65536) (ha : Digs 65536 a) (hk : k < n) (hi : i < n) (hd : a.drop (i + 1) = (unit n k p).drop (i + 1)) (h : a.getD i 0 < (if i = k then p else 0)) : val 65536 a < p * 65536 ^ k := by
  rw [← unit_val 65536 n k p hk]
  exact val_cmp (by decide) (by rw [unit_len, hl]) (by rw [hl]; exact hi) (ha.take _) hd (by rw [unit_get _ _ _ _ hi]; exact h)
theorem above_same {n k p i : Nat} {a : List Nat} (hl : a.length = n) (hi : i < n) (hd : a.drop (i + 1) = (unit n k p).drop (i + 1)) (h : a.getD i 0 = (if i = k then p else 0)) : a.drop i = (unit n k p).drop i := by
  have h1 := List.drop_eq_getElem_cons (l := a) (i := i) (by omega)
  have h2 := List.drop_eq_getElem_cons (l := unit n k p) (i := i) (by rw [unit_len]; exact hi)
  rw [← getD_lt] at h1 h2
  rw [h1, h2, hd, unit_get _ _ _ _ hi, h]
/-! ### primes, by trial -/
def prs : Nat → List Nat
  | 0 => []
  | p + 1 => if 2 ≤ p ∧ (prs p).all (fun q => p % q != 0) then prs p ++ [p] else prs p
/-! ### roots -/
def rt (p of : Nat) : Nat → Nat
  | 0 => 0
  | s + 1 => if (rt p of s + 2 ^ (36 - s)) ^ of ≤ p * 65536 ^ (2 * of) then rt p of s + 2 ^ (36 - s) else rt p of s
theorem rt_le (p of s : Nat) (hs : s ≤ 37) : rt p of s + 2 ^ (37 - s) ≤ 137438953472 := by
  induction s with
  | zero => simp [rt]
  | succ s ih =>
    have h1 := ih (by omega)
    have e : 2 ^ (37 - s) = 2 ^ (36 - s) + 2 ^ (36 - s) := by rw [show 37 - s = (36 - s) + 1 by omega, Nat.pow_succ]; omega
    rw [rt, show 37 - (s + 1) = 36 - s by omega]
    rw [e] at h1
    generalize 2 ^ (36 - s) = c at *
    split <;> omega
def word64 : Bool := (List.range 64).all fun i => rt ((prs 312).getD i 0) 3 37 % 4294967296 == kw.getD i 0
def start8 : Bool := (List.range 8).all fun i => rt ((prs 20).getD i 0) 2 37 % 4294967296 == hw.getD i 0
theorem word64_true : word64 = true := by decide +kernel
theorem start8_true : start8 = true := by decide +kernel
theorem prs312 : (prs 312).length = 64 ∧ (List.range 312).all (fun p => (prs p).length < 64) = true := by decide +kernel
theorem prs20 : (prs 20).length = 8 ∧ (List.range 20).all (fun p => (prs p).length < 8) = true := by decide +kernel
theorem prs_small (n : Nat) : ∀ q ∈ prs n, 2 ≤ q ∧ q < n := by
  induction n with
  | zero => intro q hq; cases hq
  | succ n ih =>
    intro q hq
    rw [prs] at hq
    split at hq
    · rename_i h
      rcases List.mem_append.1 hq with h1 | h1
      · have := ih q h1; omega
      · simp only [List.mem_singleton] at h1; omega
    · have := ih q hq; omega
end Go.Proofs.Ytoklpohpfoacpaa.Sha
