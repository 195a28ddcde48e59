/- What was laid is taken; up to four neighbouring bytes turned are told; the sums of three rows hang together. No program in sight. -/
import Derived.Test.YtndpaehcjaejpaaSector
namespace Go.Proofs.Ytndpaehcjaejpaa.Crc
open Go
set_option linter.unusedVariables false

theorem be4_length (n : Nat) : (be4 n).length = 4 := rfl
theorem sealed_length (D : List UInt8) : (sealed' D).length = D.length + 4 := by simp [sealed', be4_length]
theorem take_sealed (D X : List UInt8) : (D ++ X).take D.length = D := by simp
theorem takeOk_app (D X : List UInt8) (hX : X.length = 4) : takeOk (D ++ X) = (be4 (crc D) == X) := by
  unfold takeOk
  rw [List.length_append, hX, Nat.add_sub_cancel]
  simp
theorem take_sealed_ok (D : List UInt8) (h1 : 1 ≤ D.length) (h2 : D.length ≤ 4092) : takeE (sealed' D) = 0 ∧ takeB (sealed' D) = D := by
  have hk : takeOk (sealed' D) = true := by rw [sealed', takeOk_app _ _ (be4_length _)]; simp
  have hl := sealed_length D
  have hcond : ¬ ((sealed' D).length < 5 ∨ 4096 < (sealed' D).length) := by omega
  constructor
  · unfold takeE; rw [if_neg hcond, hk, if_pos rfl]
  · unfold takeB; rw [if_neg hcond, hk, if_pos rfl, hl, Nat.add_sub_cancel]; exact take_sealed _ _
theorem be4_inj (m n : Nat) (hm : m < 4294967296) (hn : n < 4294967296) (h : be4 m = be4 n) : m = n := by
  have key : ∀ (m n : Nat), UInt8.ofNat m = UInt8.ofNat n → m % 256 = n % 256 := by
    intro m n h
    have := congrArg UInt8.toNat h
    simpa using this
  unfold be4 at h
  simp only [List.cons.injEq, and_true] at h
  obtain ⟨h1, h2, h3, h4⟩ := h
  have k1 := key _ _ h1; have k2 := key _ _ h2; have k3 := key _ _ h3; have k4 := key _ _ h4
  omega
theorem crc_eq_run (a b : List UInt8) (h : crc a = crc b) : run 4294967295 a = run 4294967295 b := by
  have := run_lt a 4294967295 (by decide)
  have := run_lt b 4294967295 (by decide)
  unfold crc at h
  omega
theorem take_other (D D' : List UInt8) (hl : D'.length = D.length) (h1 : 1 ≤ D.length) (h2 : D.length ≤ 4092) (hne : run 4294967295 D ≠ run 4294967295 D') : takeE (D' ++ be4 (crc D)) = 6 ∧ takeB (D' ++ be4 (crc D)) = [] := by
  have hk : takeOk (D' ++ be4 (crc D)) = false := by
    rw [takeOk_app _ _ (be4_length _), beq_eq_false_iff_ne]
    intro h
    exact hne (crc_eq_run _ _ (be4_inj _ _ (crc_lt _) (crc_lt _) h).symm)
  have hll : (D' ++ be4 (crc D)).length = D.length + 4 := by simp [be4_length, hl]
  have hcond : ¬ ((D' ++ be4 (crc D)).length < 5 ∨ 4096 < (D' ++ be4 (crc D)).length) := by omega
  constructor
  · unfold takeE; rw [if_neg hcond, hk, if_neg (by decide)]
  · unfold takeB; rw [if_neg hcond, hk, if_neg (by decide)]

/-! ### the register is linear, and no step loses anything -/
theorem by1_xor2 (r s : Nat) (a b : UInt8) : by1 (r ^^^ s) (a ^^^ b) = by1 r a ^^^ by1 s b := by
  unfold by1
  rw [← sts_xor]
  congr 1
  rw [UInt8.toNat_xor]
  simp only [Nat.xor_assoc, xlc]
def zx : List UInt8 → List UInt8 → List UInt8
  | a :: l, b :: m => (a ^^^ b) :: zx l m
  | _, _ => []
theorem run_zx : ∀ (l m : List UInt8) (r s : Nat), l.length = m.length → run (r ^^^ s) (zx l m) = run r l ^^^ run s m
  | [], [], r, s, _ => rfl
  | a :: l, b :: m, r, s, h => by
    show run (by1 (r ^^^ s) (a ^^^ b)) (zx l m) = run (by1 r a) l ^^^ run (by1 s b) m
    rw [by1_xor2]
    exact run_zx l m _ _ (by simpa using h)
  | [], _ :: _, _, _, h => by simp at h
  | _ :: _, [], _, _, h => by simp at h
theorem xor_zero_eq {a b : Nat} (h : a ^^^ b = 0) : a = b := by
  have e : a ^^^ b ^^^ b = b := by rw [h, Nat.zero_xor]
  rwa [Nat.xor_assoc, Nat.xor_self, Nat.xor_zero] at e
theorem st_inj0 (r : Nat) (h : r < 4294967296) (h0 : st r = 0) : r = 0 := by
  unfold st at h0
  have e : r / 2 = r % 2 * 3988292384 := by
    exact xor_zero_eq h0
  rcases Nat.mod_two_eq_zero_or_one r with e2 | e2 <;> rw [e2] at e <;> omega
theorem sts_inj0 (k : Nat) : ∀ r : Nat, r < 4294967296 → sts k r = 0 → r = 0 := by
  induction k with
  | zero => intro r _ h; exact h
  | succ k ih => intro r hr h; exact st_inj0 r hr (ih _ (st_lt r hr) h)
theorem run_zeros (n : Nat) : ∀ r : Nat, run r (List.replicate n 0) = sts (8 * n) r := by
  induction n with
  | zero => intro r; rfl
  | succ n ih =>
    intro r
    rw [List.replicate_succ]
    show run (by1 r 0) _ = _
    rw [ih, by1, show (0 : UInt8).toNat = 0 from rfl, Nat.xor_zero, ← sts_add]
    congr 1
    omega
/-- bytes, the lowest first, as one number -/
def num : List UInt8 → Nat
  | [] => 0
  | c :: l => c.toNat ^^^ (num l * 256)
theorem run_num : ∀ (l : List UInt8) (r : Nat), run r l = sts (8 * l.length) (r ^^^ num l)
  | [], r => by simp [run, num, sts]
  | c :: l, r => by
    show run (by1 r c) l = _
    rw [run_num l, by1, List.length_cons, show 8 * (l.length + 1) = 8 + 8 * l.length by omega, sts_add]
    congr 1
    have e : num l = sts 8 (num l * 256) := by
      have := sts_shl 8 (num l)
      exact this.symm
    conv => lhs; rw [e]
    rw [← sts_xor]
    congr 1
    show r ^^^ c.toNat ^^^ num l * 256 = r ^^^ (c.toNat ^^^ num l * 256)
    rw [Nat.xor_assoc]
theorem num_lt : ∀ (l : List UInt8) (k : Nat), l.length ≤ k → num l < 2 ^ (8 * k)
  | [], k, _ => by show 0 < 2 ^ (8 * k); exact Nat.two_pow_pos _
  | c :: l, k, h => by
    have hk : 1 ≤ k := by simp at h; omega
    have h1 := num_lt l (k - 1) (by simp at h; omega)
    have hc := c.toNat_lt
    have e : (2 : Nat) ^ (8 * k) = 2 ^ (8 * (k - 1)) * 256 := by
      rw [show 8 * k = 8 * (k - 1) + 8 by omega, Nat.pow_add]
    have hp : 0 < (2 : Nat) ^ (8 * (k - 1)) := Nat.two_pow_pos _
    refine Nat.xor_lt_two_pow ?_ ?_ <;> rw [e] <;> omega
theorem num_zero : ∀ (l : List UInt8), num l = 0 → ∀ c ∈ l, c = 0
  | [], _, c, hc => by cases hc
  | x :: l, h, c, hc => by
    have hx := x.toNat_lt
    have e : x.toNat = num l * 256 := xor_zero_eq h
    have h0 : num l = 0 := by omega
    have hx0 : x.toNat = 0 := by omega
    rcases List.mem_cons.1 hc with rfl | hc
    · exact UInt8.toNat_inj.1 hx0
    · exact num_zero l h0 c hc
/-! ### a burst: up to four bytes next to each other, laid on bytes by exclusive or -/
theorem zx_zip : ∀ l m : List UInt8, zx l m = List.zipWith (· ^^^ ·) l m
  | a :: l, b :: m => by rw [zx, List.zipWith_cons_cons, zx_zip l m]
  | [], _ => by simp [zx]
  | _ :: _, [] => by simp [zx]
/-- what lies on M bytes: k bytes of bs from place i on -/
def veil (M i k : Nat) (bs : List UInt8) : List UInt8 := List.replicate i 0 ++ (bs.take k ++ List.replicate (M - i - k) 0)
theorem veil_length (M i k : Nat) (bs : List UInt8) (h : i + k ≤ M) (hk : k ≤ bs.length) : (veil M i k bs).length = M := by simp [veil]; omega
def burst (D : List UInt8) (i k : Nat) (bs : List UInt8) : List UInt8 := zx D (veil D.length i k bs)
theorem burst_length (D : List UInt8) (i k : Nat) (bs : List UInt8) (h : i + k ≤ D.length) (hk : k ≤ bs.length) : (burst D i k bs).length = D.length := by
  unfold burst; rw [zx_zip, List.length_zipWith, veil_length _ _ _ _ h hk, Nat.min_self]
theorem burst_zero (D : List UInt8) (i : Nat) (bs : List UInt8) (h : i ≤ D.length) : burst D i 0 bs = D := by
  unfold burst
  rw [zx_zip]
  apply List.ext_getElem
  · rw [List.length_zipWith, veil_length _ _ _ _ (by omega) (by omega), Nat.min_self]
  · intro j h1 h2
    have hv : veil D.length i 0 bs = List.replicate D.length 0 := by
      unfold veil
      rw [List.take_zero, List.nil_append, List.replicate_append_replicate]
      congr 1
      omega
    simp [hv]
theorem veil_get (M i k : Nat) (bs : List UInt8) (h : i + k ≤ M) (hk : k ≤ bs.length) (j : Nat) (hj : j < (veil M i k bs).length) : (veil M i k bs)[j] = if hj : i ≤ j ∧ j < i + k then bs[j - i] else 0 := by
  unfold veil at hj ⊢
  rw [List.getElem_append]
  by_cases h1 : j < i
  · rw [dif_pos (by simpa using h1), dif_neg (by omega)]; simp
  · rw [dif_neg (by simpa using h1), List.getElem_append]
    by_cases h2 : j < i + k
    · rw [dif_pos (by simp; omega), dif_pos ⟨by omega, h2⟩]; simp
    · rw [dif_neg (by simp; omega), dif_neg (by omega)]; simp
theorem burst_get (D : List UInt8) (i k : Nat) (bs : List UInt8) (h : i + k ≤ D.length) (hk : k ≤ bs.length) (j : Nat) (hj : j < (burst D i k bs).length) (hj' : j < D.length) : (burst D i k bs)[j] = if hj : i ≤ j ∧ j < i + k then D[j] ^^^ bs[j - i] else D[j] := by
  have e : (burst D i k bs)[j] = (List.zipWith (· ^^^ ·) D (veil D.length i k bs))[j]'(by rw [← zx_zip]; exact hj) := by
    simp only [burst, zx_zip]
  rw [e, List.getElem_zipWith, veil_get _ _ _ _ h hk]
  split <;> simp
/-- one more of them -/
theorem burst_step (D : List UInt8) (i k : Nat) (bs : List UInt8) (h : i + k < D.length) (hk : k < bs.length) : burst D i (k+1) bs = (burst D i k bs).set (i + k) (D[i + k] ^^^ bs[k]) := by
  have hl := burst_length D i k bs (by omega) (by omega)
  have hl' := burst_length D i (k+1) bs (by omega) (by omega)
  apply List.ext_getElem
  · rw [List.length_set, hl, hl']
  · intro j h1 h2
    have hj : j < D.length := by omega
    rw [burst_get _ _ _ _ (by omega) (by omega) j h1 hj, List.getElem_set]
    by_cases e : i + k = j
    · subst e
      rw [if_pos rfl, dif_pos ⟨by omega, by omega⟩]
      congr 2
      omega
    · rw [if_neg e, burst_get _ _ _ _ (by omega) (by omega) j (by omega) hj]
      by_cases h3 : i ≤ j ∧ j < i + k
      · rw [dif_pos h3, dif_pos (by omega)]
      · rw [dif_neg h3, dif_neg (by omega)]
theorem burst_next (D : List UInt8) (i k : Nat) (bs : List UInt8) (h : i + k < D.length) (hk : k < bs.length) (hj : i + k < (burst D i k bs).length) : (burst D i k bs)[i + k] = D[i + k] := by
  rw [burst_get _ _ _ _ (by omega) (by omega) _ _ h, dif_neg (by omega)]
/-- THE LAW: a burst that turns anything turns the register -/
theorem run_burst (D : List UInt8) (i k : Nat) (bs : List UInt8) (h : i + k ≤ D.length) (hk : k ≤ bs.length) (h4 : k ≤ 4) (he : run 4294967295 D = run 4294967295 (burst D i k bs)) : ∀ c ∈ bs.take k, c = 0 := by
  have e1 : run 4294967295 (burst D i k bs) = run 4294967295 D ^^^ run 0 (veil D.length i k bs) := by
    have := run_zx D (veil D.length i k bs) 4294967295 0 (veil_length _ _ _ _ h hk).symm
    rwa [Nat.xor_zero] at this
  have e2 : run 0 (veil D.length i k bs) = 0 := by
    rw [e1] at he
    have := congrArg (fun x => run 4294967295 D ^^^ x) he
    simp only [Nat.xor_self] at this
    rw [← Nat.xor_assoc, Nat.xor_self, Nat.zero_xor] at this
    exact this.symm
  have hz : ∀ n : Nat, sts n 0 = 0 := fun n => by induction n with
    | zero => rfl
    | succ n ih => exact ih
  have hl4 : (bs.take k).length ≤ 4 := by simp; omega
  have hb := num_lt (bs.take k) 4 hl4
  have hb' : num (bs.take k) < 4294967296 := hb
  unfold veil at e2
  rw [run_append, run_zeros, hz, run_append, run_zeros, run_num, Nat.zero_xor] at e2
  have e3 := sts_inj0 _ _ (sts_lt _ _ hb') e2
  exact num_zero _ (sts_inj0 _ _ hb' e3)

/-! ### three rows -/
def x3 : List UInt8 → List UInt8 → List UInt8 → List UInt8
  | a :: l, b :: m, c :: n => (a ^^^ b ^^^ c) :: x3 l m n
  | _, _, _ => []
theorem run_x3 : ∀ (l m n : List UInt8) (r s t : Nat), l.length = m.length → m.length = n.length → run (r ^^^ s ^^^ t) (x3 l m n) = run r l ^^^ run s m ^^^ run t n
  | [], [], [], _, _, _, _, _ => rfl
  | a :: l, b :: m, c :: n, r, s, t, h1, h2 => by
    show run (by1 (r ^^^ s ^^^ t) (a ^^^ b ^^^ c)) (x3 l m n) = run (by1 r a) l ^^^ run (by1 s b) m ^^^ run (by1 t c) n
    rw [by1_xor3]
    exact run_x3 l m n _ _ _ (by simpa using h1) (by simpa using h2)
  | [], _ :: _, _, _, _, _, h, _ => by simp at h
  | _ :: _, [], _, _, _, _, h, _ => by simp at h
  | [], [], _ :: _, _, _, _, _, h => by simp at h
  | _ :: _, _ :: _, [], _, _, _, _, h => by simp at h
theorem crc_x3 (l m n : List UInt8) (h1 : l.length = m.length) (h2 : m.length = n.length) : crc (x3 l m n) = crc l ^^^ crc m ^^^ crc n := by
  have key : ∀ l, crc l = 4294967295 ^^^ run 4294967295 l := by
    intro l
    have h := run_lt l 4294967295 (by decide)
    generalize hr : run 4294967295 l = r at h
    unfold crc
    rw [hr]
    have e := BitVec.toNat_not (x := BitVec.ofNat 32 r)
    rw [← BitVec.allOnes_xor, BitVec.toNat_xor, BitVec.toNat_ofNat, Nat.mod_eq_of_lt (by omega)] at e
    rw [show (BitVec.allOnes 32).toNat = 4294967295 from rfl] at e
    omega
  have e := run_x3 l m n 4294967295 4294967295 4294967295 h1 h2
  rw [show (4294967295 ^^^ 4294967295 ^^^ 4294967295 : Nat) = 4294967295 by decide] at e
  rw [key, key, key, key, e]
  generalize run 4294967295 l = x
  generalize run 4294967295 m = y
  generalize run 4294967295 n = z
  rw [show ∀ F : Nat, F ^^^ (x ^^^ y ^^^ z) = (F ^^^ F ^^^ F) ^^^ (x ^^^ y ^^^ z) from fun F => by rw [Nat.xor_self, Nat.zero_xor]]
  simp only [Nat.xor_assoc, xlc]
theorem x3_length (l m n : List UInt8) (h1 : l.length = m.length) (h2 : m.length = n.length) : (x3 l m n).length = l.length := by
  induction l generalizing m n with
  | nil => rfl
  | cons a l ih =>
    cases m with
    | nil => simp at h1
    | cons b m =>
      cases n with
      | nil => simp at h2
      | cons c n => simp only [x3, List.length_cons]; rw [ih m n (by simpa using h1) (by simpa using h2)]
theorem x3_snoc (l m n : List UInt8) (a b c : UInt8) (h1 : l.length = m.length) (h2 : m.length = n.length) : x3 (l ++ [a]) (m ++ [b]) (n ++ [c]) = x3 l m n ++ [a ^^^ b ^^^ c] := by
  induction l generalizing m n with
  | nil =>
    cases m with
    | nil => cases n with
      | nil => rfl
      | cons _ _ => simp at h2
    | cons _ _ => simp at h1
  | cons x l ih =>
    cases m with
    | nil => simp at h1
    | cons y m =>
      cases n with
      | nil => simp at h2
      | cons z n =>
        simp only [List.cons_append, x3]
        rw [ih m n (by simpa using h1) (by simpa using h2)]
end Go.Proofs.Ytndpaehcjaejpaa.Crc
