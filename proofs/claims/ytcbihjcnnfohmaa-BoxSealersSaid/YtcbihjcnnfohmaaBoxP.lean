/- Numbers in eight bytes and back; what is sealed is opened: plain. -/
import Derived.Test.YtcbihjcnnfohmaaBoxS
import Derived.Laws.BitsAllLaws
namespace Go.Proofs.Ytcbihjcnnfohmaa.Box
open Go Go.ChangeShapes Go.WideShapes Go.ChangeAt Go.RowKit Go.Proofs.Ytcbihjcnnfohmaa.Aes Go.Proofs.Ytcbihjcnnfohmaa.Str Go.Proofs.Ytcbihjcnnfohmaa.Mac
set_option linter.unusedVariables false
set_option linter.unusedSimpArgs false
def num (l : List UInt8) : Nat := l.foldl (fun a c => 256 * a + c.toNat) 0
theorem num_step {l : List UInt8} {i : Nat} (h : i < l.length) : num (l.take (i + 1)) = 256 * num (l.take i) + (l.getD i 0).toNat := by
  unfold num
  rw [List.take_succ_eq_append_getElem h, List.foldl_append, List.getD_eq_getElem?_getD, List.getElem?_eq_getElem h]
  rfl
theorem num_lt (l : List UInt8) : ∀ i, i ≤ l.length → num (l.take i) < 256 ^ i
  | 0, _ => by simp [num]
  | i+1, h => by
    rw [num_step (by omega), Nat.pow_succ]
    have := num_lt l i (by omega)
    have h2 := (l.getD i 0).toNat_lt
    have h3 : 256 * num (l.take i) + 256 ≤ 256 * 256 ^ i := by
      have : 256 * (num (l.take i) + 1) ≤ 256 * 256 ^ i := Nat.mul_le_mul_left 256 this
      omega
    omega
theorem num_of (a b c d e f g h : UInt8) : num [a, b, c, d, e, f, g, h] = ((((((a.toNat * 256 + b.toNat) * 256 + c.toNat) * 256 + d.toNat) * 256 + e.toNat) * 256 + f.toNat) * 256 + g.toNat) * 256 + h.toNat := by
  unfold num
  simp only [List.foldl]
  omega
theorem be8_list (n : Nat) : be8 n = [UInt8.ofNat (n / 72057594037927936), UInt8.ofNat (n / 281474976710656), UInt8.ofNat (n / 1099511627776), UInt8.ofNat (n / 4294967296), UInt8.ofNat (n / 16777216), UInt8.ofNat (n / 65536), UInt8.ofNat (n / 256), UInt8.ofNat n] := by
  simp [be8, b8, List.range_succ]
theorem num_be8 {n : Nat} (h : n < 18446744073709551616) : num (be8 n) = n := by
  rw [be8_list, num_of]
  simp only [UInt8.toNat_ofNat']
  omega
theorem be8_num {l : List UInt8} (h : l.length = 8) : be8 (num l) = l := by
  obtain ⟨a, b, c, d, e, f, g, x, rfl⟩ : ∃ a b c d e f g x, l = [a, b, c, d, e, f, g, x] := by
    match l, h with
    | [a, b, c, d, e, f, g, x], _ => exact ⟨a, b, c, d, e, f, g, x, rfl⟩
  rw [be8_list, num_of]
  have ha := a.toNat_lt
  have hb := b.toNat_lt
  have hc := c.toNat_lt
  have hd := d.toNat_lt
  have he := e.toNat_lt
  have hf := f.toNat_lt
  have hg := g.toNat_lt
  have hx := x.toNat_lt
  have key : ∀ (m : Nat) (y : UInt8), m % 256 = y.toNat → UInt8.ofNat m = y := fun m y h => UInt8.toNat_inj.1 (by rw [UInt8.toNat_ofNat']; exact h)
  rw [key _ a (by omega), key _ b (by omega), key _ c (by omega), key _ d (by omega), key _ e (by omega), key _ f (by omega), key _ g (by omega), key _ x (by omega)]
theorem or_step (a c : Nat) (ha : a < 72057594037927936) (hc : c < 256) : bits BinOp.or IntKind.u64 ((256 * a : Nat) : Int) ((c : Nat) : Int) = ((256 * a + c : Nat) : Int) := by
  rw [u64_or_nat _ _ (by omega) (by omega)]
  congr 1
  exact (Nat.two_pow_add_eq_or_of_lt (i := 8) (show c < 2 ^ 8 by omega) a).symm
/-- what opens: the body, the tag's place, the nonce's bytes -/
def bodyL (b : List UInt8) : List UInt8 := b.take (b.length - 16)
def endL (b : List UInt8) : List UInt8 := b.drop (b.length - 16)
def Opens (tag about b : List UInt8) : Prop := tagL tag about (bodyL b) = endL b ∧ num ((bodyL b).take 8) ≤ 9223372036854775807
theorem body_seal (enc tag : List UInt8) (nonce : Nat) (about p : List UInt8) : bodyL (sealL enc tag nonce about p) = be8 nonce ++ xorS enc nonce 0 p ∧ endL (sealL enc tag nonce about p) = tagL tag about (be8 nonce ++ xorS enc nonce 0 p) := by
  unfold bodyL endL
  rw [sealL_len, show 24 + p.length - 16 = (be8 nonce ++ xorS enc nonce 0 p).length by rw [List.length_append, b8_len, xorS_length]; omega]
  unfold sealL
  rw [← List.append_assoc]
  exact ⟨List.take_left, List.drop_left⟩
theorem num_seal {enc tag : List UInt8} {nonce : Nat} {about p : List UInt8} (h : nonce < 9223372036854775808) : num ((bodyL (sealL enc tag nonce about p)).take 8) = nonce ∧ (bodyL (sealL enc tag nonce about p)).drop 8 = xorS enc nonce 0 p := by
  rw [(body_seal enc tag nonce about p).1, List.take_left' (b8_len nonce), List.drop_left' (b8_len nonce)]
  exact ⟨num_be8 (by omega), rfl⟩
/-- what was sealed opens -/
theorem opens_seal {enc tag : List UInt8} {nonce : Nat} {about p : List UInt8} (h : nonce < 9223372036854775808) : Opens tag about (sealL enc tag nonce about p) := by
  refine ⟨?_, ?_⟩
  · rw [(body_seal enc tag nonce about p).1, (body_seal enc tag nonce about p).2]
  · rw [(num_seal h).1]; omega
/-- what opens was sealed so -/
theorem seal_opens {enc tag about b : List UInt8} (h : Opens tag about b) (hl : 24 ≤ b.length) : sealL enc tag (num ((bodyL b).take 8)) about (xorS enc (num ((bodyL b).take 8)) 0 ((bodyL b).drop 8)) = b := by
  have hb : (bodyL b).length = b.length - 16 := by unfold bodyL; rw [List.length_take]; omega
  unfold sealL
  rw [xorS_twice, be8_num (by rw [List.length_take]; omega), List.take_append_drop, h.1, ← List.append_assoc, List.take_append_drop]
  exact List.take_append_drop _ _
end Go.Proofs.Ytcbihjcnnfohmaa.Box
