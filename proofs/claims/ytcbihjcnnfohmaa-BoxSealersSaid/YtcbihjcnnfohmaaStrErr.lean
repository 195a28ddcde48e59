/- What Xor refuses: contracts. Laws of bytes under the pad. -/
import Derived.Test.YtcbihjcnnfohmaaStrXor
namespace Go.Proofs.Ytcbihjcnnfohmaa.Str
open Go Go.ChangeShapes Go.WideShapes Go.ChangeAt Go.RowKit Go.Proofs.Ytcbihjcnnfohmaa.Aes
set_option linter.unusedVariables false
set_option linter.unusedSimpArgs false
set_option maxRecDepth 100000 in
set_option maxHeartbeats 1000000 in
theorem xor_no1 (A : Option Addr) (n c : Nat) (l : List UInt8) (A2 : Option Addr) (pn2 pc : Nat) (nonce a : Int) (w : World) (hn : l.length = n) (hr : Rd w w.heap.size A l) (hnm : nonce < 9223372036854775808) (h : ¬ KeyOk l ∨ nonce < 0 ∨ a < 0) :
    Calls Try.prog 29 #[.slice A n c, .int .i64 nonce, .int .i64 a, .slice A2 pn2 pc] w fun e w' => e = .returned (.tuple #[.slice none 0 0, .int .i64 1]) ∧ Below w.heap.size w w' := by
  have HN := Lib.hid hn
  have HR := Lib.hid hr
  clear hr hn
  by_cases h1 : ¬ KeyOk l ∨ nonce < 0
  · have H1 := Lib.hid h1
    clear h h1 hnm
    go_enter Try.func29, Try.ntmps29
    go_wp2_with fail
    refine (blocks_no A n c l nonce _ w.heap.size (Nat.le_refl _) HN.out HR.out H1.out).mono ?_
    rintro e w1 ⟨rfl, hb1⟩
    go_wp2_with fail
    go_ret2
    exact ⟨rfl, hb1⟩
  · have hk : KeyOk l := Classical.byContradiction fun hk => h1 (.inl hk)
    have hn0 : 0 ≤ nonce := by
      rcases Int.lt_or_le nonce 0 with h' | h'
      · exact absurd (.inr h') h1
      · exact h'
    have hneg : a < 0 := by
      rcases h with h | h | h
      · exact absurd hk h
      · omega
      · exact h
    obtain ⟨nc, rfl⟩ := Int.eq_ofNat_of_zero_le hn0
    have HNC := Lib.hid (show nc < 9223372036854775808 by omega)
    have HK := Lib.hid hk
    clear h h1 hnm hk hn0
    go_enter Try.func29, Try.ntmps29
    go_wp2_with fail
    refine (blocks_yes A n c l nc HNC.out _ w.heap.size (Nat.le_refl _) HN.out HR.out HK.out).mono ?_
    rintro e w1 ⟨g, pk, pn, B1, rfl, hst, hpk, hpn, hb1⟩
    have HB1 := Lib.hid hb1
    clear hst hb1
    go_wp2_with fail
    go_ret2
    exact ⟨rfl, HB1.out⟩
set_option maxRecDepth 100000 in
set_option maxHeartbeats 1000000 in
theorem xor_no2 (A : Option Addr) (n c : Nat) (l : List UInt8) (A2 : Option Addr) (pn2 pc : Nat) (nonce a : Nat) (w : World) (hn : l.length = n) (hr : Rd w w.heap.size A l) (hk : KeyOk l) (hnm : nonce < 9223372036854775808) (h : 65536 < pn2 ∨ 1099511627776 < a) :
    Calls Try.prog 29 #[.slice A n c, .int .i64 (nonce : Int), .int .i64 (a : Int), .slice A2 pn2 pc] w fun e w' => e = .returned (.tuple #[.slice none 0 0, .int .i64 2]) ∧ Below w.heap.size w w' := by
  have HN := Lib.hid hn
  have HR := Lib.hid hr
  have HK := Lib.hid hk
  have HNC := Lib.hid hnm
  have a0 : decide ((a : Int) < 0) = false := decide_eq_false (by omega)
  clear hr hn hk hnm
  by_cases hp : 65536 < pn2
  · have b1 : decide ((65536 : Int) < (pn2 : Int)) = true := decide_eq_true (by omega)
    clear h hp
    go_enter Try.func29, Try.ntmps29
    go_wp2_with fail
    refine (blocks_yes A n c l nonce HNC.out _ w.heap.size (Nat.le_refl _) HN.out HR.out HK.out).mono ?_
    rintro e w1 ⟨g, pk, pn, B1, rfl, hst, hpk, hpn, hb1⟩
    have HB1 := Lib.hid hb1
    clear hst hb1
    go_wp2_with fail
    go_ret2
    exact ⟨rfl, HB1.out⟩
  · have b1 : decide ((65536 : Int) < (pn2 : Int)) = false := decide_eq_false (by omega)
    have b2 : decide ((1099511627776 : Int) < (a : Int)) = true := decide_eq_true (by omega)
    clear h hp
    go_enter Try.func29, Try.ntmps29
    go_wp2_with fail
    refine (blocks_yes A n c l nonce HNC.out _ w.heap.size (Nat.le_refl _) HN.out HR.out HK.out).mono ?_
    rintro e w1 ⟨g, pk, pn, B1, rfl, hst, hpk, hpn, hb1⟩
    have HB1 := Lib.hid hb1
    clear hst hb1
    go_wp2_with fail
    go_ret2
    exact ⟨rfl, HB1.out⟩

/-! ### plain -/
theorem xorS_get {key : Blk} {nonce a : Nat} {p : List UInt8} {i : Nat} (hi : i < p.length) : (xorS key nonce a p)[i]? = some (p.getD i 0 ^^^ at_ (padL key nonce ((a + i) / 16)) ((a + i) % 16)) := by
  unfold xorS; rw [List.getElem?_map, List.getElem?_range hi]; rfl
theorem xorS_ext {l : List UInt8} {key : Blk} {nonce a : Nat} {p : List UInt8} (hl : l.length = p.length) (h : ∀ i, i < p.length → l.getD i 0 = p.getD i 0 ^^^ at_ (padL key nonce ((a + i) / 16)) ((a + i) % 16)) : l = xorS key nonce a p := by
  apply List.ext_getElem?
  intro i
  rcases Nat.lt_or_ge i p.length with hi | hi
  · rw [xorS_get hi, ← h i hi]
    simp [List.getD_eq_getElem?_getD, List.getElem?_eq_getElem (show i < l.length by omega)]
  · rw [List.getElem?_eq_none (by omega), List.getElem?_eq_none (by rw [xorS_length]; exact hi)]
theorem xorS_getD {key : Blk} {nonce a : Nat} {p : List UInt8} {i : Nat} (hi : i < p.length) : (xorS key nonce a p).getD i 0 = p.getD i 0 ^^^ at_ (padL key nonce ((a + i) / 16)) ((a + i) % 16) := by
  rw [List.getD_eq_getElem?_getD, xorS_get hi]; rfl
/-- done twice it is undone -/
theorem xorS_twice (key : Blk) (nonce a : Nat) (p : List UInt8) : xorS key nonce a (xorS key nonce a p) = p := by
  refine (xorS_ext (by rw [xorS_length]) fun i hi => ?_).symm
  rw [xorS_length] at hi
  rw [xorS_getD hi, UInt8.xor_assoc, UInt8.xor_self, UInt8.xor_zero]
/-- bytes may be cut -/
theorem xorS_cut (key : Blk) (nonce a : Nat) (p : List UInt8) (k : Nat) (hk : k ≤ p.length) : xorS key nonce a (p.take k) ++ xorS key nonce (a + k) (p.drop k) = xorS key nonce a p := by
  refine xorS_ext (by rw [List.length_append, xorS_length, xorS_length, List.length_take, List.length_drop]; omega) fun i hi => ?_
  have hl : (xorS key nonce a (p.take k)).length = k := by rw [xorS_length, List.length_take]; omega
  rw [List.getD_eq_getElem?_getD]
  rcases Nat.lt_or_ge i k with h | h
  · rw [List.getElem?_append_left (by omega), xorS_get (by rw [List.length_take]; omega)]
    simp [List.getD_eq_getElem?_getD, List.getElem?_take, h]
  · rw [List.getElem?_append_right (by omega), hl, xorS_get (by rw [List.length_drop]; omega), show a + k + (i - k) = a + i by omega]
    simp [List.getD_eq_getElem?_getD, List.getElem?_drop, show k + (i - k) = i by omega]
/-- bytes 0 become the pad -/
theorem xorS_zeros {key : Blk} (hk : KeyOk key) (nonce b : Nat) : xorS key nonce (16 * b) (List.replicate 16 0) = padL key nonce b := by
  refine (xorS_ext (by rw [padL_length hk, List.length_replicate]) fun i hi => ?_).symm
  rw [List.length_replicate] at hi
  rw [show (16 * b + i) / 16 = b by omega, show (16 * b + i) % 16 = i by omega]
  rw [show (List.replicate 16 (0 : UInt8)).getD i 0 = 0 by rw [List.getD_eq_getElem?_getD, List.getElem?_replicate, if_pos hi]; rfl, UInt8.zero_xor]
  rfl
end Go.Proofs.Ytcbihjcnnfohmaa.Str
