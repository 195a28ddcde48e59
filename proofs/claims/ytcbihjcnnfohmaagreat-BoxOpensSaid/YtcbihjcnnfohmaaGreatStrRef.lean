/- The document's pad and stream: contracts. -/
import Derived.Test.YtcbihjcnnfohmaaGreatStrAll
import Derived.Test.YtcbihjcnnfohmaaGreatRefTwo
namespace Go.Proofs.YtcbihjcnnfohmaaGreat.Str
open Go Go.ChangeShapes Go.WideShapes Go.ChangeAt Go.RowKit Go.Proofs.YtcbihjcnnfohmaaGreat.Aes
set_option linter.unusedVariables false
set_option linter.unusedSimpArgs false
theorem be8_length (n : Nat) : (be8 n).length = 8 := by simp [be8]
theorem be8_take (n : Nat) {t : Nat} (ht : t < 8) : (be8 n).take (t + 1) = (be8 n).take t ++ [b8 n t] := by
  have h : (be8 n)[t]? = some (b8 n t) := by simp [be8, ht]
  rw [List.take_add_one, h]; rfl
set_option maxRecDepth 100000 in
set_option maxHeartbeats 2000000 in
theorem reight_any (n : Nat) (w : World) :
    Calls Tryz.prog 27 #[.int .i64 (n : Int)] w fun e w' => ∃ v, e = .returned v ∧ Own w' 5 w.heap.size v (be8 n) ∧ Below w.heap.size w w' := by
  have hO0 : Own w 5 w.heap.size (.slice none 0 0) ((be8 n).take 0) := Own.nil _ _ _
  have hB0 := Below.refl w.heap.size w
  go_enter Tryz.func27, Tryz.ntmps27
  go_wp2_with fail
  go_loopw [3, 4] (fun ov iv wr => ∃ (t : Nat) (i : Int), t ≤ 8 ∧ i = 7 - (t : Int) ∧ iv = .int .i64 i ∧ Own wr 5 w.heap.size ov ((be8 n).take t) ∧ Below w.heap.size w wr) (fun _ iv _ => (intOf iv + 1).toNat)
  case atStart => exact ⟨0, 7, by omega, rfl, rfl, hO0, hB0⟩
  case round =>
    obtain ⟨t, i, ht, hi, rfl, hO, hB⟩ := hrel
    clear hO0 hB0
    have HO := Lib.hid hO
    have HB := Lib.hid hB
    have HI := Lib.hid hi
    clear hO hB
    by_cases hlt : t < 8
    · obtain ⟨s, hs⟩ : ∃ s : Nat, i = (s : Int) := ⟨7 - t, by omega⟩
      obtain ⟨m, hm⟩ : ∃ m, 8 * s = m := ⟨_, rfl⟩
      subst hs
      have hmi : 8 * (s : Int) = (m : Int) := by omega
      have hm56 : m ≤ 56 := by omega
      have hsi : (0 : Int) ≤ (s : Int) := by omega
      obtain ⟨q, hq⟩ : ∃ q, n / 2 ^ m = q := ⟨_, rfl⟩
      have hqi : (n : Int) / 2 ^ m = (q : Int) := by rw [← hq]; push_cast; rfl
      have hwb : IntKind.u8.wrap (q : Int) = ((b8 n t).toNat : Int) := b8_wrap (by rw [← hq, ← hm]; congr 2; congr 1; omega)
      have hsub : (s : Int) - 1 = (7 : Int) - ((t + 1 : Nat) : Int) := by omega
      have HSUB := Lib.hid hsub
      have hml : ((be8 n).take t).length = t := by rw [List.length_take, be8_length]; omega
      obtain ⟨Ao, co, rfl, _, hco⟩ := HO.out.form
      have hO := HO.out
      rw [hml] at hO ⊢
      have hst := be8_take n hlt
      obtain ⟨y, hy⟩ : ∃ y, b8 n t = y := ⟨_, rfl⟩
      rw [hy] at hst hwb
      have hsz := HB.out.size
      have hoa := hO.alloc (.cells #[.int .u8 ((y.toNat : Nat) : Int)] 5)
      have hsa : w.heap.size ≤ (wr.alloc (.cells #[.int .u8 ((y.toNat : Nat) : Int)] 5)).heap.size := by simp; omega
      have hrd : Rd (wr.alloc (.cells #[.int .u8 ((y.toNat : Nat) : Int)] 5)) (wr.heap.size + 1) (some ⟨wr.heap.size, 0, none⟩) [y] := rd_lit (w := wr) 5 [y] rfl
      have HBA := Lib.hid (HB.out.alloc hsz (.cells #[.int .u8 ((y.toNat : Nat) : Int)] 5))
      have HST := Lib.hid hst
      have HOA := Lib.hid hoa
      have HRD := Lib.hid hrd
      have HML := Lib.hid hml
      clear hO hst hy hoa hrd hml hq hm hi hsub
      go_wp2_with (with_reducible refine at_slot 16 ?_
                   refine wpList_append_u8 Go.Proofs.YtcbihjcnnfohmaaGreat.u8 rfl (.tmp 9) (.tmp 15) rfl w.heap.size _ ((be8 n).take t) _ 1 1 [y] _ rfl rfl HOA.out HRD.out rfl (by rw [HML.out]; omega) hsa ?_
                   intro v2 w2 hO2 hg2 hat2
                   rw [← HST.out] at hO2
                   have hB2 := below_grown HBA.out hg2 hsa HOA.out (Nat.le_refl _)
                   have HO2 := Lib.hid hO2
                   have HB2 := Lib.hid hB2
                   clear hO2 hg2 hat2 hB2)
      go_roundw
      case rel => exact ⟨t + 1, _, by omega, HSUB.out, rfl, HO2.out, HB2.out⟩
      case measure => simp [intOf] <;> omega
    · have ht8 : t = 8 := by omega
      subst ht8
      have hi1 : i = -1 := by omega
      subst hi1
      have hO := HO.out
      rw [List.take_of_length_le (by rw [be8_length]; exact Nat.le_refl _)] at hO
      have HO8 := Lib.hid hO
      clear hO hi HO HI
      go_wp2_with fail
      go_ret
      exact ⟨_, rfl, HO8.out, HB.out⟩
set_option maxRecDepth 100000 in
set_option maxHeartbeats 2000000 in
theorem refxor_no1 (A : Option Addr) (L c : Nat) (l : List UInt8) (A2 : Option Addr) (pn pc : Nat) (nonce at_0 : Int) (w : World) (hn : l.length = L) (hc : L ≤ c) (hr : Rd w w.heap.size A l) (h : ¬ KeyOk l ∨ nonce < 0 ∨ at_0 < 0) :
    Calls Tryz.prog 26 #[.slice A L c, .int .i64 nonce, .int .i64 at_0, .slice A2 pn pc] w fun e w' => e = .returned (.tuple #[.slice none 0 0, .int .i64 1]) ∧ Below w.heap.size w w' := by
  by_cases hk : KeyOk l
  · have h2 : nonce < 0 ∨ (¬ nonce < 0 ∧ at_0 < 0) := by
      rcases h with h | h | h
      · exact absurd hk h
      · exact .inl h
      · by_cases hc : nonce < 0
        · exact .inl hc
        · exact .inr ⟨hc, h⟩
    have HN := Lib.hid hn
    have HR := Lib.hid hr
    have HK4 := Lib.hid hk.four
    obtain ⟨nn, hnn⟩ : ∃ nn, l.length / 4 = nn := ⟨_, rfl⟩
    rw [hnn] at HK4
    clear hn hr hk hnn h
    rcases h2 with h2 | ⟨h2, h3⟩
    · have b1 : decide (nonce < 0) = true := decide_eq_true h2
      clear h2
      go_enter Tryz.func26, Tryz.ntmps26
      go_wp2_with fail
      refine (refnew_any A L c nn l HK4.out.1 (by rw [← HN.out]; exact HK4.out.2) HN.out hc w HR.out).mono ?_
      rintro e w1 ⟨g, rfl, hX, hb1⟩
      have HB1 := Lib.hid hb1
      clear hX hb1
      go_wp2_with fail
      go_ret2
      exact ⟨rfl, HB1.out⟩
    · have b1 : decide (nonce < 0) = false := decide_eq_false h2
      have b2 : decide (at_0 < 0) = true := decide_eq_true h3
      clear h2 h3
      go_enter Tryz.func26, Tryz.ntmps26
      go_wp2_with fail
      refine (refnew_any A L c nn l HK4.out.1 (by rw [← HN.out]; exact HK4.out.2) HN.out hc w HR.out).mono ?_
      rintro e w1 ⟨g, rfl, hX, hb1⟩
      have HB1 := Lib.hid hb1
      clear hX hb1
      go_wp2_with fail
      go_ret2
      exact ⟨rfl, HB1.out⟩
  · have HNE := Lib.hid (show L ≠ 16 ∧ L ≠ 32 from ⟨fun e => hk (.inl (by rw [hn]; exact e)), fun e => hk (.inr (by rw [hn]; exact e))⟩)
    clear hn hr hk h
    go_enter Tryz.func26, Tryz.ntmps26
    go_wp2_with fail
    refine (refnew_no A L c w HNE.out).mono ?_
    rintro e w1 ⟨rfl, rfl⟩
    go_wp2_with fail
    go_ret2
    exact ⟨rfl, Below.refl _ _⟩
set_option maxRecDepth 100000 in
set_option maxHeartbeats 2000000 in
theorem refxor_no2 (A : Option Addr) (L c : Nat) (l : List UInt8) (A2 : Option Addr) (pn pc : Nat) (nonce a : Nat) (w : World) (hn : l.length = L) (hc : L ≤ c) (hr : Rd w w.heap.size A l) (hk : KeyOk l) (h : 65536 < pn ∨ 1099511627776 < a) :
    Calls Tryz.prog 26 #[.slice A L c, .int .i64 (nonce : Int), .int .i64 (a : Int), .slice A2 pn pc] w fun e w' => e = .returned (.tuple #[.slice none 0 0, .int .i64 2]) ∧ Below w.heap.size w w' := by
  have HN := Lib.hid hn
  have HR := Lib.hid hr
  have HK4 := Lib.hid hk.four
  have HK := Lib.hid hk
  obtain ⟨nn, hnn⟩ : ∃ nn, l.length / 4 = nn := ⟨_, rfl⟩
  rw [hnn] at HK4
  have h2 : 65536 < pn ∨ (¬ 65536 < pn ∧ 1099511627776 < a) := by omega
  have b1 : decide ((nonce : Int) < 0) = false := decide_eq_false (by omega)
  have b2 : decide ((a : Int) < 0) = false := decide_eq_false (by omega)
  clear hn hr hk hnn h
  rcases h2 with h2 | ⟨h2, h3⟩
  · have b3 : decide ((65536 : Int) < (pn : Int)) = true := decide_eq_true (by omega)
    clear h2
    go_enter Tryz.func26, Tryz.ntmps26
    go_wp2_with fail
    refine (refnew_any A L c nn l HK4.out.1 (by rw [← HN.out]; exact HK4.out.2) HN.out hc w HR.out).mono ?_
    rintro e w1 ⟨g, rfl, hX, hb1⟩
    have HB1 := Lib.hid hb1
    clear hX hb1
    go_wp2_with fail
    go_ret2
    exact ⟨rfl, HB1.out⟩
  · have b3 : decide ((65536 : Int) < (pn : Int)) = false := decide_eq_false (by omega)
    have b4 : decide ((1099511627776 : Int) < (a : Int)) = true := decide_eq_true (by omega)
    clear h2 h3
    go_enter Tryz.func26, Tryz.ntmps26
    go_wp2_with fail
    refine (refnew_any A L c nn l HK4.out.1 (by rw [← HN.out]; exact HK4.out.2) HN.out hc w HR.out).mono ?_
    rintro e w1 ⟨g, rfl, hX, hb1⟩
    have HB1 := Lib.hid hb1
    clear hX hb1
    go_wp2_with fail
    go_ret2
    exact ⟨rfl, HB1.out⟩
end Go.Proofs.YtcbihjcnnfohmaaGreat.Str
