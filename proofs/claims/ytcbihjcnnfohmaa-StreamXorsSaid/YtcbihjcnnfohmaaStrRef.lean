/- The document's pad and stream: contracts. -/
import Derived.Test.YtcbihjcnnfohmaaStrLaw
import Derived.Test.YtcbihjcnnfohmaaAesRefD
namespace Go.Proofs.Ytcbihjcnnfohmaa.Str
open Go Go.ChangeShapes Go.WideShapes Go.ChangeAt Go.RowKit Go.Proofs.Ytcbihjcnnfohmaa.Aes
set_option linter.unusedVariables false
set_option linter.unusedSimpArgs false
theorem be8_length (n : Nat) : (be8 n).length = 8 := by simp [be8]
theorem be8_take (n : Nat) {t : Nat} (ht : t < 8) : (be8 n).take (t + 1) = (be8 n).take t ++ [b8 n t] := by
  have h : (be8 n)[t]? = some (b8 n t) := by simp [be8, ht]
  rw [List.take_add_one, h]; rfl
set_option maxRecDepth 100000 in
set_option maxHeartbeats 2000000 in
theorem reight_any (n : Nat) (w : World) :
    Calls Try.prog 57 #[.int .i64 (n : Int)] w fun e w' => ∃ v, e = .returned v ∧ Own w' 5 w.heap.size v (be8 n) ∧ Below w.heap.size w w' := by
  have hO0 : Own w 5 w.heap.size (.slice none 0 0) ((be8 n).take 0) := Own.nil _ _ _
  have hB0 := Below.refl w.heap.size w
  go_enter Try.func57, Try.ntmps57
  go_wp2_with fail
  go_loopw [3, 4] (fun ov iv wr => ∃ (t : Nat) (i : Int), t ≤ 8 ∧ i = 7 - (t : Int) ∧ iv = .int .i64 i ∧ Own wr 5 w.heap.size ov ((be8 n).take t) ∧ Below w.heap.size w wr) (fun _ iv _ => (intOf iv + 1).toNat)
  case atStart => exact ⟨0, 7, by omega, rfl, rfl, hO0, hB0⟩
  case round =>
    obtain ⟨t, i, ht, hi, rfl, hO, hB⟩ := hrel
    clear hO0 hB0
    have HO := Lib.hid hO
    have HB := Lib.hid hB
    have HI := Lib.hid hi
    clear hO hB
    by_cases hlt : t < 8
    · obtain ⟨s, hs⟩ : ∃ s : Nat, i = (s : Int) := ⟨7 - t, by omega⟩
      obtain ⟨m, hm⟩ : ∃ m, 8 * s = m := ⟨_, rfl⟩
      subst hs
      have hmi : 8 * (s : Int) = (m : Int) := by omega
      have hm56 : m ≤ 56 := by omega
      have hsi : (0 : Int) ≤ (s : Int) := by omega
      obtain ⟨q, hq⟩ : ∃ q, n / 2 ^ m = q := ⟨_, rfl⟩
      have hqi : (n : Int) / 2 ^ m = (q : Int) := by rw [← hq]; push_cast; rfl
      have hwb : IntKind.u8.wrap (q : Int) = ((b8 n t).toNat : Int) := b8_wrap (by rw [← hq, ← hm]; congr 2; congr 1; omega)
      have hsub : (s : Int) - 1 = (7 : Int) - ((t + 1 : Nat) : Int) := by omega
      have HSUB := Lib.hid hsub
      have hml : ((be8 n).take t).length = t := by rw [List.length_take, be8_length]; omega
      obtain ⟨Ao, co, rfl, _, hco⟩ := HO.out.form
      have hO := HO.out
      rw [hml] at hO ⊢
      have hst := be8_take n hlt
      obtain ⟨y, hy⟩ : ∃ y, b8 n t = y := ⟨_, rfl⟩
      rw [hy] at hst hwb
      have hsz := HB.out.size
      have hoa := hO.alloc (.cells #[.int .u8 ((y.toNat : Nat) : Int)] 5)
      have hsa : w.heap.size ≤ (wr.alloc (.cells #[.int .u8 ((y.toNat : Nat) : Int)] 5)).heap.size := by simp; omega
      have hrd : Rd (wr.alloc (.cells #[.int .u8 ((y.toNat : Nat) : Int)] 5)) (wr.heap.size + 1) (some ⟨wr.heap.size, 0, none⟩) [y] := rd_lit (w := wr) 5 [y] rfl
      have HBA := Lib.hid (HB.out.alloc hsz (.cells #[.int .u8 ((y.toNat : Nat) : Int)] 5))
      have HST := Lib.hid hst
      have HOA := Lib.hid hoa
      have HRD := Lib.hid hrd
      have HML := Lib.hid hml
      clear hO hst hy hoa hrd hml hq hm hi hsub
      go_wp2_with (with_reducible refine at_slot 16 ?_
                   refine wpList_append_u8 Go.Proofs.Ytcbihjcnnfohmaa.u8 rfl (.tmp 9) (.tmp 15) rfl w.heap.size _ ((be8 n).take t) _ 1 1 [y] _ rfl rfl HOA.out HRD.out rfl (by rw [HML.out]; omega) hsa ?_
                   intro v2 w2 hO2 hg2 hat2
                   rw [← HST.out] at hO2
                   have hB2 := below_grown HBA.out hg2 hsa HOA.out (Nat.le_refl _)
                   have HO2 := Lib.hid hO2
                   have HB2 := Lib.hid hB2
                   clear hO2 hg2 hat2 hB2)
      go_roundw
      case rel => exact ⟨t + 1, _, by omega, HSUB.out, rfl, HO2.out, HB2.out⟩
      case measure => simp [intOf] <;> omega
    · have ht8 : t = 8 := by omega
      subst ht8
      have hi1 : i = -1 := by omega
      subst hi1
      have hO := HO.out
      rw [List.take_of_length_le (by rw [be8_length]; exact Nat.le_refl _)] at hO
      have HO8 := Lib.hid hO
      clear hO hi HO HI
      go_wp2_with fail
      go_ret
      exact ⟨_, rfl, HO8.out, HB.out⟩
set_option maxRecDepth 100000 in
set_option maxHeartbeats 2000000 in
theorem refpad_yes (A : Option Addr) (L c : Nat) (l : List UInt8) (nonce blk : Nat) (w : World) (hn : l.length = L) (hc : L ≤ c) (hr : Rd w w.heap.size A l) (hk : KeyOk l) :
    Calls Try.prog 32 #[.slice A L c, .int .i64 (nonce : Int), .int .i64 (blk : Int)] w fun e w' => ∃ gv, e = .returned (.tuple #[.slice (some ⟨gv, 0, none⟩) 16 16, .int .i64 0]) ∧ RowV w' 5 gv (bvs (padL l nonce blk)) ∧ w.heap.size ≤ gv ∧ Below w.heap.size w w' := by
  have HN := Lib.hid hn
  have HR := Lib.hid hr
  have HK4 := Lib.hid hk.four
  have HK := Lib.hid hk
  obtain ⟨nn, hnn⟩ : ∃ nn, l.length / 4 = nn := ⟨_, rfl⟩
  rw [hnn] at HK4
  have b1 : decide ((nonce : Int) < 0) = false := decide_eq_false (by omega)
  have b2 : decide ((blk : Int) < 0) = false := decide_eq_false (by omega)
  clear hn hr hk hnn
  go_enter Try.func32, Try.ntmps32
  go_wp2_with fail
  refine (refnew_any A L c nn l HK4.out.1 (by rw [← HN.out]; exact HK4.out.2) HN.out hc w HR.out).mono ?_
  rintro e w1 ⟨g, rfl, hX, hb1⟩
  have hz1 := hb1.size
  have HX := Lib.hid hX
  have HB1 := Lib.hid hb1
  clear hX hb1
  go_wp2_with fail
  refine (reight_any nonce w1).mono ?_
  rintro e w2 ⟨v2, rfl, hO2, hb2⟩
  have hz2 := hb2.size
  have HO2 := Lib.hid hO2
  have HB2 := Lib.hid hb2
  clear hO2 hb2
  go_wp2_with fail
  refine (reight_any blk w2).mono ?_
  rintro e w3 ⟨v3, rfl, hO3, hb3⟩
  have hz3 := hb3.size
  obtain ⟨A3, c3, rfl, hr3, _⟩ := hO3.form
  rw [be8_length]
  have HO3 := Lib.hid (HO2.out.below hb3)
  have HB3 := Lib.hid (HB2.out.trans (hb3.mono hz2))
  have HR3 := Lib.hid hr3
  have hz13 : w1.heap.size ≤ w3.heap.size := by omega
  clear hO3 hb3 hr3
  go_wp2_with (with_reducible refine at_slot 30 ?_
               refine wpList_append_u8 Go.Proofs.Ytcbihjcnnfohmaa.u8 rfl (.tmp 27) (.tmp 29) rfl w1.heap.size _ (be8 nonce) _ 8 c3 (be8 blk) _ rfl rfl HO3.out HR3.out (be8_length _) (by rw [be8_length]; omega) hz13 ?_
               intro v4 w4 hO4 hg4 hat4
               have hB4 := below_grown HB3.out hg4 hz13 HO3.out (Nat.le_refl _)
               obtain ⟨A4, c4, hv4, hr4, _⟩ := hO4.form
               rw [List.length_append, be8_length, be8_length] at hv4
               subst hv4
               have HB4 := Lib.hid hB4
               have HR4 := Lib.hid (show Rd w4 w4.heap.size A4 (cntL nonce blk) from hr4)
               clear hO4 hg4 hat4 hB4 hr4)
  have hX4 := HX.out.frame (Frame.of_below HB4.out (fun k hk => hk.2))
  have hz4 := HB4.out.size
  refine (refenc_any g nn l (cntL nonce blk) A4 _ w4 (hX4.rk (fun k hk => by omega)) (cntL_length _ _) HR4.out).mono ?_
  rintro e w5 ⟨gv, rfl, hg5, hgl, hb5⟩
  have HG5 := Lib.hid hg5
  have HB5 := Lib.hid (HB1.out.trans ((HB4.out.trans (hb5.mono hz4)).mono hz1))
  clear hg5 hb5 hX4
  go_wp2_with fail
  go_ret2
  exact ⟨gv, rfl, HG5.out, by omega, HB5.out⟩
set_option maxRecDepth 100000 in
set_option maxHeartbeats 2000000 in
theorem refpad_no (A : Option Addr) (L c : Nat) (l : List UInt8) (nonce blk : Int) (w : World) (hn : l.length = L) (hc : L ≤ c) (hr : Rd w w.heap.size A l) (h : ¬ KeyOk l ∨ nonce < 0 ∨ blk < 0) :
    Calls Try.prog 32 #[.slice A L c, .int .i64 nonce, .int .i64 blk] w fun e w' => e = .returned (.tuple #[.slice none 0 0, .int .i64 1]) ∧ Below w.heap.size w w' := by
  by_cases hk : KeyOk l
  · have h2 : nonce < 0 ∨ (¬ nonce < 0 ∧ blk < 0) := by
      rcases h with h | h | h
      · exact absurd hk h
      · exact .inl h
      · by_cases hc : nonce < 0
        · exact .inl hc
        · exact .inr ⟨hc, h⟩
    have HN := Lib.hid hn
    have HR := Lib.hid hr
    have HK4 := Lib.hid hk.four
    obtain ⟨nn, hnn⟩ : ∃ nn, l.length / 4 = nn := ⟨_, rfl⟩
    rw [hnn] at HK4
    clear hn hr hk hnn h
    rcases h2 with h2 | ⟨h2, h3⟩
    · have b1 : decide (nonce < 0) = true := decide_eq_true h2
      clear h2
      go_enter Try.func32, Try.ntmps32
      go_wp2_with fail
      refine (refnew_any A L c nn l HK4.out.1 (by rw [← HN.out]; exact HK4.out.2) HN.out hc w HR.out).mono ?_
      rintro e w1 ⟨g, rfl, hX, hb1⟩
      have HB1 := Lib.hid hb1
      clear hX hb1
      go_wp2_with fail
      go_ret2
      exact ⟨rfl, HB1.out⟩
    · have b1 : decide (nonce < 0) = false := decide_eq_false h2
      have b2 : decide (blk < 0) = true := decide_eq_true h3
      clear h2 h3
      go_enter Try.func32, Try.ntmps32
      go_wp2_with fail
      refine (refnew_any A L c nn l HK4.out.1 (by rw [← HN.out]; exact HK4.out.2) HN.out hc w HR.out).mono ?_
      rintro e w1 ⟨g, rfl, hX, hb1⟩
      have HB1 := Lib.hid hb1
      clear hX hb1
      go_wp2_with fail
      go_ret2
      exact ⟨rfl, HB1.out⟩
  · have HNE := Lib.hid (show L ≠ 16 ∧ L ≠ 32 from ⟨fun e => hk (.inl (by rw [hn]; exact e)), fun e => hk (.inr (by rw [hn]; exact e))⟩)
    clear hn hr hk h
    go_enter Try.func32, Try.ntmps32
    go_wp2_with fail
    refine (refnew_no A L c w HNE.out).mono ?_
    rintro e w1 ⟨rfl, rfl⟩
    go_wp2_with fail
    go_ret2
    exact ⟨rfl, Below.refl _ _⟩
set_option maxRecDepth 100000 in
set_option maxHeartbeats 2000000 in
theorem refxor_no1 (A : Option Addr) (L c : Nat) (l : List UInt8) (A2 : Option Addr) (pn pc : Nat) (nonce at_0 : Int) (w : World) (hn : l.length = L) (hc : L ≤ c) (hr : Rd w w.heap.size A l) (h : ¬ KeyOk l ∨ nonce < 0 ∨ at_0 < 0) :
    Calls Try.prog 30 #[.slice A L c, .int .i64 nonce, .int .i64 at_0, .slice A2 pn pc] w fun e w' => e = .returned (.tuple #[.slice none 0 0, .int .i64 1]) ∧ Below w.heap.size w w' := by
  by_cases hk : KeyOk l
  · have h2 : nonce < 0 ∨ (¬ nonce < 0 ∧ at_0 < 0) := by
      rcases h with h | h | h
      · exact absurd hk h
      · exact .inl h
      · by_cases hc : nonce < 0
        · exact .inl hc
        · exact .inr ⟨hc, h⟩
    have HN := Lib.hid hn
    have HR := Lib.hid hr
    have HK4 := Lib.hid hk.four
    obtain ⟨nn, hnn⟩ : ∃ nn, l.length / 4 = nn := ⟨_, rfl⟩
    rw [hnn] at HK4
    clear hn hr hk hnn h
    rcases h2 with h2 | ⟨h2, h3⟩
    · have b1 : decide (nonce < 0) = true := decide_eq_true h2
      clear h2
      go_enter Try.func30, Try.ntmps30
      go_wp2_with fail
      refine (refnew_any A L c nn l HK4.out.1 (by rw [← HN.out]; exact HK4.out.2) HN.out hc w HR.out).mono ?_
      rintro e w1 ⟨g, rfl, hX, hb1⟩
      have HB1 := Lib.hid hb1
      clear hX hb1
      go_wp2_with fail
      go_ret2
      exact ⟨rfl, HB1.out⟩
    · have b1 : decide (nonce < 0) = false := decide_eq_false h2
      have b2 : decide (at_0 < 0) = true := decide_eq_true h3
      clear h2 h3
      go_enter Try.func30, Try.ntmps30
      go_wp2_with fail
      refine (refnew_any A L c nn l HK4.out.1 (by rw [← HN.out]; exact HK4.out.2) HN.out hc w HR.out).mono ?_
      rintro e w1 ⟨g, rfl, hX, hb1⟩
      have HB1 := Lib.hid hb1
      clear hX hb1
      go_wp2_with fail
      go_ret2
      exact ⟨rfl, HB1.out⟩
  · have HNE := Lib.hid (show L ≠ 16 ∧ L ≠ 32 from ⟨fun e => hk (.inl (by rw [hn]; exact e)), fun e => hk (.inr (by rw [hn]; exact e))⟩)
    clear hn hr hk h
    go_enter Try.func30, Try.ntmps30
    go_wp2_with fail
    refine (refnew_no A L c w HNE.out).mono ?_
    rintro e w1 ⟨rfl, rfl⟩
    go_wp2_with fail
    go_ret2
    exact ⟨rfl, Below.refl _ _⟩
set_option maxRecDepth 100000 in
set_option maxHeartbeats 2000000 in
theorem refxor_no2 (A : Option Addr) (L c : Nat) (l : List UInt8) (A2 : Option Addr) (pn pc : Nat) (nonce a : Nat) (w : World) (hn : l.length = L) (hc : L ≤ c) (hr : Rd w w.heap.size A l) (hk : KeyOk l) (h : 65536 < pn ∨ 1099511627776 < a) :
    Calls Try.prog 30 #[.slice A L c, .int .i64 (nonce : Int), .int .i64 (a : Int), .slice A2 pn pc] w fun e w' => e = .returned (.tuple #[.slice none 0 0, .int .i64 2]) ∧ Below w.heap.size w w' := by
  have HN := Lib.hid hn
  have HR := Lib.hid hr
  have HK4 := Lib.hid hk.four
  have HK := Lib.hid hk
  obtain ⟨nn, hnn⟩ : ∃ nn, l.length / 4 = nn := ⟨_, rfl⟩
  rw [hnn] at HK4
  have h2 : 65536 < pn ∨ (¬ 65536 < pn ∧ 1099511627776 < a) := by omega
  have b1 : decide ((nonce : Int) < 0) = false := decide_eq_false (by omega)
  have b2 : decide ((a : Int) < 0) = false := decide_eq_false (by omega)
  clear hn hr hk hnn h
  rcases h2 with h2 | ⟨h2, h3⟩
  · have b3 : decide ((65536 : Int) < (pn : Int)) = true := decide_eq_true (by omega)
    clear h2
    go_enter Try.func30, Try.ntmps30
    go_wp2_with fail
    refine (refnew_any A L c nn l HK4.out.1 (by rw [← HN.out]; exact HK4.out.2) HN.out hc w HR.out).mono ?_
    rintro e w1 ⟨g, rfl, hX, hb1⟩
    have HB1 := Lib.hid hb1
    clear hX hb1
    go_wp2_with fail
    go_ret2
    exact ⟨rfl, HB1.out⟩
  · have b3 : decide ((65536 : Int) < (pn : Int)) = false := decide_eq_false (by omega)
    have b4 : decide ((1099511627776 : Int) < (a : Int)) = true := decide_eq_true (by omega)
    clear h2 h3
    go_enter Try.func30, Try.ntmps30
    go_wp2_with fail
    refine (refnew_any A L c nn l HK4.out.1 (by rw [← HN.out]; exact HK4.out.2) HN.out hc w HR.out).mono ?_
    rintro e w1 ⟨g, rfl, hX, hb1⟩
    have HB1 := Lib.hid hb1
    clear hX hb1
    go_wp2_with fail
    go_ret2
    exact ⟨rfl, HB1.out⟩
end Go.Proofs.Ytcbihjcnnfohmaa.Str
