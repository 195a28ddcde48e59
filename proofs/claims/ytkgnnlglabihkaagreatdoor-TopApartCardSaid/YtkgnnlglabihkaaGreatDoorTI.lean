/- The law's own number. Contract. -/
import Derived.Test.YtkgnnlglabihkaaGreatDoorTH
namespace Go.Proofs.YtkgnnlglabihkaaGreatDoor.Top
open Go Go.ChangeShapes Go.WideShapes Go.ChangeAt Go.RowKit Go.Proofs.YtkgnnlglabihkaaGreatDoor.Aes Go.Proofs.YtkgnnlglabihkaaGreatDoor.Str Go.Proofs.YtkgnnlglabihkaaGreatDoor.Mac
set_option linter.unusedVariables false
set_option linter.unusedSimpArgs false
def ddL (k : Nat) : List UInt8 := if k = 0 then [] else Lib.decDigits k
theorem ddL_step {k : Nat} (h : 0 < k) : ddL k = ddL (k / 10) ++ [UInt8.ofNat (48 + k % 10)] := by
  unfold ddL
  rw [if_neg (by omega), Lib.decDigits]
  by_cases h10 : k < 10
  · rw [dif_pos h10, if_pos (by omega), Nat.mod_eq_of_lt h10]; rfl
  · rw [dif_neg h10, if_neg (by omega)]
theorem ddL_dec {n : Nat} (h : 0 < n) : ddL n = decN n := by
  unfold ddL decN Lib.itoa
  rw [if_neg (by omega), if_neg (by omega), Int.toNat_natCast]
set_option maxRecDepth 100000 in
set_option maxHeartbeats 2000000 in
theorem lnum_any (n : Nat) (h1 : 1 ≤ n) (h2 : n ≤ 255) (w : World) :
    Calls Tryz.prog 11 #[.int .i64 (n : Int)] w fun e w' => e = .returned (.string (str (decN n))) ∧ Below w.heap.size w w' := by
  have HD := Lib.hid (ddL_dec (n := n) (by omega))
  have HL := Lib.hid (decN_len n h2)
  generalize decN n = dn at *
  go_enter Tryz.func11, Tryz.ntmps11
  go_wp2_with fail
  go_loopw [0, 3] (fun nv sv wr => ∃ (k : Nat) (acc : List UInt8), k ≤ n ∧ nv = .int .i64 (k : Int) ∧ sv = .string (str acc) ∧ ddL k ++ acc = dn ∧ Below w.heap.size w wr) (fun nv _ _ => (intOf nv).toNat)
  case atStart => exact ⟨n, [], Nat.le_refl _, rfl, rfl, by rw [HD.out, List.append_nil], Below.refl _ _⟩
  case round =>
    obtain ⟨k, acc, hk, rfl, rfl, hd, hb⟩ := hrel
    have HB := Lib.hid hb
    have HDD := Lib.hid hd
    clear hb hd
    by_cases h0 : 0 < k
    · have k0 : (0 : Int) < (k : Int) := by omega
      obtain ⟨d, hdd⟩ : ∃ d : UInt8, UInt8.ofNat (48 + k % 10) = d := ⟨_, rfl⟩
      have hd8 : (48 : Int) + (k : Int) % 10 = (d.toNat : Int) := by rw [← hdd, UInt8.toNat_ofNat']; omega
      obtain ⟨q, hq⟩ : ∃ q, k / 10 = q := ⟨_, rfl⟩
      have hqi : (k : Int) / 10 = (q : Int) := by omega
      have hqt : (k : Int).tdiv 10 = (q : Int) := by rw [← hqi]; exact Int.tdiv_eq_ediv_of_nonneg (by omega)
      have HST := Lib.hid (show ddL q ++ ([d] ++ acc) = dn from by rw [← HDD.out, ddL_step h0, hdd, hq, List.append_assoc])
      have hqk : q < k := by omega
      have haccl : acc.length ≤ 3 := by have := congrArg List.length HST.out; simp only [List.length_append] at this; have := HL.out; omega
      have hrd := rd_lit (w := wr) 5 [d] (C := #[.int .u8 (d.toNat : Int)]) rfl
      have hcv : (convert 22 9 (.slice (some ⟨wr.heap.size, 0, none⟩) 1 1)).run Tryz.prog (wr.alloc (.cells #[.int .u8 (d.toNat : Int)] 5)) = .ok (.string (str [d])) (wr.alloc (.cells #[.int .u8 (d.toNat : Int)] 5)) := hrd.str Go.Proofs.YtkgnnlglabihkaaGreatDoor.u8 9 Tryz.underlying9 1
      have hadd : ∀ w, (Op.stringOp .add (str [d]) (str acc)).run Tryz.prog w = .ok (.string (str ([d] ++ acc))) w := add_str [d] acc (by simp; omega)
      generalize [d] ++ acc = acc2 at *
      generalize [d] = dl at *
      have HQ := Lib.hid (And.intro hqk hk)
      have HQW := Lib.hid (show wrap64 (q : Int) = (q : Int) by unfold wrap64; omega)
      clear h0 hdd hq haccl hrd hqk hk
      go_wp2_with fail
      go_roundw
      case rel => exact ⟨q, acc2, Nat.le_trans (Nat.le_of_lt HQ.out.1) HQ.out.2, by rw [HQW.out], rfl, HST.out, HB.out.alloc HB.out.size _⟩
      case measure =>
        rw [HQW.out]
        exact HQ.out.1
    · obtain rfl : k = 0 := by omega
      go_wp2_with fail
      go_ret
      exact ⟨by rw [← HDD.out]; rfl, HB.out⟩
end Go.Proofs.YtkgnnlglabihkaaGreatDoor.Top

/- Does a vault make a token that leads back? Contract. -/
namespace Go.Proofs.YtkgnnlglabihkaaGreatDoor.Top
open Go Go.ChangeShapes Go.WideShapes Go.ChangeAt Go.RowKit Go.Proofs.YtkgnnlglabihkaaGreatDoor.Aes Go.Proofs.YtkgnnlglabihkaaGreatDoor.Str Go.Proofs.YtkgnnlglabihkaaGreatDoor.Mac
set_option linter.unusedVariables false
set_option linter.unusedSimpArgs false
def headL : List UInt8 := [52, 49, 49, 49, 49, 49, 49, 49, 49, 49, 49, 49, 49, 49, 49, 49]
theorem head_is : isP headL = true := by decide
theorem parts_of {a b c : List UInt8} {n : Nat} (h6 : a.length = 6) (h4 : c.length = 4) (hb : b.length = n - 10) (hn : 16 ≤ n) : binL (a ++ b ++ c) = a ∧ midL (a ++ b ++ c) = b ∧ endL (a ++ b ++ c) = c := by
  have hl : (a ++ b ++ c).length = n := by simp only [List.length_append]; omega
  unfold binL midL endL
  rw [hl]
  refine ⟨?_, ?_, ?_⟩
  · rw [List.append_assoc, List.take_append_of_le_length (by omega), List.take_of_length_le (by omega)]
  · rw [List.append_assoc, List.drop_append_of_le_length (by omega), List.drop_of_length_le (by omega), List.nil_append, List.take_append_of_le_length (by omega), List.take_of_length_le (by omega)]
  · rw [List.drop_append_of_le_length (by simp only [List.length_append]; omega), List.drop_of_length_le (by simp only [List.length_append]; omega), List.nil_append]
theorem join_parts (s : List UInt8) (h : okP s = true) : binL s ++ midL s ++ endL s = s := by
  have hl := ((okP_iff s).1 h).2.1
  unfold binL midL endL
  have e : List.drop (s.length - 4) s = List.drop (s.length - 4 - 6) (List.drop 6 s) := by rw [List.drop_drop]; congr 1; omega
  rw [e, List.append_assoc, List.take_append_drop, List.take_append_drop]
theorem show_hide (master s : List UInt8) (tn v : Nat) (h : okP s = true) : showL master tn v (hideL master tn v s) = s := by
  obtain ⟨h1, h2, h3, h4, h5⟩ := parts_len h
  obtain ⟨e1, e2, e3⟩ := parts_of (a := binL s) (b := encL (keyV master tn v) (binL s ++ endL s) (midL s)) (c := endL s) (n := s.length) h1 h3 (by rw [encL_len, h2]) (by omega)
  unfold showL hideL
  rw [e1, e2, e3, decL_encL _ _ _ (parts_allD h).2.1, join_parts s h]
theorem tok_ne (master s : List UInt8) (tn v : Nat) (h : okP s = true) : tokL master tn v s ≠ s := by
  intro e
  have hl := congrArg List.length e
  obtain ⟨h1, h2, h3, h4, h5⟩ := parts_len h
  unfold tokL hideL at hl
  simp only [List.length_append, List.length_cons, encL_len] at hl
  omega
theorem below_off {w w' : World} {vb rb base : Nat} (h : Frame (fun k => k < w.heap.size ∧ k ≠ vb ∧ k ≠ rb) w w') (hb : base ≤ w.heap.size) (hv : base ≤ vb) (hr : base ≤ rb) : Below base w w' := h.toBelow (fun k hk => ⟨by omega, by omega, by omega⟩)
set_option maxRecDepth 100000 in
set_option maxHeartbeats 2000000 in
theorem tells_any (B : Nat) (w : World) (hT : Tb B w) (hB : B ≤ w.heap.size) :
    Calls Tryz.prog 5 #[] w fun e w' => e = .returned (.bool true) ∧ Below w.heap.size w w' := by
  have HT := Lib.hid hT
  have HB := Lib.hid hB
  obtain ⟨Z, hZ⟩ : ∃ Z : List UInt8, [0, 0, 0, 0, 0, 0, 0, 0, 0, 0, 0, 0, 0, 0, 0, 0] = Z := ⟨_, rfl⟩
  obtain ⟨w0, hw0⟩ : ∃ w0, w.alloc (.cells (bvs [0, 0, 0, 0, 0, 0, 0, 0, 0, 0, 0, 0, 0, 0, 0, 0]).toArray 5) = w0 := ⟨_, rfl⟩
  have hb0 : Below w.heap.size w w0 := by rw [← hw0]; exact (Below.refl _ _).alloc (Nat.le_refl _) _
  have hrd : Rd w0 w0.heap.size (some ⟨w.heap.size, 0, none⟩) Z := by
    rw [← hw0, ← hZ]
    have := rd_lit (w := w) 5 [0, 0, 0, 0, 0, 0, 0, 0, 0, 0, 0, 0, 0, 0, 0, 0] (C := (bvs [0, 0, 0, 0, 0, 0, 0, 0, 0, 0, 0, 0, 0, 0, 0, 0]).toArray) rfl
    simpa using this
  have HN := Lib.hid (vnew_yes (some ⟨w.heap.size, 0, none⟩) 16 16 1 1 Z B w0 (HT.out.on (hb0.mono HB.out)) (Nat.le_trans HB.out hb0.size) (by rw [← hZ]; rfl) hrd (by omega) (by omega) (by omega) (by omega) (by omega) (by omega))
  rw [show ((1 : Nat) : Int) = 1 from rfl] at HN
  have HB0 := Lib.hid (And.intro hb0 hb0.size)
  have hne := tok_ne Z headL 1 1 (isP_ok head_is)
  have hse : ((str (tokL Z 1 1 headL)).toList == [52, 49, 49, 49, 49, 49, 49, 49, 49, 49, 49, 49, 49, 49, 49, 49]) = false := by rw [str_list]; exact beq_eq_false_iff_ne.2 hne
  have hs1 : ((str headL).toList == [52, 49, 49, 49, 49, 49, 49, 49, 49, 49, 49, 49, 49, 49, 49, 49]) = true := by rw [str_list]; rfl
  have hs2 : (str headL).toList = [52, 49, 49, 49, 49, 49, 49, 49, 49, 49, 49, 49, 49, 49, 49, 49] := by rw [str_list]; rfl
  have HSH := Lib.hid (show_hide Z headL 1 1 (isP_ok head_is))
  have HHO := Lib.hid (hideL_ok (master := Z) (tn := 1) (v := 1) (isP_ok head_is))
  have HTK := Lib.hid (show tokL Z 1 1 headL = hideL Z 1 1 headL ++ 46 :: [49] by unfold tokL; rw [decN_one])
  have HVT := Lib.hid (fun vb rb w (hT : Tb B w) hB hBr hBv hV hD => vtoken_yes (fun k => k = vb ∨ k = rb) vb rb 1 1 16 Z headL B w hT hB hBr hBv (by omega) (by omega) (by omega) (by omega) hV hD rfl head_is)
  have HVB := Lib.hid (fun vb rb w (hT : Tb B w) hB hBr hBv hV hD => vback_any (fun k => k = vb ∨ k = rb) vb rb 1 1 Z (hideL Z 1 1 headL) B w hT hB hBr hBv (by omega) (by omega) (by omega) (by omega) hV hD HHO.out)
  rw [← HTK.out, HSH.out, head_is] at HVB
  clear hT hB hb0 hrd hne hZ HSH HHO HTK
  generalize tokL Z 1 1 headL = tk at *
  go_enter Tryz.func5, Tryz.ntmps5
  go_wp2_with (with_reducible refine at_slot 8 ?_
               refine wpList_make_u8 Go.Proofs.YtkgnnlglabihkaaGreatDoor.u8 rfl _ _ rfl .i64 .i64 _ _ 16 16 rfl rfl rfl rfl (by omega) (by omega) ?_)
  refine HN.out.mono ?_
  rintro e w1 ⟨vb, rb, rfl, hV1, hvb, hrb, hb1⟩
  have HV1 := Lib.hid hV1
  have hb01 : Below w.heap.size w w1 := HB0.out.1.trans (hb1.mono HB0.out.2)
  have HB1 := Lib.hid (And.intro (And.intro hb01 hb01.size) (And.intro (Nat.le_trans HB0.out.2 hvb) (Nat.le_trans HB0.out.2 hrb)))
  have HT1 := Lib.hid (And.intro (HT.out.on (hb01.mono HB.out)) (And.intro (Nat.le_trans HB.out HB1.out.1.2) (And.intro (Nat.le_trans HB.out HB1.out.2.2) (Nat.le_trans HB.out HB1.out.2.1))))
  have HD1 := Lib.hid (show ∀ k, (k = vb ∨ k = rb) → k < w1.heap.size from fun k hk => hk.elim (fun e => e ▸ hV1.lt.1) (fun e => e ▸ hV1.lt.2))
  clear hV1 hvb hrb hb1 hb01 hw0
  go_wp2_with fail
  refine (HVT.out vb rb w1 HT1.out.1 HT1.out.2.1 HT1.out.2.2.1 HT1.out.2.2.2 HV1.out HD1.out).mono ?_
  rintro e w2 ⟨rfl, hV2, hF2⟩
  have HV2 := Lib.hid hV2
  have HF2 := Lib.hid (below_off hF2 HB1.out.1.2 HB1.out.2.1 HB1.out.2.2)
  have HZ2 := Lib.hid hF2.size
  clear hV2 hF2
  go_wp2_with fail
  refine (HVB.out vb rb w2 (HT1.out.1.on (HF2.out.mono HB.out)) (Nat.le_trans HT1.out.2.1 HZ2.out) HT1.out.2.2.1 HT1.out.2.2.2 HV2.out (fun k hk => Nat.lt_of_lt_of_le (HD1.out k hk) HZ2.out)).mono ?_
  rintro e w3 ⟨r, x, rfl, hy, _, hV3, hF3⟩
  obtain ⟨rfl, rfl⟩ := hy trivial
  have HF3 := Lib.hid (below_off hF3 (Nat.le_trans HB1.out.1.2 HZ2.out) HB1.out.2.1 HB1.out.2.2)
  clear hy hV3 hF3
  go_wp2_with fail
  go_ret
  exact ⟨rfl, HB1.out.1.1.trans (HF2.out.trans HF3.out)⟩
end Go.Proofs.YtkgnnlglabihkaaGreatDoor.Top

/- TopTokens: a token is what FF1 makes of the number's middle under the folded key. Contract. -/
namespace Go.Proofs.YtkgnnlglabihkaaGreatDoor.Top
open Go Go.ChangeShapes Go.WideShapes Go.ChangeAt Go.RowKit Go.Proofs.YtkgnnlglabihkaaGreatDoor.Aes Go.Proofs.YtkgnnlglabihkaaGreatDoor.Str Go.Proofs.YtkgnnlglabihkaaGreatDoor.Mac
set_option linter.unusedVariables false
set_option linter.unusedSimpArgs false
theorem strRow5 (w : World) (T : TypeId) (a b c d f : List UInt8) : StrRow (w.alloc (.cells #[.string (str a), .string (str b), .string (str c), .string (str d), .string (str f)] T)) (some ⟨w.heap.size, 0, none⟩) [a, b, c, d, f] := fun _ => by
  have h : Aes.RowV (w.alloc (.cells #[.string (str a), .string (str b), .string (str c), .string (str d), .string (str f)] T)) T w.heap.size [.string (str a), .string (str b), .string (str c), .string (str d), .string (str f)] := heap_alloc_new w _
  refine ⟨_, rfl, by simp, fun j hj => ?_⟩
  rw [add_zero_block]
  match j, hj with
  | 0, _ => exact h.cell rfl
  | 1, _ => exact h.cell rfl
  | 2, _ => exact h.cell rfl
  | 3, _ => exact h.cell rfl
  | 4, _ => exact h.cell rfl
theorem fold_all (master : List UInt8) (tn v : Nat) : foldL master [tenantL, decN tn, tokenL, versionL, decN v] = keyV master tn v := by
  show foldL master ([tenantL, decN tn] ++ [tokenL, versionL, decN v]) = _
  unfold keyV keyT foldL
  rw [List.foldl_append]
set_option maxRecDepth 100000 in
set_option maxHeartbeats 1000000 in
theorem toptok_no (A : Option Addr) (n c ns : Nat) (tn now : Int) (master s : List UInt8) (w : World) (hT : Tb w.heap.size w) (hn : master.length = n) (hr : Rd w w.heap.size A master) (h : n < 16 ∨ 64 < n ∨ tn < 1 ∨ 64 < tn ∨ now < 1 ∨ 255 < now) :
    Calls Tryz.prog 3 #[.slice A n c, .int .i64 tn, .int .i64 now, .string (str s)] w fun e w' => e = .returned (.bool true) ∧ Below w.heap.size w w' := by
  have HH := Lib.hid (tells_any w.heap.size w hT (Nat.le_refl _))
  have HN := Lib.hid (fun w hr => vnew_no A n c tn now master w hn hr h)
  have HR := Lib.hid hr
  clear hT hn hr h
  go_enter Tryz.func3, Tryz.ntmps3
  go_wp2_with fail
  refine HH.out.mono ?_
  rintro e w1 ⟨rfl, hb1⟩
  have HB1 := Lib.hid hb1
  clear hb1
  go_wp2_with fail
  refine (HN.out w1 (rd_now HR.out HB1.out)).mono ?_
  rintro e w2 ⟨rfl, hb2⟩
  have HB2 := Lib.hid (HB1.out.trans (hb2.mono HB1.out.size))
  clear hb2
  go_wp2_with fail
  go_ret
  exact ⟨rfl, HB2.out⟩
set_option maxRecDepth 100000 in
set_option maxHeartbeats 1000000 in
theorem toptok_not (A : Option Addr) (n c ns tn now : Nat) (master s : List UInt8) (w : World) (hT : Tb w.heap.size w) (hn : master.length = n) (hr : Rd w w.heap.size A master) (h16 : 16 ≤ n) (h64 : n ≤ 64) (t1 : 1 ≤ tn) (t64 : tn ≤ 64) (v1 : 1 ≤ now) (v2 : now ≤ 255) (hns : s.length = ns) (hm : ns ≤ 9223372036854775000) (hp : isP s = false) :
    Calls Tryz.prog 3 #[.slice A n c, .int .i64 (tn : Int), .int .i64 (now : Int), .string (str s)] w fun e w' => e = .returned (.bool true) ∧ Below w.heap.size w w' := by
  have HH := Lib.hid (tells_any w.heap.size w hT (Nat.le_refl _))
  have HN := Lib.hid (fun w1 hT hB hr => vnew_yes A n c tn now master w.heap.size w1 hT hB hn hr h16 h64 t1 t64 v1 v2)
  have HTK := Lib.hid (fun vb rb w hV => vtoken_no (fun k => k = vb ∨ k = rb) vb rb tn now ns master s w hV hns hm hp)
  have HI := Lib.hid (fun w => is_any s ns hns hm w)
  rw [hp] at HI
  have hs0 : (str ([] : List UInt8)).toList = [] := str_list []
  have hs1 : ((str ([] : List UInt8)).toList == []) = true := by rw [str_list]; rfl
  have HR := Lib.hid hr
  have HT := Lib.hid hT
  clear hT hn hr h16 h64 t1 t64 v1 v2 hns hm hp
  go_enter Tryz.func3, Tryz.ntmps3
  go_wp2_with fail
  refine HH.out.mono ?_
  rintro e w1 ⟨rfl, hb1⟩
  have HB1 := Lib.hid hb1
  clear hb1
  go_wp2_with fail
  refine (HN.out w1 (HT.out.on HB1.out) HB1.out.size (rd_now HR.out HB1.out)).mono ?_
  rintro e w2 ⟨vb, rb, rfl, hV2, hvb, hrb, hb2⟩
  have HV2 := Lib.hid hV2
  have HB2 := Lib.hid (HB1.out.trans (hb2.mono HB1.out.size))
  have HZ := Lib.hid (And.intro (Nat.le_trans HB1.out.size hvb) (Nat.le_trans HB1.out.size hrb))
  clear hV2 hvb hrb hb2
  go_wp2_with fail
  refine (HTK.out vb rb w2 HV2.out).mono ?_
  rintro e w3 ⟨rfl, hV3, hF3⟩
  have HB3 := Lib.hid (HB2.out.trans (below_off hF3 HB2.out.size HZ.out.1 HZ.out.2))
  clear hV3 hF3
  go_wp2_with fail
  refine (HI.out w3).mono ?_
  rintro e w4 ⟨rfl, hb4⟩
  have HB4 := Lib.hid (HB3.out.trans (hb4.mono HB3.out.size))
  clear hb4
  go_wp2_with fail
  go_ret
  exact ⟨rfl, HB4.out⟩
set_option maxRecDepth 100000 in
set_option maxHeartbeats 4000000 in
theorem toptok_yes (A : Option Addr) (n c ns tn now : Nat) (master s : List UInt8) (w : World) (hT : Tb w.heap.size w) (hn : master.length = n) (hr : Rd w w.heap.size A master) (h16 : 16 ≤ n) (h64 : n ≤ 64) (t1 : 1 ≤ tn) (t64 : tn ≤ 64) (v1 : 1 ≤ now) (v2 : now ≤ 255) (hns : s.length = ns) (hp : isP s = true) :
    Calls Tryz.prog 3 #[.slice A n c, .int .i64 (tn : Int), .int .i64 (now : Int), .string (str s)] w fun e w' => e = .returned (.bool true) ∧ Below w.heap.size w w' := by
  have HH := Lib.hid (tells_any w.heap.size w hT (Nat.le_refl _))
  have HN := Lib.hid (fun w1 hT hB hr => vnew_yes A n c tn now master w.heap.size w1 hT hB hn hr h16 h64 t1 t64 v1 v2)
  have hok := isP_ok hp
  obtain ⟨pl1, pl2, pl3, pl4, pl5⟩ := parts_len hok
  obtain ⟨pd1, pd2, pd3⟩ := parts_allD hok
  have hn19 := ((okP_iff s).1 hok).2.2
  have HVT := Lib.hid (fun vb rb w1 (hT : Tb w.heap.size w1) hB hBr hBv hV hD => vtoken_yes (fun k => k = vb ∨ k = rb) vb rb tn now ns master s w.heap.size w1 hT hB hBr hBv t1 t64 v1 v2 hV hD hns hp)
  have HC := Lib.hid (fun w => pcut_any s ns hns (by omega) hok w)
  have e2 : (s.drop 6).take (ns - 4 - 6) = midL s := by unfold midL; rw [hns]
  have e3 : s.drop (ns - 4) = endL s := by unfold endL; rw [hns]
  have e1 : s.take 6 = binL s := rfl
  rw [e1, e2, e3] at HC
  have HKL := Lib.hid (keyV_len master tn now)
  have HFA := Lib.hid (fun (w : World) (hr : Rd w w.heap.size A master) Al hls => fold_any A n c master Al 5 5 [tenantL, decN tn, tokenL, versionL, decN now] w hn (by omega) hr rfl (by omega) hls (by
    intro s hs
    simp only [List.mem_cons, List.not_mem_nil, or_false] at hs
    rcases hs with rfl | rfl | rfl | rfl | rfl
    · decide
    · have := decN_len tn (by omega); omega
    · decide
    · decide
    · have := decN_len now v2; omega))
  rw [fold_all] at HFA
  have HSR := Lib.hid (fun (w : World) => strRow5 w 9 tenantL (decN tn) tokenL versionL (decN now))
  have HL1 := Lib.hid (fun w => lnum_any tn t1 (by omega) w)
  have HL2 := Lib.hid (fun w => lnum_any now v1 v2 w)
  have htk : tokL master tn now s = binL s ++ encL (keyV master tn now) (binL s ++ endL s) (midL s) ++ endL s ++ 46 :: decN now := rfl
  have hml : (encL (keyV master tn now) (binL s ++ endL s) (midL s)).length ≤ 9 := by rw [encL_len]; omega
  have hdl := decN_len now v2
  generalize tokL master tn now s = tk at *
  subst htk
  generalize decN now = dn at *
  generalize decN tn = dt at *
  generalize keyV master tn now = kv at *
  generalize binL s = a at *
  generalize midL s = b at *
  generalize endL s = d at *
  have HE := Lib.hid (fun base Bk gc g w h hb => encs_any base Bk gc g kv (a ++ d) b (b.length) (by omega) (by omega) rfl pd2 w h hb)
  generalize encL kv (a ++ d) b = m at *
  have ha0 : ∀ w, (Op.stringOp .add (str a) (str d)).run Tryz.prog w = .ok (.string (str (a ++ d))) w := add_str a d (by omega)
  have ha1 : ∀ w, (Op.stringOp .add (str a) (str m)).run Tryz.prog w = .ok (.string (str (a ++ m))) w := add_str a m (by omega)
  have ha2 : ∀ w, (Op.stringOp .add (str (a ++ m)) (str d)).run Tryz.prog w = .ok (.string (str (a ++ m ++ d))) w := add_str (a ++ m) d (by simp only [List.length_append]; omega)
  have ha3 : ∀ w, (Op.stringOp .add (str (a ++ m ++ d)) { data := #[46] }).run Tryz.prog w = .ok (.string (str (a ++ m ++ d ++ [46]))) w := add_str (a ++ m ++ d) [46] (by simp only [List.length_append, List.length_cons, List.length_nil]; omega)
  have ha4 : ∀ w, (Op.stringOp .add (str (a ++ m ++ d ++ [46])) (str dn)).run Tryz.prog w = .ok (.string (str (a ++ m ++ d ++ 46 :: dn))) w := fun w => (add_str (a ++ m ++ d ++ [46]) dn (by simp only [List.length_append, List.length_cons, List.length_nil]; omega) w).trans (by simp)
  generalize a ++ m ++ d ++ 46 :: dn = tk at *
  generalize a ++ m ++ d ++ [46] = amd at *
  generalize a ++ m ++ d = amc at *
  generalize a ++ m = am at *
  have had : (a ++ d).length = 10 := by simp only [List.length_append]; omega
  generalize a ++ d = ad at *
  have HAD := Lib.hid had
  have HR := Lib.hid hr
  have HT := Lib.hid hT
  clear hT hn hr h16 h64 t1 t64 v1 v2 hns hp hok pl1 pl2 pl3 pl4 pl5 pd1 pd2 pd3 hn19 e1 e2 e3 hml hdl had
  go_enter Tryz.func3, Tryz.ntmps3
  go_wp2_with fail
  refine HH.out.mono ?_
  rintro e w1 ⟨rfl, hb1⟩
  have HB1 := Lib.hid hb1
  clear hb1
  go_wp2_with fail
  refine (HN.out w1 (HT.out.on HB1.out) HB1.out.size (rd_now HR.out HB1.out)).mono ?_
  rintro e w2 ⟨vb, rb, rfl, hV2, hvb, hrb, hb2⟩
  have HV2 := Lib.hid (And.intro hV2 (show ∀ k, (k = vb ∨ k = rb) → k < w2.heap.size from fun k hk => hk.elim (fun e => e ▸ hV2.lt.1) (fun e => e ▸ hV2.lt.2)))
  have HB2 := Lib.hid (HB1.out.trans (hb2.mono HB1.out.size))
  have HZ := Lib.hid (And.intro (Nat.le_trans HB1.out.size hvb) (Nat.le_trans HB1.out.size hrb))
  clear hV2 hvb hrb hb2
  go_wp2_with fail
  refine (HVT.out vb rb w2 (HT.out.on HB2.out) HB2.out.size HZ.out.2 HZ.out.1 HV2.out.1 HV2.out.2).mono ?_
  rintro e w3 ⟨rfl, hV3, hF3⟩
  have HB3 := Lib.hid (HB2.out.trans (below_off hF3 HB2.out.size HZ.out.1 HZ.out.2))
  clear hV3 hF3
  go_wp2_with fail
  refine (HC.out w3).mono ?_
  rintro e w4 ⟨rfl, hb4⟩
  have HB4 := Lib.hid (HB3.out.trans (hb4.mono HB3.out.size))
  clear hb4
  go_wp2_with fail
  refine (HL1.out w4).mono ?_
  rintro e w5 ⟨rfl, hb5⟩
  have HB5 := Lib.hid (HB4.out.trans (hb5.mono HB4.out.size))
  clear hb5
  go_wp2_with fail
  refine (HL2.out w5).mono ?_
  rintro e w6 ⟨rfl, hb6⟩
  have HB6 := Lib.hid (HB5.out.trans (hb6.mono HB5.out.size))
  clear hb6
  go_wp2_with fail
  have hbA := HB6.out.alloc HB6.out.size (.cells #[.string (str tenantL), .string (str dt), .string (str tokenL), .string (str versionL), .string (str dn)] 9)
  refine (HFA.out _ (rd_now HR.out hbA) _ (HSR.out w6)).mono ?_
  rintro e w7 ⟨v7, rfl, hO7, hb7⟩
  obtain ⟨A7, c7, hv7, hr7, hc7⟩ := hO7.form
  rw [HKL.out] at hv7
  subst hv7
  have HB7 := Lib.hid (hbA.trans (hb7.mono hbA.size))
  obtain ⟨Wb, cb, hrun, hRb, hBb, hzb, hcb, hcbm⟩ := conv_bytes w7 ad 10 HAD.out (by omega)
  have HR7 := Lib.hid (rd_now hr7 hBb)
  have HRB := Lib.hid (hRb.more (show w7.heap.size + 1 ≤ Wb.heap.size by omega))
  have HBB := Lib.hid (HB7.out.trans (hBb.mono HB7.out.size))
  clear hbA hO7 hb7 hr7 hc7 hRb hBb hzb
  go_wp2_with fail
  refine (newc_any A7 (some ⟨w7.heap.size, 0, none⟩) 32 c7 cb kv ad Wb HKL.out (.inr HKL.out) HR7.out HAD.out hcb HRB.out).mono ?_
  rintro e w8 ⟨gc, g, Bk, rfl, hci, hb8⟩
  have HCI := Lib.hid hci
  have HB8 := Lib.hid hb8
  clear hci hb8 hrun
  go_wp2_with fail
  refine (HE.out Wb.heap.size Bk gc g w8 HCI.out HB8.out.size).mono ?_
  rintro e w9 ⟨rfl, hco⟩
  have HB9 := Lib.hid (HBB.out.trans ((HB8.out.trans (hco.toBelow HCI.out HB8.out.size)).mono HBB.out.size))
  clear hco
  go_wp2_with fail
  refine (HL2.out w9).mono ?_
  rintro e w10 ⟨rfl, hb10⟩
  have HB10 := Lib.hid (HB9.out.trans (hb10.mono HB9.out.size))
  clear hb10
  go_wp2_with fail
  go_ret
  exact ⟨rfl, HB10.out⟩
end Go.Proofs.YtkgnnlglabihkaaGreatDoor.Top
