/- The document's opening: contracts. -/
import Derived.Test.YtcbihjcnnfohmaaGreatBoxThree
import Derived.Deep.RegionHeld
import Derived.Deep.DrawnRows
import Derived.Test.YtcbihjcnnfohmaaGreatMemAll
namespace Go.Proofs.YtcbihjcnnfohmaaGreat.Box
open Go Go.ChangeShapes Go.WideShapes Go.ChangeAt Go.RowKit Go.Proofs.YtcbihjcnnfohmaaGreat.Aes Go.Proofs.YtcbihjcnnfohmaaGreat.Str Go.Proofs.YtcbihjcnnfohmaaGreat.Mac
set_option linter.unusedVariables false
set_option linter.unusedSimpArgs false
set_option maxRecDepth 20000 in
theorem arg_mid {w : World} {B : Nat} {A : Option Addr} {n c lo hi : Nat} {l : List UInt8} (hr : Rd w B A l) (hn : l.length = n) (hk : lo ≤ hi) (hh : hi ≤ n) (hc : n ≤ c) : ∃ A', (∀ w' : World, (Instr.slice 22 (.slice A n c) (some (.int .i64 (lo : Int))) (some (.int .i64 (hi : Int))) none).run Tryz.prog w' = .ok (.slice A' (hi - lo) (c - lo)) w') ∧ Rd w B A' ((l.take hi).drop lo) := by
  have hu : Tryz.prog.underlying 22 = some (.slice (Tryz.prog.elem 22)) := by kernel_rfl
  have hz : ∀ w, (sizeOf (Tryz.prog.elem 22)).run Tryz.prog w = .ok 1 w := fun w => by kernel_rfl
  refine ⟨if c = lo then A else A.map (·.add lo), fun w' => ?_, (hr.take hi).drop lo (by rw [List.length_take]; omega)⟩
  rw [run_slice_lh w' _ _ _ _ hu .i64 .i64 (lo : Int) (hi : Int) (by omega) (by omega) (by omega), hz, Result.andThen_ok, sliced]
  simp
theorem addr_zero (a : Addr) : a.add 0 = a := by unfold Addr.add; rw [if_pos rfl]
theorem key_lens {enc : List UInt8} (hk : KeyOk enc) : ∃ n, (n = 4 ∨ n = 8) ∧ enc.length = 4 * n := by
  rcases hk with h | h
  · exact ⟨4, .inl rfl, by omega⟩
  · exact ⟨8, .inr rfl, by omega⟩
/-- the nonce's first byte tells whether it fits -/
theorem num_first {l : List UInt8} (h : l.length = 8) : 9223372036854775807 < num l ↔ 127 < (l.getD 0 0).toNat := by
  obtain ⟨a, b, c, d, e, f, g, x, rfl⟩ : ∃ a b c d e f g x, l = [a, b, c, d, e, f, g, x] := by
    match l, h with
    | [a, b, c, d, e, f, g, x], _ => exact ⟨a, b, c, d, e, f, g, x, rfl⟩
  rw [num_of]
  have ha := a.toNat_lt
  have hb := b.toNat_lt
  have hc := c.toNat_lt
  have hd := d.toNat_lt
  have he := e.toNat_lt
  have hf := f.toNat_lt
  have hg := g.toNat_lt
  have hx := x.toNat_lt
  show _ ↔ 127 < a.toNat
  omega
theorem num_part {l : List UInt8} (h : l.length = 8) (hm : num l ≤ 9223372036854775807) {i : Nat} (hi : i < 8) : num (l.take (i + 1)) ≤ 9223372036854775807 := by
  by_cases h7 : i = 7
  · subst h7; rw [List.take_of_length_le (by omega)]; exact hm
  · have h1 := num_lt l (i + 1) (by omega)
    have h2 : 256 ^ (i + 1) ≤ 256 ^ 7 := Nat.pow_le_pow_right (by omega) (by omega)
    have h3 : (256 : Nat) ^ 7 = 72057594037927936 := rfl
    omega
set_option maxRecDepth 100000 in
set_option maxHeartbeats 1000000 in
theorem refopen_no1 (Ae : Option Addr) (ne ce : Nat) (enc : List UInt8) (At : Option Addr) (nt ct : Nat) (Aa : Option Addr) (na ca : Nat) (Ab : Option Addr) (L cb : Nat) (w : World) (hel : enc.length = ne) (hk : ¬ KeyOk enc) :
    Calls Tryz.prog 16 #[.slice Ae ne ce, .slice At nt ct, .slice Aa na ca, .slice Ab L cb] w fun e w' => e = .returned (.tuple #[.slice none 0 0, .int .i64 0, .int .i64 1]) ∧ w = w' := by
  have hne : ne ≠ 16 ∧ ne ≠ 32 := ⟨fun e => hk (.inl (hel.trans e)), fun e => hk (.inr (hel.trans e))⟩
  have HNE := Lib.hid hne
  clear hel hk hne
  go_enter Tryz.func16, Tryz.ntmps16
  go_wp2_with fail
  refine (refnew_no Ae ne ce w HNE.out).mono ?_
  rintro e w1 ⟨rfl, rfl⟩
  go_wp2_with fail
  go_ret3
  exact ⟨rfl, rfl⟩
set_option maxRecDepth 100000 in
set_option maxHeartbeats 1000000 in
theorem refopen_short (Ae : Option Addr) (ne ce : Nat) (enc : List UInt8) (At : Option Addr) (nt ct : Nat) (Aa : Option Addr) (na ca : Nat) (Ab : Option Addr) (L cb : Nat) (w : World) (hel : enc.length = ne) (hec : ne ≤ ce) (her : Rd w w.heap.size Ae enc) (hk : KeyOk enc) (hL : L < 24) :
    Calls Tryz.prog 16 #[.slice Ae ne ce, .slice At nt ct, .slice Aa na ca, .slice Ab L cb] w fun e w' => e = .returned (.tuple #[.slice none 0 0, .int .i64 0, .int .i64 3]) ∧ Below w.heap.size w w' := by
  obtain ⟨n4, hn4, hl4⟩ := key_lens hk
  have HEL := Lib.hid hel
  have HEC := Lib.hid hec
  have HER := Lib.hid her
  have HN4 := Lib.hid hn4
  have HL4 := Lib.hid (show ne = 4 * n4 by omega)
  have d1 : decide ((L : Int) < 24) = true := decide_eq_true (by omega)
  clear hel hec her hk hL hn4 hl4
  go_enter Tryz.func16, Tryz.ntmps16
  go_wp2_with fail
  refine (refnew_any Ae ne ce n4 enc HN4.out HL4.out HEL.out HEC.out w HER.out).mono ?_
  rintro e w1 ⟨gk, rfl, hk1, hb1⟩
  have HB1 := Lib.hid hb1
  clear hk1 hb1
  go_wp2_with fail
  go_ret3
  exact ⟨rfl, HB1.out⟩
set_option maxRecDepth 100000 in
set_option maxHeartbeats 1000000 in
theorem refopen_long (Ae : Option Addr) (ne ce : Nat) (enc : List UInt8) (At : Option Addr) (nt ct : Nat) (Aa : Option Addr) (na ca : Nat) (Ab : Option Addr) (L cb : Nat) (w : World) (hel : enc.length = ne) (hec : ne ≤ ce) (her : Rd w w.heap.size Ae enc) (hk : KeyOk enc) (hL : 65560 < L) :
    Calls Tryz.prog 16 #[.slice Ae ne ce, .slice At nt ct, .slice Aa na ca, .slice Ab L cb] w fun e w' => e = .returned (.tuple #[.slice none 0 0, .int .i64 0, .int .i64 2]) ∧ Below w.heap.size w w' := by
  obtain ⟨n4, hn4, hl4⟩ := key_lens hk
  have HEL := Lib.hid hel
  have HEC := Lib.hid hec
  have HER := Lib.hid her
  have HN4 := Lib.hid hn4
  have HL4 := Lib.hid (show ne = 4 * n4 by omega)
  have d1 : decide ((L : Int) < 24) = false := decide_eq_false (by omega)
  have d2 : decide ((65560 : Int) < (L : Int)) = true := decide_eq_true (by omega)
  clear hel hec her hk hL hn4 hl4
  go_enter Tryz.func16, Tryz.ntmps16
  go_wp2_with fail
  refine (refnew_any Ae ne ce n4 enc HN4.out HL4.out HEL.out HEC.out w HER.out).mono ?_
  rintro e w1 ⟨gk, rfl, hk1, hb1⟩
  have HB1 := Lib.hid hb1
  clear hk1 hb1
  go_wp2_with fail
  go_ret3
  exact ⟨rfl, HB1.out⟩
set_option maxRecDepth 100000 in
set_option maxHeartbeats 4000000 in
theorem refopen_tag (Ae : Option Addr) (ne ce : Nat) (enc : List UInt8) (At : Option Addr) (nt ct : Nat) (tag : List UInt8) (Aa : Option Addr) (na ca : Nat) (about : List UInt8) (Ab : Option Addr) (L cb : Nat) (l : List UInt8) (w : World)
    (hel : enc.length = ne) (hec : ne ≤ ce) (her : Rd w w.heap.size Ae enc) (hk : KeyOk enc) (htl : tag.length = nt) (ht30 : nt ≤ 1073741824) (htr : Rd w w.heap.size At tag) (hal : about.length = na) (ha30 : na ≤ 1073741824) (har : Rd w w.heap.size Aa about) (hbl : l.length = L) (hL24 : 24 ≤ L) (hL6 : L ≤ 65560) (hbc : L ≤ cb) (hbr : Rd w w.heap.size Ab l) (hne : tagL tag about (bodyL l) ≠ endL l) :
    Calls Tryz.prog 16 #[.slice Ae ne ce, .slice At nt ct, .slice Aa na ca, .slice Ab L cb] w fun e w' => e = .returned (.tuple #[.slice none 0 0, .int .i64 0, .int .i64 7]) ∧ Below w.heap.size w w' := by
  obtain ⟨n4, hn4, hl4⟩ := key_lens hk
  have HK := Lib.hid hk
  have HEL := Lib.hid hel
  have HEC := Lib.hid hec
  have HER := Lib.hid her
  have HN4 := Lib.hid hn4
  have HL4 := Lib.hid (show ne = 4 * n4 by omega)
  have HTL := Lib.hid htl
  have HTR := Lib.hid htr
  have HAL := Lib.hid hal
  have HAR := Lib.hid har
  have d1 : decide ((L : Int) < 24) = false := decide_eq_false (by omega)
  have d2 : decide ((65560 : Int) < (L : Int)) = false := decide_eq_false (by omega)
  obtain ⟨n, hn⟩ : ∃ n, L - 16 = n := ⟨_, rfl⟩
  have hLn : L = n + 16 := by omega
  have hbody : bodyL l = l.take n := by unfold bodyL; rw [hbl, hn]
  have hend : endL l = l.drop n := by unfold endL; rw [hbl, hn]
  obtain ⟨A1, hs1, hr1⟩ := arg_to (k := n) hbr hbl (by omega) hbc
  obtain ⟨A2, hs2, hr2⟩ := arg_from (k := n) hbr hbl (by omega) hbc
  rw [show L - n = 16 by omega] at hs2
  obtain ⟨A4, hs4, hr4⟩ := arg_mid (lo := 8) (hi := n) hbr hbl (by omega) (by omega) hbc
  have hs4' : ∀ w' : World, (Instr.slice 22 (.slice Ab L cb) (some (.int .i64 8)) (some (.int .i64 (n : Int))) none).run Tryz.prog w' = .ok (.slice A4 (n - 8) (cb - 8)) w' := hs4
  have hl1 : (l.take n).length = n := by rw [List.length_take]; omega
  have hl2 : (l.drop n).length = 16 := by rw [List.length_drop]; omega
  have hlen4 : ((l.take n).drop 8).length = n - 8 := by rw [List.length_drop, hl1]
  have hb8 : (l.take n).take 8 = l.take 8 := by rw [List.take_take, Nat.min_eq_left (by omega)]
  obtain ⟨n8, hn8⟩ : ∃ n8, n - 8 = n8 := ⟨_, rfl⟩
  obtain ⟨c8, hc8⟩ : ∃ c8, cb - 8 = c8 := ⟨_, rfl⟩
  obtain ⟨c2, hc2⟩ : ∃ c2, cb - n = c2 := ⟨_, rfl⟩
  rw [hn8, hc8] at hs4'
  rw [hn8] at hlen4
  rw [hc2] at hs2
  have HE8 := Lib.hid (show (bodyL l).take 8 = l.take 8 by rw [hbody]; exact hb8)
  have HED := Lib.hid (show (bodyL l).drop 8 = (l.take n).drop 8 by rw [hbody])
  obtain ⟨BD, hBD⟩ : ∃ BD, (l.take n).drop 8 = BD := ⟨_, rfl⟩
  obtain ⟨BO, hBO⟩ : ∃ BO, l.take n = BO := ⟨_, rfl⟩
  obtain ⟨BE, hBE⟩ : ∃ BE, l.drop n = BE := ⟨_, rfl⟩
  rw [hBD] at hr4 hlen4 HED
  rw [hBO] at hr1 hl1 hbody
  rw [hBE] at hr2 hl2 hend
  obtain ⟨adb, hAb, habb, habc⟩ := rd_some2 hbr (by omega)
  subst hAb
  have hl8 : (l.take 8).length = 8 := by rw [List.length_take]; omega
  have HBC := Lib.hid (fun (i : Nat) (hi : i < 8) => (show w.cell? (adb.add i) = some (bv ((l.take 8).getD i 0)) from by
    rw [habc i (by omega)]
    simp only [List.getD_eq_getElem?_getD]
    rw [List.getElem?_take, if_pos hi]))
  have hx0 := HBC.out 0 (by omega)
  have hsub : (L : Int) - 16 = (n : Int) := by omega
  have hsubw : IntKind.i64.wrap ((L : Int) - 16) = (n : Int) := by rw [hsub]; exact i64_wraps _ (by omega) (by omega)
  have HR1 := Lib.hid hr1
  have HR2 := Lib.hid hr2
  have HR4 := Lib.hid hr4
  have HL1 := Lib.hid hl1
  have HL2 := Lib.hid hl2
  have HLN4 := Lib.hid hlen4
  have HL8 := Lib.hid hl8
  have HAB := Lib.hid habb
  have n24 : 8 ≤ n ∧ n ≤ 65544 := by omega
  have HN8 := Lib.hid (show n8 ≤ 65536 by omega)
  have hd : ((str (tagL tag about BO)).toList == (str BE).toList) = false := by rw [hbody, hend] at hne; exact str_ne hne
  clear hne
  have hL0 : (0 : Int) < (L : Int) := by omega
  have hL8 : (8 : Int) ≤ (L : Int) := by omega
  generalize l.take 8 = B8 at *
  clear hel hec her hk hn4 hl4 htl htr hal har hbl hL24 hL6 hbc hbr hn hbody hend hs4 hr1 hr2 hr4 hl1 hl2 hl8 hlen4 hn8 hc8 hc2 hBD hBO hBE hLn hb8 habc habb hx0
  go_enter Tryz.func16, Tryz.ntmps16
  go_wp2_with fail
  refine (refnew_any Ae ne ce n4 enc HN4.out HL4.out HEL.out HEC.out w HER.out).mono ?_
  rintro e w1 ⟨gk, rfl, hk1, hb1⟩
  have HBD := Lib.hid (show Below w.heap.size w w1.drew from hb1.drew)
  have z1 : (convert 22 9 (.slice A2 16 c2)).run Tryz.prog w1 = .ok (.string (str BE)) w1 := arg_str HL2.out HR2.out hb1
  have z1d : (convert 22 9 (.slice A2 16 c2)).run Tryz.prog w1.drew = .ok (.string (str BE)) w1.drew := arg_str HL2.out HR2.out HBD.out
  clear hk1 hb1
  go_wp2_with fail
  refine wp_region_held_drew (S := fun w' => (convert 22 9 (.slice A2 16 c2)).run Tryz.prog w' = .ok (.string (str BE)) w') (by kernel_rfl) (z1d) (fun hHeld => ?_)
  refine wpAnyH_take (i := 0) (v := ?_) rfl (by kernel_rfl) (by kernel_rfl) (by kernel_rfl) (fun _ _ _ h => h) (Or.inl ⟨by kernel_rfl, ?_⟩) (by assumption) ?_
  rotate_left
  · (intro w hSw; (try dsimp only at hSw); go_simp; first | done | with_reducible rfl)
  (try simp only [Act.put, List.setIfInBounds_toArray, List.set_cons_zero, List.set_cons_succ, List.getElem_toArray, List.getElem_cons_zero, List.getElem_cons_succ])
  refine wpAnyH_take (i := 1) (v := ?_) rfl (by kernel_rfl) (by kernel_rfl) (by kernel_rfl) (fun _ _ _ h => h) (Or.inl ⟨by kernel_rfl, ?_⟩) (by assumption) ?_
  rotate_left
  · (intro w hSw; (try dsimp only at hSw); go_simp; first | done | with_reducible rfl)
  (try simp only [Act.put, List.setIfInBounds_toArray, List.set_cons_zero, List.set_cons_succ, List.getElem_toArray, List.getElem_cons_zero, List.getElem_cons_succ])
  refine wpAnyH_take (i := 2) (v := ?_) rfl (by kernel_rfl) (by kernel_rfl) (by kernel_rfl) (fun _ _ _ h => h) (Or.inl ⟨by kernel_rfl, ?_⟩) (by assumption) ?_
  rotate_left
  · (intro w hSw; (try dsimp only at hSw); go_simp; first | done | with_reducible rfl)
  (try simp only [Act.put, List.setIfInBounds_toArray, List.set_cons_zero, List.set_cons_succ, List.getElem_toArray, List.getElem_cons_zero, List.getElem_cons_succ])
  refine wpAnyH_take (i := 3) (v := ?_) rfl (by kernel_rfl) (by kernel_rfl) (by kernel_rfl) (fun _ _ _ h => h) (Or.inl ⟨by kernel_rfl, ?_⟩) (by assumption) ?_
  rotate_left
  · (intro w hSw; (try dsimp only at hSw); go_simp; first | done | with_reducible rfl)
  (try simp only [Act.put, List.setIfInBounds_toArray, List.set_cons_zero, List.set_cons_succ, List.getElem_toArray, List.getElem_cons_zero, List.getElem_cons_succ])
  refine wpAnyH_take (i := 4) (v := ?_) rfl (by kernel_rfl) (by kernel_rfl) (by kernel_rfl) (fun _ _ _ h => h) (Or.inl ⟨by kernel_rfl, ?_⟩) (by assumption) ?_
  rotate_left
  · (intro w hSw; (try dsimp only at hSw); go_simp; first | done | with_reducible rfl)
  (try simp only [Act.put, List.setIfInBounds_toArray, List.set_cons_zero, List.set_cons_succ, List.getElem_toArray, List.getElem_cons_zero, List.getElem_cons_succ])
  refine wpAnyH_take (i := 7) (v := ?_) rfl (by kernel_rfl) (by kernel_rfl) (by kernel_rfl) (fun _ _ _ h => h) (Or.inl ⟨by kernel_rfl, ?_⟩) (by assumption) ?_
  rotate_left
  · (intro w hSw; (try dsimp only at hSw); go_simp; first | done | with_reducible rfl)
  (try simp only [Act.put, List.setIfInBounds_toArray, List.set_cons_zero, List.set_cons_succ, List.getElem_toArray, List.getElem_cons_zero, List.getElem_cons_succ])
  refine wpAnyH_take (i := 8) (v := ?_) rfl (by kernel_rfl) (by kernel_rfl) (by kernel_rfl) (fun _ _ _ h => h) (Or.inl ⟨by kernel_rfl, ?_⟩) (by assumption) ?_
  rotate_left
  · (intro w hSw; (try dsimp only at hSw); go_simp; first | done | with_reducible rfl)
  (try simp only [Act.put, List.setIfInBounds_toArray, List.set_cons_zero, List.set_cons_succ, List.getElem_toArray, List.getElem_cons_zero, List.getElem_cons_succ])
  refine wpAnyH_take (i := 9) (v := ?_) rfl (by kernel_rfl) (by kernel_rfl) (by kernel_rfl) (fun _ _ _ h => h) (Or.inl ⟨by kernel_rfl, ?_⟩) (by assumption) ?_
  rotate_left
  · (intro w hSw; (try dsimp only at hSw); go_simp; first | done | with_reducible rfl)
  (try simp only [Act.put, List.setIfInBounds_toArray, List.set_cons_zero, List.set_cons_succ, List.getElem_toArray, List.getElem_cons_zero, List.getElem_cons_succ])
  refine wpAnyH_take (i := 10) (v := ?_) rfl (by kernel_rfl) (by kernel_rfl) (by kernel_rfl) (fun _ _ _ h => h) (Or.inl ⟨by kernel_rfl, ?_⟩) (by assumption) ?_
  rotate_left
  · (intro w hSw; (try dsimp only at hSw); go_simp; first | done | with_reducible rfl)
  (try simp only [Act.put, List.setIfInBounds_toArray, List.set_cons_zero, List.set_cons_succ, List.getElem_toArray, List.getElem_cons_zero, List.getElem_cons_succ])
  refine wpAnyH_ready (rs := [5]) (by kernel_rfl) (by simp) ?_
  refine AllReadyH.cons rfl (fun KK hKK => ?_) AllReadyH.nil
  go_simp
  refine (reftagged_any At nt ct tag Aa na ca about A1 n cb BO w1.drew HTL.out ht30 (rd_now HTR.out HBD.out) HAL.out ha30 (rd_now HAR.out HBD.out) HL1.out (by omega) (rd_now HR1.out HBD.out)).mono ?_
  rintro e w5 ⟨A5, c5, rfl, hT5, hb5⟩
  have htl16 := tagL_len tag about BO
  have HB5 := Lib.hid (HBD.out.trans (hb5.mono HBD.out.size))
  have s5 : (convert 22 9 (.slice A5 16 c5)).run Tryz.prog w5 = .ok (.string (str (tagL tag about BO))) w5 := arg_str htl16 hT5.1 (Below.refl _ _)
  have z5 : (convert 22 9 (.slice A2 16 c2)).run Tryz.prog w5 = .ok (.string (str BE)) w5 := arg_str HL2.out HR2.out HB5.out
  clear hT5 hb5 htl16
  go_wp2_with fail
  refine hKK.out _ _ ?_ (fun hHeld => ?_)
  · (exact z5)
  clear hKK KK
  (try simp only [Act.put, List.setIfInBounds_toArray, List.set_cons_zero, List.set_cons_succ, List.getElem_toArray, List.getElem_cons_zero, List.getElem_cons_succ])
  refine wpAnyH_ready (rs := [6]) (by kernel_rfl) (by simp) ?_
  refine AllReadyH.cons rfl (fun KK hKK => ?_) AllReadyH.nil
  go_simp
  refine hKK.out _ _ ?_ (fun hHeld => ?_)
  · (exact z5)
  clear hKK KK
  (try simp only [Act.put, List.setIfInBounds_toArray, List.set_cons_zero, List.set_cons_succ, List.getElem_toArray, List.getElem_cons_zero, List.getElem_cons_succ])
  refine wpAnyH_ready (rs := [11]) (by kernel_rfl) (by simp) ?_
  refine AllReadyH.cons rfl (fun KK hKK => ?_) AllReadyH.nil
  go_simp
  refine hKK.out _ _ ?_ (fun hHeld => ?_)
  · (exact z5)
  clear hKK KK
  (try simp only [Act.put, List.setIfInBounds_toArray, List.set_cons_zero, List.set_cons_succ, List.getElem_toArray, List.getElem_cons_zero, List.getElem_cons_succ])
  refine wpAnyH_done (by kernel_rfl) ?_ _
  go_wp2_with fail
  go_ret3
  exact ⟨rfl, HB5.out⟩
set_option maxRecDepth 100000 in
set_option maxHeartbeats 4000000 in
theorem refopen_big (Ae : Option Addr) (ne ce : Nat) (enc : List UInt8) (At : Option Addr) (nt ct : Nat) (tag : List UInt8) (Aa : Option Addr) (na ca : Nat) (about : List UInt8) (Ab : Option Addr) (L cb : Nat) (l : List UInt8) (w : World)
    (hel : enc.length = ne) (hec : ne ≤ ce) (her : Rd w w.heap.size Ae enc) (hk : KeyOk enc) (htl : tag.length = nt) (ht30 : nt ≤ 1073741824) (htr : Rd w w.heap.size At tag) (hal : about.length = na) (ha30 : na ≤ 1073741824) (har : Rd w w.heap.size Aa about) (hbl : l.length = L) (hL24 : 24 ≤ L) (hL6 : L ≤ 65560) (hbc : L ≤ cb) (hbr : Rd w w.heap.size Ab l) (heq : tagL tag about (bodyL l) = endL l) (hbig : 9223372036854775807 < num ((bodyL l).take 8)) :
    Calls Tryz.prog 16 #[.slice Ae ne ce, .slice At nt ct, .slice Aa na ca, .slice Ab L cb] w fun e w' => e = .returned (.tuple #[.slice none 0 0, .int .i64 0, .int .i64 1]) ∧ Below w.heap.size w w' := by
  obtain ⟨n4, hn4, hl4⟩ := key_lens hk
  have HK := Lib.hid hk
  have HEL := Lib.hid hel
  have HEC := Lib.hid hec
  have HER := Lib.hid her
  have HN4 := Lib.hid hn4
  have HL4 := Lib.hid (show ne = 4 * n4 by omega)
  have HTL := Lib.hid htl
  have HTR := Lib.hid htr
  have HAL := Lib.hid hal
  have HAR := Lib.hid har
  have d1 : decide ((L : Int) < 24) = false := decide_eq_false (by omega)
  have d2 : decide ((65560 : Int) < (L : Int)) = false := decide_eq_false (by omega)
  obtain ⟨n, hn⟩ : ∃ n, L - 16 = n := ⟨_, rfl⟩
  have hLn : L = n + 16 := by omega
  have hbody : bodyL l = l.take n := by unfold bodyL; rw [hbl, hn]
  have hend : endL l = l.drop n := by unfold endL; rw [hbl, hn]
  obtain ⟨A1, hs1, hr1⟩ := arg_to (k := n) hbr hbl (by omega) hbc
  obtain ⟨A2, hs2, hr2⟩ := arg_from (k := n) hbr hbl (by omega) hbc
  rw [show L - n = 16 by omega] at hs2
  obtain ⟨A4, hs4, hr4⟩ := arg_mid (lo := 8) (hi := n) hbr hbl (by omega) (by omega) hbc
  have hs4' : ∀ w' : World, (Instr.slice 22 (.slice Ab L cb) (some (.int .i64 8)) (some (.int .i64 (n : Int))) none).run Tryz.prog w' = .ok (.slice A4 (n - 8) (cb - 8)) w' := hs4
  have hl1 : (l.take n).length = n := by rw [List.length_take]; omega
  have hl2 : (l.drop n).length = 16 := by rw [List.length_drop]; omega
  have hlen4 : ((l.take n).drop 8).length = n - 8 := by rw [List.length_drop, hl1]
  have hb8 : (l.take n).take 8 = l.take 8 := by rw [List.take_take, Nat.min_eq_left (by omega)]
  obtain ⟨n8, hn8⟩ : ∃ n8, n - 8 = n8 := ⟨_, rfl⟩
  obtain ⟨c8, hc8⟩ : ∃ c8, cb - 8 = c8 := ⟨_, rfl⟩
  obtain ⟨c2, hc2⟩ : ∃ c2, cb - n = c2 := ⟨_, rfl⟩
  rw [hn8, hc8] at hs4'
  rw [hn8] at hlen4
  rw [hc2] at hs2
  have HE8 := Lib.hid (show (bodyL l).take 8 = l.take 8 by rw [hbody]; exact hb8)
  have HED := Lib.hid (show (bodyL l).drop 8 = (l.take n).drop 8 by rw [hbody])
  obtain ⟨BD, hBD⟩ : ∃ BD, (l.take n).drop 8 = BD := ⟨_, rfl⟩
  obtain ⟨BO, hBO⟩ : ∃ BO, l.take n = BO := ⟨_, rfl⟩
  obtain ⟨BE, hBE⟩ : ∃ BE, l.drop n = BE := ⟨_, rfl⟩
  rw [hBD] at hr4 hlen4 HED
  rw [hBO] at hr1 hl1 hbody
  rw [hBE] at hr2 hl2 hend
  obtain ⟨adb, hAb, habb, habc⟩ := rd_some2 hbr (by omega)
  subst hAb
  have hl8 : (l.take 8).length = 8 := by rw [List.length_take]; omega
  have HBC := Lib.hid (fun (i : Nat) (hi : i < 8) => (show w.cell? (adb.add i) = some (bv ((l.take 8).getD i 0)) from by
    rw [habc i (by omega)]
    simp only [List.getD_eq_getElem?_getD]
    rw [List.getElem?_take, if_pos hi]))
  have hx0 := HBC.out 0 (by omega)
  have hsub : (L : Int) - 16 = (n : Int) := by omega
  have hsubw : IntKind.i64.wrap ((L : Int) - 16) = (n : Int) := by rw [hsub]; exact i64_wraps _ (by omega) (by omega)
  have HR1 := Lib.hid hr1
  have HR2 := Lib.hid hr2
  have HR4 := Lib.hid hr4
  have HL1 := Lib.hid hl1
  have HL2 := Lib.hid hl2
  have HLN4 := Lib.hid hlen4
  have HL8 := Lib.hid hl8
  have HAB := Lib.hid habb
  have n24 : 8 ≤ n ∧ n ≤ 65544 := by omega
  have HN8 := Lib.hid (show n8 ≤ 65536 by omega)
  have htg : tagL tag about BO = BE := by rw [hbody, hend] at heq; exact heq
  have HTG := Lib.hid htg
  clear heq htg
  rw [HE8.out, num_first hl8] at hbig
  have HBG := Lib.hid hbig
  clear hbig
  have hL0 : (0 : Int) < (L : Int) := by omega
  have hL8 : (8 : Int) ≤ (L : Int) := by omega
  generalize l.take 8 = B8 at *
  clear hel hec her hk hn4 hl4 htl htr hal har hbl hL24 hL6 hbc hbr hn hbody hend hs4 hr1 hr2 hr4 hl1 hl2 hl8 hlen4 hn8 hc8 hc2 hBD hBO hBE hLn hb8 habc habb hx0
  go_enter Tryz.func16, Tryz.ntmps16
  go_wp2_with fail
  refine (refnew_any Ae ne ce n4 enc HN4.out HL4.out HEL.out HEC.out w HER.out).mono ?_
  rintro e w1 ⟨gk, rfl, hk1, hb1⟩
  have HBD := Lib.hid (show Below w.heap.size w w1.drew from hb1.drew)
  have z1 : (convert 22 9 (.slice A2 16 c2)).run Tryz.prog w1 = .ok (.string (str BE)) w1 := arg_str HL2.out HR2.out hb1
  have z1d : (convert 22 9 (.slice A2 16 c2)).run Tryz.prog w1.drew = .ok (.string (str BE)) w1.drew := arg_str HL2.out HR2.out HBD.out
  clear hk1 hb1
  go_wp2_with fail
  refine wp_region_held_drew (S := fun w' => (convert 22 9 (.slice A2 16 c2)).run Tryz.prog w' = .ok (.string (str BE)) w') (by kernel_rfl) (z1d) (fun hHeld => ?_)
  refine wpAnyH_take (i := 0) (v := ?_) rfl (by kernel_rfl) (by kernel_rfl) (by kernel_rfl) (fun _ _ _ h => h) (Or.inl ⟨by kernel_rfl, ?_⟩) (by assumption) ?_
  rotate_left
  · (intro w hSw; (try dsimp only at hSw); go_simp; first | done | with_reducible rfl)
  (try simp only [Act.put, List.setIfInBounds_toArray, List.set_cons_zero, List.set_cons_succ, List.getElem_toArray, List.getElem_cons_zero, List.getElem_cons_succ])
  refine wpAnyH_take (i := 1) (v := ?_) rfl (by kernel_rfl) (by kernel_rfl) (by kernel_rfl) (fun _ _ _ h => h) (Or.inl ⟨by kernel_rfl, ?_⟩) (by assumption) ?_
  rotate_left
  · (intro w hSw; (try dsimp only at hSw); go_simp; first | done | with_reducible rfl)
  (try simp only [Act.put, List.setIfInBounds_toArray, List.set_cons_zero, List.set_cons_succ, List.getElem_toArray, List.getElem_cons_zero, List.getElem_cons_succ])
  refine wpAnyH_take (i := 2) (v := ?_) rfl (by kernel_rfl) (by kernel_rfl) (by kernel_rfl) (fun _ _ _ h => h) (Or.inl ⟨by kernel_rfl, ?_⟩) (by assumption) ?_
  rotate_left
  · (intro w hSw; (try dsimp only at hSw); go_simp; first | done | with_reducible rfl)
  (try simp only [Act.put, List.setIfInBounds_toArray, List.set_cons_zero, List.set_cons_succ, List.getElem_toArray, List.getElem_cons_zero, List.getElem_cons_succ])
  refine wpAnyH_take (i := 3) (v := ?_) rfl (by kernel_rfl) (by kernel_rfl) (by kernel_rfl) (fun _ _ _ h => h) (Or.inl ⟨by kernel_rfl, ?_⟩) (by assumption) ?_
  rotate_left
  · (intro w hSw; (try dsimp only at hSw); go_simp; first | done | with_reducible rfl)
  (try simp only [Act.put, List.setIfInBounds_toArray, List.set_cons_zero, List.set_cons_succ, List.getElem_toArray, List.getElem_cons_zero, List.getElem_cons_succ])
  refine wpAnyH_take (i := 4) (v := ?_) rfl (by kernel_rfl) (by kernel_rfl) (by kernel_rfl) (fun _ _ _ h => h) (Or.inl ⟨by kernel_rfl, ?_⟩) (by assumption) ?_
  rotate_left
  · (intro w hSw; (try dsimp only at hSw); go_simp; first | done | with_reducible rfl)
  (try simp only [Act.put, List.setIfInBounds_toArray, List.set_cons_zero, List.set_cons_succ, List.getElem_toArray, List.getElem_cons_zero, List.getElem_cons_succ])
  refine wpAnyH_take (i := 7) (v := ?_) rfl (by kernel_rfl) (by kernel_rfl) (by kernel_rfl) (fun _ _ _ h => h) (Or.inl ⟨by kernel_rfl, ?_⟩) (by assumption) ?_
  rotate_left
  · (intro w hSw; (try dsimp only at hSw); go_simp; first | done | with_reducible rfl)
  (try simp only [Act.put, List.setIfInBounds_toArray, List.set_cons_zero, List.set_cons_succ, List.getElem_toArray, List.getElem_cons_zero, List.getElem_cons_succ])
  refine wpAnyH_take (i := 8) (v := ?_) rfl (by kernel_rfl) (by kernel_rfl) (by kernel_rfl) (fun _ _ _ h => h) (Or.inl ⟨by kernel_rfl, ?_⟩) (by assumption) ?_
  rotate_left
  · (intro w hSw; (try dsimp only at hSw); go_simp; first | done | with_reducible rfl)
  (try simp only [Act.put, List.setIfInBounds_toArray, List.set_cons_zero, List.set_cons_succ, List.getElem_toArray, List.getElem_cons_zero, List.getElem_cons_succ])
  refine wpAnyH_take (i := 9) (v := ?_) rfl (by kernel_rfl) (by kernel_rfl) (by kernel_rfl) (fun _ _ _ h => h) (Or.inl ⟨by kernel_rfl, ?_⟩) (by assumption) ?_
  rotate_left
  · (intro w hSw; (try dsimp only at hSw); go_simp; first | done | with_reducible rfl)
  (try simp only [Act.put, List.setIfInBounds_toArray, List.set_cons_zero, List.set_cons_succ, List.getElem_toArray, List.getElem_cons_zero, List.getElem_cons_succ])
  refine wpAnyH_take (i := 10) (v := ?_) rfl (by kernel_rfl) (by kernel_rfl) (by kernel_rfl) (fun _ _ _ h => h) (Or.inl ⟨by kernel_rfl, ?_⟩) (by assumption) ?_
  rotate_left
  · (intro w hSw; (try dsimp only at hSw); go_simp; first | done | with_reducible rfl)
  (try simp only [Act.put, List.setIfInBounds_toArray, List.set_cons_zero, List.set_cons_succ, List.getElem_toArray, List.getElem_cons_zero, List.getElem_cons_succ])
  refine wpAnyH_ready (rs := [5]) (by kernel_rfl) (by simp) ?_
  refine AllReadyH.cons rfl (fun KK hKK => ?_) AllReadyH.nil
  go_simp
  refine (reftagged_any At nt ct tag Aa na ca about A1 n cb BO w1.drew HTL.out ht30 (rd_now HTR.out HBD.out) HAL.out ha30 (rd_now HAR.out HBD.out) HL1.out (by omega) (rd_now HR1.out HBD.out)).mono ?_
  rintro e w5 ⟨A5, c5, rfl, hT5, hb5⟩
  have htl16 := tagL_len tag about BO
  have HB5 := Lib.hid (HBD.out.trans (hb5.mono HBD.out.size))
  have s5 : (convert 22 9 (.slice A5 16 c5)).run Tryz.prog w5 = .ok (.string (str (tagL tag about BO))) w5 := arg_str htl16 hT5.1 (Below.refl _ _)
  have z5 : (convert 22 9 (.slice A2 16 c2)).run Tryz.prog w5 = .ok (.string (str BE)) w5 := arg_str HL2.out HR2.out HB5.out
  clear hT5 hb5 htl16
  rw [HTG.out] at s5
  go_wp2_with fail
  refine hKK.out _ _ ?_ (fun hHeld => ?_)
  · (exact z5)
  clear hKK KK
  (try simp only [Act.put, List.setIfInBounds_toArray, List.set_cons_zero, List.set_cons_succ, List.getElem_toArray, List.getElem_cons_zero, List.getElem_cons_succ])
  refine wpAnyH_ready (rs := [6]) (by kernel_rfl) (by simp) ?_
  refine AllReadyH.cons rfl (fun KK hKK => ?_) AllReadyH.nil
  go_simp
  refine hKK.out _ _ ?_ (fun hHeld => ?_)
  · (exact z5)
  clear hKK KK
  (try simp only [Act.put, List.setIfInBounds_toArray, List.set_cons_zero, List.set_cons_succ, List.getElem_toArray, List.getElem_cons_zero, List.getElem_cons_succ])
  refine wpAnyH_ready (rs := [11]) (by kernel_rfl) (by simp) ?_
  refine AllReadyH.cons rfl (fun KK hKK => ?_) AllReadyH.nil
  go_simp
  refine hKK.out _ _ ?_ (fun hHeld => ?_)
  · (exact z5)
  clear hKK KK
  (try simp only [Act.put, List.setIfInBounds_toArray, List.set_cons_zero, List.set_cons_succ, List.getElem_toArray, List.getElem_cons_zero, List.getElem_cons_succ])
  refine wpAnyH_done (by kernel_rfl) ?_ _
  have x0 := (HB5.out.cell (p := adb.add 0) (by rw [add_block]; exact HAB.out)).trans (HBC.out 0 (by omega))
  have hbg := HBG.out
  have hb256 := (B8.getD 0 0).toNat_lt
  rw [Aes.bv_int, addr_zero] at x0
  generalize (B8.getD 0 0).toNat = y at *
  have d3 : decide ((127 : Int) < (y : Int)) = true := decide_eq_true (by omega)
  clear s5 z5 z1 z1d hbg
  go_wp2_with fail
  go_ret3
  exact ⟨rfl, HB5.out⟩
set_option maxRecDepth 100000 in
set_option maxHeartbeats 4000000 in
theorem refopen_yes (Ae : Option Addr) (ne ce : Nat) (enc : List UInt8) (At : Option Addr) (nt ct : Nat) (tag : List UInt8) (Aa : Option Addr) (na ca : Nat) (about : List UInt8) (Ab : Option Addr) (L cb : Nat) (l : List UInt8) (w : World)
    (hel : enc.length = ne) (hec : ne ≤ ce) (her : Rd w w.heap.size Ae enc) (hk : KeyOk enc) (htl : tag.length = nt) (ht30 : nt ≤ 1073741824) (htr : Rd w w.heap.size At tag) (hal : about.length = na) (ha30 : na ≤ 1073741824) (har : Rd w w.heap.size Aa about) (hbl : l.length = L) (hL24 : 24 ≤ L) (hL6 : L ≤ 65560) (hbc : L ≤ cb) (hbr : Rd w w.heap.size Ab l) (hop : Opens tag about l) :
    Calls Tryz.prog 16 #[.slice Ae ne ce, .slice At nt ct, .slice Aa na ca, .slice Ab L cb] w fun e w' => ∃ v, e = .returned (.tuple #[v, .int .i64 ((num ((bodyL l).take 8) : Nat) : Int), .int .i64 0]) ∧ OwnB w' 5 w.heap.size v (xorS enc (num ((bodyL l).take 8)) 0 ((bodyL l).drop 8)) ∧ Below w.heap.size w w' := by
  obtain ⟨n4, hn4, hl4⟩ := key_lens hk
  have HK := Lib.hid hk
  have HEL := Lib.hid hel
  have HEC := Lib.hid hec
  have HER := Lib.hid her
  have HN4 := Lib.hid hn4
  have HL4 := Lib.hid (show ne = 4 * n4 by omega)
  have HTL := Lib.hid htl
  have HTR := Lib.hid htr
  have HAL := Lib.hid hal
  have HAR := Lib.hid har
  have d1 : decide ((L : Int) < 24) = false := decide_eq_false (by omega)
  have d2 : decide ((65560 : Int) < (L : Int)) = false := decide_eq_false (by omega)
  obtain ⟨n, hn⟩ : ∃ n, L - 16 = n := ⟨_, rfl⟩
  have hLn : L = n + 16 := by omega
  have hbody : bodyL l = l.take n := by unfold bodyL; rw [hbl, hn]
  have hend : endL l = l.drop n := by unfold endL; rw [hbl, hn]
  obtain ⟨A1, hs1, hr1⟩ := arg_to (k := n) hbr hbl (by omega) hbc
  obtain ⟨A2, hs2, hr2⟩ := arg_from (k := n) hbr hbl (by omega) hbc
  rw [show L - n = 16 by omega] at hs2
  obtain ⟨A4, hs4, hr4⟩ := arg_mid (lo := 8) (hi := n) hbr hbl (by omega) (by omega) hbc
  have hs4' : ∀ w' : World, (Instr.slice 22 (.slice Ab L cb) (some (.int .i64 8)) (some (.int .i64 (n : Int))) none).run Tryz.prog w' = .ok (.slice A4 (n - 8) (cb - 8)) w' := hs4
  have hl1 : (l.take n).length = n := by rw [List.length_take]; omega
  have hl2 : (l.drop n).length = 16 := by rw [List.length_drop]; omega
  have hlen4 : ((l.take n).drop 8).length = n - 8 := by rw [List.length_drop, hl1]
  have hb8 : (l.take n).take 8 = l.take 8 := by rw [List.take_take, Nat.min_eq_left (by omega)]
  obtain ⟨n8, hn8⟩ : ∃ n8, n - 8 = n8 := ⟨_, rfl⟩
  obtain ⟨c8, hc8⟩ : ∃ c8, cb - 8 = c8 := ⟨_, rfl⟩
  obtain ⟨c2, hc2⟩ : ∃ c2, cb - n = c2 := ⟨_, rfl⟩
  rw [hn8, hc8] at hs4'
  rw [hn8] at hlen4
  rw [hc2] at hs2
  have HE8 := Lib.hid (show (bodyL l).take 8 = l.take 8 by rw [hbody]; exact hb8)
  have HED := Lib.hid (show (bodyL l).drop 8 = (l.take n).drop 8 by rw [hbody])
  obtain ⟨BD, hBD⟩ : ∃ BD, (l.take n).drop 8 = BD := ⟨_, rfl⟩
  obtain ⟨BO, hBO⟩ : ∃ BO, l.take n = BO := ⟨_, rfl⟩
  obtain ⟨BE, hBE⟩ : ∃ BE, l.drop n = BE := ⟨_, rfl⟩
  rw [hBD] at hr4 hlen4 HED
  rw [hBO] at hr1 hl1 hbody
  rw [hBE] at hr2 hl2 hend
  obtain ⟨adb, hAb, habb, habc⟩ := rd_some2 hbr (by omega)
  subst hAb
  have hl8 : (l.take 8).length = 8 := by rw [List.length_take]; omega
  have HBC := Lib.hid (fun (i : Nat) (hi : i < 8) => (show w.cell? (adb.add i) = some (bv ((l.take 8).getD i 0)) from by
    rw [habc i (by omega)]
    simp only [List.getD_eq_getElem?_getD]
    rw [List.getElem?_take, if_pos hi]))
  have hx0 := HBC.out 0 (by omega)
  have hsub : (L : Int) - 16 = (n : Int) := by omega
  have hsubw : IntKind.i64.wrap ((L : Int) - 16) = (n : Int) := by rw [hsub]; exact i64_wraps _ (by omega) (by omega)
  have HR1 := Lib.hid hr1
  have HR2 := Lib.hid hr2
  have HR4 := Lib.hid hr4
  have HL1 := Lib.hid hl1
  have HL2 := Lib.hid hl2
  have HLN4 := Lib.hid hlen4
  have HL8 := Lib.hid hl8
  have HAB := Lib.hid habb
  have n24 : 8 ≤ n ∧ n ≤ 65544 := by omega
  have HN8 := Lib.hid (show n8 ≤ 65536 by omega)
  obtain ⟨heq, hbig⟩ := hop
  have htg : tagL tag about BO = BE := by rw [hbody, hend] at heq; exact heq
  have HTG := Lib.hid htg
  clear heq htg
  rw [HE8.out] at hbig
  rw [HE8.out, HED.out]
  have HMX := Lib.hid hbig
  have HBG := Lib.hid (show ¬ 127 < ((l.take 8).getD 0 0).toNat from fun h => by have := (num_first hl8).2 h; omega)
  clear hbig
  have hL0 : (0 : Int) < (L : Int) := by omega
  have hL8 : (8 : Int) ≤ (L : Int) := by omega
  generalize l.take 8 = B8 at *
  clear hel hec her hk hn4 hl4 htl htr hal har hbl hL24 hL6 hbc hbr hn hbody hend hs4 hr1 hr2 hr4 hl1 hl2 hl8 hlen4 hn8 hc8 hc2 hBD hBO hBE hLn hb8 habc habb hx0
  go_enter Tryz.func16, Tryz.ntmps16
  go_wp2_with fail
  refine (refnew_any Ae ne ce n4 enc HN4.out HL4.out HEL.out HEC.out w HER.out).mono ?_
  rintro e w1 ⟨gk, rfl, hk1, hb1⟩
  have HBD := Lib.hid (show Below w.heap.size w w1.drew from hb1.drew)
  have z1 : (convert 22 9 (.slice A2 16 c2)).run Tryz.prog w1 = .ok (.string (str BE)) w1 := arg_str HL2.out HR2.out hb1
  have z1d : (convert 22 9 (.slice A2 16 c2)).run Tryz.prog w1.drew = .ok (.string (str BE)) w1.drew := arg_str HL2.out HR2.out HBD.out
  clear hk1 hb1
  go_wp2_with fail
  refine wp_region_held_drew (S := fun w' => (convert 22 9 (.slice A2 16 c2)).run Tryz.prog w' = .ok (.string (str BE)) w') (by kernel_rfl) (z1d) (fun hHeld => ?_)
  refine wpAnyH_take (i := 0) (v := ?_) rfl (by kernel_rfl) (by kernel_rfl) (by kernel_rfl) (fun _ _ _ h => h) (Or.inl ⟨by kernel_rfl, ?_⟩) (by assumption) ?_
  rotate_left
  · (intro w hSw; (try dsimp only at hSw); go_simp; first | done | with_reducible rfl)
  (try simp only [Act.put, List.setIfInBounds_toArray, List.set_cons_zero, List.set_cons_succ, List.getElem_toArray, List.getElem_cons_zero, List.getElem_cons_succ])
  refine wpAnyH_take (i := 1) (v := ?_) rfl (by kernel_rfl) (by kernel_rfl) (by kernel_rfl) (fun _ _ _ h => h) (Or.inl ⟨by kernel_rfl, ?_⟩) (by assumption) ?_
  rotate_left
  · (intro w hSw; (try dsimp only at hSw); go_simp; first | done | with_reducible rfl)
  (try simp only [Act.put, List.setIfInBounds_toArray, List.set_cons_zero, List.set_cons_succ, List.getElem_toArray, List.getElem_cons_zero, List.getElem_cons_succ])
  refine wpAnyH_take (i := 2) (v := ?_) rfl (by kernel_rfl) (by kernel_rfl) (by kernel_rfl) (fun _ _ _ h => h) (Or.inl ⟨by kernel_rfl, ?_⟩) (by assumption) ?_
  rotate_left
  · (intro w hSw; (try dsimp only at hSw); go_simp; first | done | with_reducible rfl)
  (try simp only [Act.put, List.setIfInBounds_toArray, List.set_cons_zero, List.set_cons_succ, List.getElem_toArray, List.getElem_cons_zero, List.getElem_cons_succ])
  refine wpAnyH_take (i := 3) (v := ?_) rfl (by kernel_rfl) (by kernel_rfl) (by kernel_rfl) (fun _ _ _ h => h) (Or.inl ⟨by kernel_rfl, ?_⟩) (by assumption) ?_
  rotate_left
  · (intro w hSw; (try dsimp only at hSw); go_simp; first | done | with_reducible rfl)
  (try simp only [Act.put, List.setIfInBounds_toArray, List.set_cons_zero, List.set_cons_succ, List.getElem_toArray, List.getElem_cons_zero, List.getElem_cons_succ])
  refine wpAnyH_take (i := 4) (v := ?_) rfl (by kernel_rfl) (by kernel_rfl) (by kernel_rfl) (fun _ _ _ h => h) (Or.inl ⟨by kernel_rfl, ?_⟩) (by assumption) ?_
  rotate_left
  · (intro w hSw; (try dsimp only at hSw); go_simp; first | done | with_reducible rfl)
  (try simp only [Act.put, List.setIfInBounds_toArray, List.set_cons_zero, List.set_cons_succ, List.getElem_toArray, List.getElem_cons_zero, List.getElem_cons_succ])
  refine wpAnyH_take (i := 7) (v := ?_) rfl (by kernel_rfl) (by kernel_rfl) (by kernel_rfl) (fun _ _ _ h => h) (Or.inl ⟨by kernel_rfl, ?_⟩) (by assumption) ?_
  rotate_left
  · (intro w hSw; (try dsimp only at hSw); go_simp; first | done | with_reducible rfl)
  (try simp only [Act.put, List.setIfInBounds_toArray, List.set_cons_zero, List.set_cons_succ, List.getElem_toArray, List.getElem_cons_zero, List.getElem_cons_succ])
  refine wpAnyH_take (i := 8) (v := ?_) rfl (by kernel_rfl) (by kernel_rfl) (by kernel_rfl) (fun _ _ _ h => h) (Or.inl ⟨by kernel_rfl, ?_⟩) (by assumption) ?_
  rotate_left
  · (intro w hSw; (try dsimp only at hSw); go_simp; first | done | with_reducible rfl)
  (try simp only [Act.put, List.setIfInBounds_toArray, List.set_cons_zero, List.set_cons_succ, List.getElem_toArray, List.getElem_cons_zero, List.getElem_cons_succ])
  refine wpAnyH_take (i := 9) (v := ?_) rfl (by kernel_rfl) (by kernel_rfl) (by kernel_rfl) (fun _ _ _ h => h) (Or.inl ⟨by kernel_rfl, ?_⟩) (by assumption) ?_
  rotate_left
  · (intro w hSw; (try dsimp only at hSw); go_simp; first | done | with_reducible rfl)
  (try simp only [Act.put, List.setIfInBounds_toArray, List.set_cons_zero, List.set_cons_succ, List.getElem_toArray, List.getElem_cons_zero, List.getElem_cons_succ])
  refine wpAnyH_take (i := 10) (v := ?_) rfl (by kernel_rfl) (by kernel_rfl) (by kernel_rfl) (fun _ _ _ h => h) (Or.inl ⟨by kernel_rfl, ?_⟩) (by assumption) ?_
  rotate_left
  · (intro w hSw; (try dsimp only at hSw); go_simp; first | done | with_reducible rfl)
  (try simp only [Act.put, List.setIfInBounds_toArray, List.set_cons_zero, List.set_cons_succ, List.getElem_toArray, List.getElem_cons_zero, List.getElem_cons_succ])
  refine wpAnyH_ready (rs := [5]) (by kernel_rfl) (by simp) ?_
  refine AllReadyH.cons rfl (fun KK hKK => ?_) AllReadyH.nil
  go_simp
  refine (reftagged_any At nt ct tag Aa na ca about A1 n cb BO w1.drew HTL.out ht30 (rd_now HTR.out HBD.out) HAL.out ha30 (rd_now HAR.out HBD.out) HL1.out (by omega) (rd_now HR1.out HBD.out)).mono ?_
  rintro e w5 ⟨A5, c5, rfl, hT5, hb5⟩
  have htl16 := tagL_len tag about BO
  have HB5 := Lib.hid (HBD.out.trans (hb5.mono HBD.out.size))
  have s5 : (convert 22 9 (.slice A5 16 c5)).run Tryz.prog w5 = .ok (.string (str (tagL tag about BO))) w5 := arg_str htl16 hT5.1 (Below.refl _ _)
  have z5 : (convert 22 9 (.slice A2 16 c2)).run Tryz.prog w5 = .ok (.string (str BE)) w5 := arg_str HL2.out HR2.out HB5.out
  clear hT5 hb5 htl16
  rw [HTG.out] at s5
  go_wp2_with fail
  refine hKK.out _ _ ?_ (fun hHeld => ?_)
  · (exact z5)
  clear hKK KK
  (try simp only [Act.put, List.setIfInBounds_toArray, List.set_cons_zero, List.set_cons_succ, List.getElem_toArray, List.getElem_cons_zero, List.getElem_cons_succ])
  refine wpAnyH_ready (rs := [6]) (by kernel_rfl) (by simp) ?_
  refine AllReadyH.cons rfl (fun KK hKK => ?_) AllReadyH.nil
  go_simp
  refine hKK.out _ _ ?_ (fun hHeld => ?_)
  · (exact z5)
  clear hKK KK
  (try simp only [Act.put, List.setIfInBounds_toArray, List.set_cons_zero, List.set_cons_succ, List.getElem_toArray, List.getElem_cons_zero, List.getElem_cons_succ])
  refine wpAnyH_ready (rs := [11]) (by kernel_rfl) (by simp) ?_
  refine AllReadyH.cons rfl (fun KK hKK => ?_) AllReadyH.nil
  go_simp
  refine hKK.out _ _ ?_ (fun hHeld => ?_)
  · (exact z5)
  clear hKK KK
  (try simp only [Act.put, List.setIfInBounds_toArray, List.set_cons_zero, List.set_cons_succ, List.getElem_toArray, List.getElem_cons_zero, List.getElem_cons_succ])
  refine wpAnyH_done (by kernel_rfl) ?_ _
  have x0 := (HB5.out.cell (p := adb.add 0) (by rw [add_block]; exact HAB.out)).trans (HBC.out 0 (by omega))
  have hbg := HBG.out
  have hb256 := (B8.getD 0 0).toNat_lt
  rw [Aes.bv_int, addr_zero] at x0
  generalize (B8.getD 0 0).toNat = y0 at *
  have d3 : decide ((127 : Int) < (y0 : Int)) = false := decide_eq_false (by omega)
  have HHS := Lib.hid hs4'
  clear s5 z5 z1 z1d hbg hs1 hs2 hs4'
  go_wp2_with fail
  go_loop [14, 15] (fun av iv => ∃ (i a : Nat), i ≤ 8 ∧ iv = .int .i64 (i : Int) ∧ av = .int .i64 (a : Int) ∧ a = num (B8.take i)) (fun _ iv => 8 - (intOf iv).toNat)
  case atStart => exact ⟨0, 0, by omega, rfl, rfl, by simp [num]⟩
  case round =>
    obtain ⟨i, a, hi, rfl, rfl, ha⟩ := hrel
    have HA := Lib.hid ha
    clear ha x0 d3
    by_cases hlt : i < 8
    · have x3 := (HB5.out.cell (p := adb.add i) (by rw [add_block]; exact HAB.out)).trans (HBC.out i hlt)
      have hst := num_step (l := B8) (i := i) (by rw [HL8.out]; exact hlt)
      rw [← HA.out] at hst
      have hpm := num_part HL8.out HMX.out hlt
      rw [hst] at hpm
      have hc256 := (B8.getD i 0).toNat_lt
      rw [Aes.bv_int] at x3
      generalize (B8.getD i 0).toNat = y at *
      have HST := Lib.hid hst
      have hw1 : IntKind.i64.wrap (256 * (a : Int)) = 256 * (a : Int) := i64_wraps _ (by omega) (by omega)
      have hw2 : IntKind.i64.wrap (256 * (a : Int) + (y : Int)) = 256 * (a : Int) + (y : Int) := i64_wraps _ (by omega) (by omega)
      have ii : (i : Int) < 8 := by omega
      have iL : (i : Int) < (L : Int) := by omega
      clear hst
      go_wp2_with fail
      go_round
      case rel => exact ⟨i + 1, 256 * a + y, by omega, by go_num, by go_num, HST.out.symm⟩
      case measure => simp [intOf] <;> omega
    · obtain rfl : i = 8 := by omega
      have hnum : num B8 = a := by rw [HA.out, List.take_of_length_le (by rw [HL8.out]; exact Nat.le_refl _)]
      have HNUM := Lib.hid hnum
      have hs4' := HHS.out
      clear HA hnum
      go_wp2_with fail
      refine (refxor_any Ae ne ce enc A4 n8 c8 BD a 0 (by omega) w5 HEL.out HEC.out (rd_now HER.out HB5.out) HK.out HLN4.out HN8.out (rd_now HR4.out HB5.out)).mono ?_
      rintro e w7 ⟨v7, rfl, hO7, hb7⟩
      have HO7 := Lib.hid (show OwnB w7 5 w.heap.size v7 (xorS enc a 0 BD) from OwnV.mono hO7 (fun b e => by have := (OwnV.lt hO7 b e).1; have := HB5.out.size; omega))
      have HB7 := Lib.hid (HB5.out.trans (hb7.mono HB5.out.size))
      clear hO7 hb7 hs4'
      go_wp2_with fail
      go_ret3
      exact ⟨_, (by rw [HNUM.out]; rfl), (by rw [HNUM.out]; exact HO7.out), HB7.out⟩
end Go.Proofs.YtcbihjcnnfohmaaGreat.Box

/- Lemmas for the statements that hold the document's answer. -/
namespace Go.Proofs.YtcbihjcnnfohmaaGreat.Box
open Go Go.ChangeShapes Go.WideShapes Go.ChangeAt Go.RowKit Go.Proofs.YtcbihjcnnfohmaaGreat.Aes Go.Proofs.YtcbihjcnnfohmaaGreat.Str Go.Proofs.YtcbihjcnnfohmaaGreat.Mac Go.Proofs.YtcbihjcnnfohmaaGreat.Room
set_option linter.unusedVariables false
theorem nil_str (w : World) : (convert 22 9 (.slice none 0 0)).run Tryz.prog w = .ok (.string (str [])) w := (Rd.nil w 0 none).str u8 9 Tryz.underlying9 0
theorem rowin_exact {w : World} {base g m : Nat} {l : List UInt8} (h : OwnB w 5 base (.slice (some ⟨g, 0, none⟩) m m) l) : RowIn w ⟨some g, m, m⟩ base w.heap.size := by
  rcases h with ⟨e, _⟩ | ⟨g', off, cap, cur, hv, hb, hh, hn, hm, hs, _⟩
  · cases e
  · injection hv with h1 h2 h3
    injection h1 with h1
    injection h1 with h4 h5
    subst h4 h5 h3
    have hmx : m ≤ 9223372036854775807 := Nat.le_trans hm (by simp only [maxLen]; omega)
    refine ⟨⟨Nat.le_refl _, hmx, fun h => by cases h⟩, fun b e => ?_⟩
    injection e with e
    subst e
    exact ⟨hb, (Array.getElem?_eq_some_iff.1 hh).1, cur, hh, by show m ≤ cur.size; omega⟩
theorem rowin_nil (w : World) (lo hi : Nat) : RowIn w ⟨none, 0, 0⟩ lo hi := ⟨⟨Nat.le_refl _, (by show 0 ≤ 9223372036854775807; omega), fun _ => ⟨rfl, rfl⟩⟩, fun g hg => by cases hg⟩
/-- Owned of three rows that lie apart -/
theorem owned3_any (w : World) (B : Nat) (v1 v2 v3 : Value) (r1 r2 r3 : ORow) (l1 h1 l2 h2 l3 h3 : Nat) (e1 : v1 = r1.val) (e2 : v2 = r2.val) (e3 : v3 = r3.val) (q1 : RowIn w r1 l1 h1) (q2 : RowIn w r2 l2 h2) (q3 : RowIn w r3 l3 h3)
    (m1 : h1 ≤ w.heap.size) (m2 : h2 ≤ w.heap.size) (m3 : h3 ≤ w.heap.size) (d12 : h1 ≤ l2 ∨ h2 ≤ l1) (d13 : h1 ≤ l3 ∨ h3 ≤ l1) (d23 : h2 ≤ l3 ∨ h3 ≤ l2) (b1 : r1.a = none ∨ B ≤ l1) (b2 : B ≤ l2) (b3 : B ≤ l3) (hB : B ≤ w.heap.size) :
    Calls Tryz.prog 12 #[.slice (some ⟨w.heap.size, 0, none⟩) 3 3] (w.alloc (.cells #[v1, v2, v3] 22)) fun e w' => e = .returned (.bool true) ∧ Below B w w' := by
  subst e1 e2 e3
  have ho := owns_new (w := w) 22 [(r1, l1, h1), (r2, l2, h2), (r3, l3, h3)]
    (by intro x hx; simp only [List.mem_cons, List.not_mem_nil, or_false] at hx; rcases hx with rfl | rfl | rfl; exact ⟨q1, m1⟩; exact ⟨q2, m2⟩; exact ⟨q3, m3⟩)
    (by
      simp only [List.pairwise_cons, List.mem_cons, List.not_mem_nil, or_false, forall_eq_or_imp, forall_eq, List.Pairwise.nil, and_true, false_implies, implies_true]
      exact ⟨⟨d12, d13⟩, d23⟩)
  refine (owned_any _ 3 3 [r1, r2, r3] _ rfl (by omega) ho).mono ?_
  rintro e w' ⟨rfl, hI⟩
  refine ⟨rfl, ((Below.refl B w).alloc hB _).trans (hI.below_ ?_)⟩
  intro r hr g hg
  simp only [List.mem_cons, List.not_mem_nil, or_false] at hr
  rcases hr with rfl | rfl | rfl
  · rcases b1 with b1 | b1
    · rw [b1] at hg; cases hg
    · have := (q1.own g hg).1; omega
  · have := (q2.own g hg).1; omega
  · have := (q3.own g hg).1; omega
/-- of two -/
theorem owned2_any (w : World) (B : Nat) (v1 v2 : Value) (r1 r2 : ORow) (l1 h1 l2 h2 : Nat) (e1 : v1 = r1.val) (e2 : v2 = r2.val) (q1 : RowIn w r1 l1 h1) (q2 : RowIn w r2 l2 h2) (m1 : h1 ≤ w.heap.size) (m2 : h2 ≤ w.heap.size) (d12 : h1 ≤ l2 ∨ h2 ≤ l1) (b1 : r1.a = none ∨ B ≤ l1) (b2 : B ≤ l2) (hB : B ≤ w.heap.size) :
    Calls Tryz.prog 12 #[.slice (some ⟨w.heap.size, 0, none⟩) 2 2] (w.alloc (.cells #[v1, v2] 22)) fun e w' => e = .returned (.bool true) ∧ Below B w w' := by
  subst e1 e2
  have ho := owns_new (w := w) 22 [(r1, l1, h1), (r2, l2, h2)]
    (by intro x hx; simp only [List.mem_cons, List.not_mem_nil, or_false] at hx; rcases hx with rfl | rfl; exact ⟨q1, m1⟩; exact ⟨q2, m2⟩)
    (by
      simp only [List.pairwise_cons, List.mem_cons, List.not_mem_nil, or_false, forall_eq, List.Pairwise.nil, and_true, false_implies, implies_true]
      exact d12)
  refine (owned_any _ 2 2 [r1, r2] _ rfl (by omega) ho).mono ?_
  rintro e w' ⟨rfl, hI⟩
  refine ⟨rfl, ((Below.refl B w).alloc hB _).trans (hI.below_ ?_)⟩
  intro r hr g hg
  simp only [List.mem_cons, List.not_mem_nil, or_false] at hr
  rcases hr with rfl | rfl
  · rcases b1 with b1 | b1
    · rw [b1] at hg; cases hg
    · have := (q1.own g hg).1; omega
  · have := (q2.own g hg).1; omega
/-- of one -/
theorem owned1_any (w : World) (B : Nat) (v1 : Value) (r1 : ORow) (l1 h1 : Nat) (e1 : v1 = r1.val) (q1 : RowIn w r1 l1 h1) (m1 : h1 ≤ w.heap.size) (b1 : r1.a = none ∨ B ≤ l1) (hB : B ≤ w.heap.size) :
    Calls Tryz.prog 12 #[.slice (some ⟨w.heap.size, 0, none⟩) 1 1] (w.alloc (.cells #[v1] 22)) fun e w' => e = .returned (.bool true) ∧ Below B w w' := by
  subst e1
  have ho := owns_new (w := w) 22 [(r1, l1, h1)] (by intro x hx; simp only [List.mem_singleton] at hx; subst hx; exact ⟨q1, m1⟩) (by simp)
  refine (owned_any _ 1 1 [r1] _ rfl (by omega) ho).mono ?_
  rintro e w' ⟨rfl, hI⟩
  refine ⟨rfl, ((Below.refl B w).alloc hB _).trans (hI.below_ ?_)⟩
  intro r hr g hg
  simp only [List.mem_singleton] at hr
  subst hr
  rcases b1 with b1 | b1
  · rw [b1] at hg; cases hg
  · have := (q1.own g hg).1; omega
end Go.Proofs.YtcbihjcnnfohmaaGreat.Box
