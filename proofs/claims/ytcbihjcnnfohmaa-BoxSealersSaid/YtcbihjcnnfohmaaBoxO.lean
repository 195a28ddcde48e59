/- Opening: contracts. -/
import Derived.Test.YtcbihjcnnfohmaaBoxP
namespace Go.Proofs.Ytcbihjcnnfohmaa.Box
open Go Go.ChangeShapes Go.WideShapes Go.ChangeAt Go.RowKit Go.Proofs.Ytcbihjcnnfohmaa.Aes Go.Proofs.Ytcbihjcnnfohmaa.Str Go.Proofs.Ytcbihjcnnfohmaa.Mac
set_option linter.unusedVariables false
set_option linter.unusedSimpArgs false
set_option maxRecDepth 100000 in
set_option maxHeartbeats 1000000 in
theorem open_no1 (Ae : Option Addr) (ne ce : Nat) (enc : List UInt8) (At : Option Addr) (nt ct : Nat) (Aa : Option Addr) (na ca : Nat) (Ab : Option Addr) (L cb : Nat) (w : World) (hel : enc.length = ne) (hk : ¬ KeyOk enc) :
    Calls Try.prog 36 #[.slice Ae ne ce, .slice At nt ct, .slice Aa na ca, .slice Ab L cb] w fun e w' => e = .returned (.tuple #[.slice none 0 0, .int .i64 0, .int .i64 1]) ∧ w = w' := by
  have HEL := Lib.hid hel
  have HK := Lib.hid hk
  clear hel hk
  go_enter Try.func36, Try.ntmps36
  go_wp2_with fail
  refine (key_no Ae ne ce enc w HEL.out HK.out).mono ?_
  rintro e w1 ⟨rfl, rfl⟩
  go_wp2_with fail
  go_ret3
  exact ⟨rfl, rfl⟩
set_option maxRecDepth 100000 in
set_option maxHeartbeats 1000000 in
theorem open_short (Ae : Option Addr) (ne ce : Nat) (enc : List UInt8) (At : Option Addr) (nt ct : Nat) (Aa : Option Addr) (na ca : Nat) (Ab : Option Addr) (L cb : Nat) (w : World) (hel : enc.length = ne) (her : Rd w w.heap.size Ae enc) (hk : KeyOk enc) (hL : L < 24) :
    Calls Try.prog 36 #[.slice Ae ne ce, .slice At nt ct, .slice Aa na ca, .slice Ab L cb] w fun e w' => e = .returned (.tuple #[.slice none 0 0, .int .i64 0, .int .i64 3]) ∧ Below w.heap.size w w' := by
  have HEL := Lib.hid hel
  have HER := Lib.hid her
  have HK := Lib.hid hk
  have d1 : decide ((L : Int) < 24) = true := decide_eq_true (by omega)
  clear hel her hk hL
  go_enter Try.func36, Try.ntmps36
  go_wp2_with fail
  refine (key_yes Ae ne ce enc w w.heap.size (Nat.le_refl _) HEL.out HER.out HK.out).mono ?_
  rintro e w1 ⟨rfl, hb1⟩
  have hz1 := hb1.size
  have HB1 := Lib.hid hb1
  clear hb1
  go_wp2_with fail
  go_ret3
  exact ⟨rfl, HB1.out⟩
set_option maxRecDepth 100000 in
set_option maxHeartbeats 1000000 in
theorem open_long (Ae : Option Addr) (ne ce : Nat) (enc : List UInt8) (At : Option Addr) (nt ct : Nat) (Aa : Option Addr) (na ca : Nat) (Ab : Option Addr) (L cb : Nat) (w : World) (hel : enc.length = ne) (her : Rd w w.heap.size Ae enc) (hk : KeyOk enc) (hL : 65560 < L) :
    Calls Try.prog 36 #[.slice Ae ne ce, .slice At nt ct, .slice Aa na ca, .slice Ab L cb] w fun e w' => e = .returned (.tuple #[.slice none 0 0, .int .i64 0, .int .i64 2]) ∧ Below w.heap.size w w' := by
  have HEL := Lib.hid hel
  have HER := Lib.hid her
  have HK := Lib.hid hk
  have d1 : decide ((L : Int) < 24) = false := decide_eq_false (by omega)
  have d2 : decide ((65560 : Int) < (L : Int)) = true := decide_eq_true (by omega)
  clear hel her hk hL
  go_enter Try.func36, Try.ntmps36
  go_wp2_with fail
  refine (key_yes Ae ne ce enc w w.heap.size (Nat.le_refl _) HEL.out HER.out HK.out).mono ?_
  rintro e w1 ⟨rfl, hb1⟩
  have hz1 := hb1.size
  have HB1 := Lib.hid hb1
  clear hb1
  go_wp2_with fail
  go_ret3
  exact ⟨rfl, HB1.out⟩
set_option maxRecDepth 100000 in
set_option maxHeartbeats 4000000 in
theorem open_tag (Ae : Option Addr) (ne ce : Nat) (enc : List UInt8) (At : Option Addr) (nt ct : Nat) (tag : List UInt8) (Aa : Option Addr) (na ca : Nat) (about : List UInt8) (Ab : Option Addr) (L cb : Nat) (l : List UInt8) (w : World)
    (hel : enc.length = ne) (her : Rd w w.heap.size Ae enc) (hk : KeyOk enc) (htl : tag.length = nt) (ht30 : nt ≤ 1073741824) (htr : Rd w w.heap.size At tag)
    (hal : about.length = na) (ha30 : na ≤ 1073741824) (hac : na ≤ ca) (ham : ca ≤ 9223372036854775807) (har : Rd w w.heap.size Aa about) (hbl : l.length = L) (hL24 : 24 ≤ L) (hL6 : L ≤ 65560) (hbc : L ≤ cb) (hbm : cb ≤ 9223372036854775807) (hbr : Rd w w.heap.size Ab l) (hne : tagL tag about (bodyL l) ≠ endL l) :
    Calls Try.prog 36 #[.slice Ae ne ce, .slice At nt ct, .slice Aa na ca, .slice Ab L cb] w fun e w' => e = .returned (.tuple #[.slice none 0 0, .int .i64 0, .int .i64 7]) ∧ Below w.heap.size w w' := by
  have HEL := Lib.hid hel
  have HER := Lib.hid her
  have HK := Lib.hid hk
  have HTL := Lib.hid htl
  have HTR := Lib.hid htr
  have HAL := Lib.hid hal
  have HAR := Lib.hid har
  have HAM := Lib.hid ham
  have HBM := Lib.hid hbm
  have d1 : decide ((L : Int) < 24) = false := decide_eq_false (by omega)
  have d2 : decide ((65560 : Int) < (L : Int)) = false := decide_eq_false (by omega)
  obtain ⟨n, hn⟩ : ∃ n, L - 16 = n := ⟨_, rfl⟩
  have hLn : L = n + 16 := by omega
  have hbody : bodyL l = l.take n := by unfold bodyL; rw [hbl, hn]
  have hend : endL l = l.drop n := by unfold endL; rw [hbl, hn]
  obtain ⟨A1, hs1, hr1⟩ := arg_to (k := n) hbr hbl (by omega) hbc
  obtain ⟨A2, hs2, hr2⟩ := arg_from (k := n) hbr hbl (by omega) hbc
  rw [show L - n = 16 by omega] at hs2
  have hl1 : (l.take n).length = n := by rw [List.length_take]; omega
  have hl2 : (l.drop n).length = 16 := by rw [List.length_drop]; omega
  obtain ⟨A3, hs3, hr3⟩ := arg_to (c := cb) (k := 8) hr1 hl1 (by omega) (by omega)
  have hs3' : ∀ w' : World, (Instr.slice 22 (.slice A1 n cb) none (some (.int .i64 8)) none).run Try.prog w' = .ok (.slice A3 8 cb) w' := hs3
  obtain ⟨A4, hs4, hr4⟩ := arg_from (c := cb) (k := 8) hr1 hl1 (by omega) (by omega)
  have hs4' : ∀ w' : World, (Instr.slice 22 (.slice A1 n cb) (some (.int .i64 8)) none none).run Try.prog w' = .ok (.slice A4 (n - 8) (cb - 8)) w' := hs4
  obtain ⟨n8, hn8⟩ : ∃ n8, n - 8 = n8 := ⟨_, rfl⟩
  obtain ⟨c8, hc8⟩ : ∃ c8, cb - 8 = c8 := ⟨_, rfl⟩
  obtain ⟨c2, hc2⟩ : ∃ c2, cb - n = c2 := ⟨_, rfl⟩
  rw [hn8, hc8] at hs4'
  rw [hc2] at hs2
  have hlen3 : ((l.take n).take 8).length = 8 := by rw [List.length_take, hl1]; omega
  have hlen4 : ((l.take n).drop 8).length = n8 := by rw [List.length_drop, hl1]; exact hn8
  obtain ⟨B8, hB8⟩ : ∃ B8, (l.take n).take 8 = B8 := ⟨_, rfl⟩
  obtain ⟨BD, hBD⟩ : ∃ BD, (l.take n).drop 8 = BD := ⟨_, rfl⟩
  obtain ⟨BO, hBO⟩ : ∃ BO, l.take n = BO := ⟨_, rfl⟩
  obtain ⟨BE, hBE⟩ : ∃ BE, l.drop n = BE := ⟨_, rfl⟩
  rw [hB8] at hr3 hlen3
  rw [hBD] at hr4 hlen4
  rw [hBO] at hr1 hl1 hbody
  rw [hBE] at hr2 hl2 hend
  have hsub : (L : Int) - 16 = (n : Int) := by omega
  have hsubw : IntKind.i64.wrap ((L : Int) - 16) = (n : Int) := by rw [hsub]; exact i64_wraps _ (by omega) (by omega)
  have HR1 := Lib.hid hr1
  have HR2 := Lib.hid hr2
  have HR3 := Lib.hid hr3
  have HR4 := Lib.hid hr4
  have HL1 := Lib.hid hl1
  have HL2 := Lib.hid hl2
  have HL3 := Lib.hid hlen3
  have HL4 := Lib.hid hlen4
  have HBODY := Lib.hid hbody
  have HEND := Lib.hid hend
  have HE8 := Lib.hid (show (bodyL l).take 8 = B8 by rw [hbody, ← hBO]; exact hB8)
  have HED := Lib.hid (show (bodyL l).drop 8 = BD by rw [hbody, ← hBO]; exact hBD)
  have HC2 := Lib.hid (show 16 ≤ c2 by omega)
  have n24 : 8 ≤ n ∧ n ≤ 65544 := by omega
  have HN8 := Lib.hid (show n8 ≤ 65536 by omega)
  have HNC := Lib.hid (show n ≤ cb by omega)
  have HS := Lib.hid (show decide (tagL tag about BO = BE) = false by rw [hbody, hend] at hne; exact decide_eq_false hne)
  clear hne
  clear hel her hk htl htr hal har ham hbm hbl hL24 hL6 hbc hbr hn hbody hend hs3 hs4 hr1 hr2 hr3 hr4 hl1 hl2 hlen3 hlen4 hn8 hc8 hc2 hB8 hBD hBO hBE hsub hLn
  go_enter Try.func36, Try.ntmps36
  go_wp2_with fail
  refine (key_yes Ae ne ce enc w w.heap.size (Nat.le_refl _) HEL.out HER.out HK.out).mono ?_
  rintro e w1 ⟨rfl, hb1⟩
  have hz1 := hb1.size
  have HB1 := Lib.hid hb1
  clear hb1
  go_wp2_with fail
  go_quiet (fail)
  have hbq := below_drewN w1.heap.size w1 nq
  generalize w1.drewN nq = wq at hbq ⊢
  have hzq := hbq.size
  have HBQ := Lib.hid (HB1.out.trans (hbq.mono hz1))
  clear hbq d1 d2 hsubw hs1 hs2
  go_wp2_with fail
  have hs8 : (8 : Nat) ≤ 8 := Nat.le_refl _
  go_loopw [43, 13] (fun iv av wr => ∃ (i a : Nat), i ≤ 8 ∧ iv = .int .i64 (i : Int) ∧ av = .int .u64 (a : Int) ∧ a = num (B8.take i) ∧ Below wq.heap.size wq wr) (fun iv _ _ => 8 - (intOf iv).toNat)
  case atStart => exact ⟨0, 0, by omega, rfl, rfl, by simp [num], Below.refl _ _⟩
  case round =>
    obtain ⟨i, a, hi, rfl, rfl, ha, hb⟩ := hrel
    have HA := Lib.hid ha
    have HB := Lib.hid hb
    clear ha hb
    by_cases hlt : i < 8
    · obtain ⟨ad3, hA3, hab3, hac3⟩ := rd_some2 HR3.out (by rw [HL3.out]; omega)
      subst hA3
      have x3 := ((HBQ.out.trans (HB.out.mono HBQ.out.size)).cell (p := ad3.add i) (by rw [add_block]; exact hab3)).trans (hac3 i (by rw [HL3.out]; exact hlt))
      have hst := num_step (l := B8) (i := i) (by rw [HL3.out]; exact hlt)
      rw [← HA.out] at hst
      have hlt2 := num_lt B8 i (by rw [HL3.out]; omega)
      rw [← HA.out] at hlt2
      have h56 : a < 72057594037927936 := Nat.lt_of_lt_of_le hlt2 (Nat.pow_le_pow_right (by omega) (show i ≤ 7 by omega))
      have hor := or_step a (B8.getD i 0).toNat h56 (B8.getD i 0).toNat_lt
      have hc256 := (B8.getD i 0).toNat_lt
      rw [Aes.bv_int] at x3
      generalize (B8.getD i 0).toNat = y at *
      obtain ⟨a2, ha2⟩ : ∃ a2, 256 * a + y = a2 := ⟨_, rfl⟩
      rw [ha2] at hst hor
      have HST := Lib.hid hst
      have hor2 : bits BinOp.or IntKind.u64 (256 * (a : Int)) ((y : Nat) : Int) = ((a2 : Nat) : Int) := by rw [show (256 * (a : Int)) = ((256 * a : Nat) : Int) by omega]; exact hor
      have hor3 : bits BinOp.or IntKind.u64 ((a : Int) * 256) ((y : Nat) : Int) = ((a2 : Nat) : Int) := by rw [Int.mul_comm]; exact hor2
      clear hor hor2
      have h64 : 256 * a < 18446744073709551616 := by omega
      have ii : (i : Int) < 8 := by omega
      clear hst hlt2 hac3
      go_wp2_with fail
      go_roundw
      case rel => exact ⟨i + 1, a2, by omega, by go_num, by rfl, HST.out.symm, HB.out⟩
      case measure => simp [intOf] <;> omega
    · have hi8 : i = 8 := by omega
      subst hi8
      have hnum : a = num B8 := by rw [HA.out, List.take_of_length_le (by rw [HL3.out]; exact Nat.le_refl _)]
      have hnl : a < 18446744073709551616 := by
        have := num_lt B8 8 (by rw [HL3.out]; exact Nat.le_refl _)
        rw [← HA.out] at this
        exact this
      have HBR := Lib.hid (HBQ.out.trans (HB.out.mono HBQ.out.size))
      have hzr := HBR.out.size
      have HNUM := Lib.hid hnum
      clear hnum HA HB
      go_wp2_with fail
      have hq := parts_new (w := wr) (S := fun k => k < wr.heap.size) (T' := fun x => x < (wr.alloc (.cells #[.slice A1 n cb] 22)).heap.size) 22 [(⟨A1, n, cb, BO⟩ : Part)]
        (by
          intro q hq
          simp only [List.mem_cons, List.not_mem_nil, or_false] at hq
          subst hq
          exact ⟨HL1.out, HNC.out, HBM.out, (HR1.out.below HBR.out).s (fun k hk => by omega)⟩) (fun _ h => h) (by simp) (fun x hx => by simp; omega)
      have hba : Below wr.heap.size wr (wr.alloc (.cells #[.slice A1 n cb] 22)) := (Below.refl _ _).alloc (Nat.le_refl _) _
      have hbwa := HBR.out.trans (hba.mono hzr)
      have hbo : bytesOf [(⟨A1, n, cb, BO⟩ : Part)] = BO := by simp [bytesOf]
      refine (tagged_any At nt ct tag Aa na ca about _ 1 1 _ _ HTL.out ht30 (rd_now HTR.out hbwa) HAL.out ha30 hac HAM.out (rd_now HAR.out hbwa) hq rfl (by omega) (by rw [hbo, HL1.out]; omega)).mono ?_
      rw [hbo]
      rintro e w5 ⟨g5, c5, rfl, hr5, hcn5, hcm5, hgb5, hb5⟩
      have HB5 := Lib.hid (hbwa.trans (hb5.mono hbwa.size))
      have HR5 := Lib.hid hr5
      clear hq hba hbwa hbo hr5 hb5 hcn5 hcm5 hgb5
      go_wp2_with fail
      refine (same_any (some ⟨g5, 0, none⟩) A2 16 c5 c2 _ _ w5 (tagL_len _ _ _) HL2.out (by omega) HR5.out (rd_now HR2.out HB5.out)).mono ?_
      rintro e w6 ⟨rfl, hb6⟩
      have HB6 := Lib.hid (HB5.out.trans (hb6.mono HB5.out.size))
      clear hb6
      have hs := HS.out
      clear HS
      rw [hs]
      go_wp2_with fail
      go_ret3
      exact ⟨rfl, HB6.out⟩
set_option maxRecDepth 100000 in
set_option maxHeartbeats 4000000 in
theorem open_big (Ae : Option Addr) (ne ce : Nat) (enc : List UInt8) (At : Option Addr) (nt ct : Nat) (tag : List UInt8) (Aa : Option Addr) (na ca : Nat) (about : List UInt8) (Ab : Option Addr) (L cb : Nat) (l : List UInt8) (w : World)
    (hel : enc.length = ne) (her : Rd w w.heap.size Ae enc) (hk : KeyOk enc) (htl : tag.length = nt) (ht30 : nt ≤ 1073741824) (htr : Rd w w.heap.size At tag)
    (hal : about.length = na) (ha30 : na ≤ 1073741824) (hac : na ≤ ca) (ham : ca ≤ 9223372036854775807) (har : Rd w w.heap.size Aa about) (hbl : l.length = L) (hL24 : 24 ≤ L) (hL6 : L ≤ 65560) (hbc : L ≤ cb) (hbm : cb ≤ 9223372036854775807) (hbr : Rd w w.heap.size Ab l) (heq : tagL tag about (bodyL l) = endL l) (hbig : 9223372036854775807 < num ((bodyL l).take 8)) :
    Calls Try.prog 36 #[.slice Ae ne ce, .slice At nt ct, .slice Aa na ca, .slice Ab L cb] w fun e w' => e = .returned (.tuple #[.slice none 0 0, .int .i64 0, .int .i64 1]) ∧ Below w.heap.size w w' := by
  have HEL := Lib.hid hel
  have HER := Lib.hid her
  have HK := Lib.hid hk
  have HTL := Lib.hid htl
  have HTR := Lib.hid htr
  have HAL := Lib.hid hal
  have HAR := Lib.hid har
  have HAM := Lib.hid ham
  have HBM := Lib.hid hbm
  have d1 : decide ((L : Int) < 24) = false := decide_eq_false (by omega)
  have d2 : decide ((65560 : Int) < (L : Int)) = false := decide_eq_false (by omega)
  obtain ⟨n, hn⟩ : ∃ n, L - 16 = n := ⟨_, rfl⟩
  have hLn : L = n + 16 := by omega
  have hbody : bodyL l = l.take n := by unfold bodyL; rw [hbl, hn]
  have hend : endL l = l.drop n := by unfold endL; rw [hbl, hn]
  obtain ⟨A1, hs1, hr1⟩ := arg_to (k := n) hbr hbl (by omega) hbc
  obtain ⟨A2, hs2, hr2⟩ := arg_from (k := n) hbr hbl (by omega) hbc
  rw [show L - n = 16 by omega] at hs2
  have hl1 : (l.take n).length = n := by rw [List.length_take]; omega
  have hl2 : (l.drop n).length = 16 := by rw [List.length_drop]; omega
  obtain ⟨A3, hs3, hr3⟩ := arg_to (c := cb) (k := 8) hr1 hl1 (by omega) (by omega)
  have hs3' : ∀ w' : World, (Instr.slice 22 (.slice A1 n cb) none (some (.int .i64 8)) none).run Try.prog w' = .ok (.slice A3 8 cb) w' := hs3
  obtain ⟨A4, hs4, hr4⟩ := arg_from (c := cb) (k := 8) hr1 hl1 (by omega) (by omega)
  have hs4' : ∀ w' : World, (Instr.slice 22 (.slice A1 n cb) (some (.int .i64 8)) none none).run Try.prog w' = .ok (.slice A4 (n - 8) (cb - 8)) w' := hs4
  obtain ⟨n8, hn8⟩ : ∃ n8, n - 8 = n8 := ⟨_, rfl⟩
  obtain ⟨c8, hc8⟩ : ∃ c8, cb - 8 = c8 := ⟨_, rfl⟩
  obtain ⟨c2, hc2⟩ : ∃ c2, cb - n = c2 := ⟨_, rfl⟩
  rw [hn8, hc8] at hs4'
  rw [hc2] at hs2
  have hlen3 : ((l.take n).take 8).length = 8 := by rw [List.length_take, hl1]; omega
  have hlen4 : ((l.take n).drop 8).length = n8 := by rw [List.length_drop, hl1]; exact hn8
  obtain ⟨B8, hB8⟩ : ∃ B8, (l.take n).take 8 = B8 := ⟨_, rfl⟩
  obtain ⟨BD, hBD⟩ : ∃ BD, (l.take n).drop 8 = BD := ⟨_, rfl⟩
  obtain ⟨BO, hBO⟩ : ∃ BO, l.take n = BO := ⟨_, rfl⟩
  obtain ⟨BE, hBE⟩ : ∃ BE, l.drop n = BE := ⟨_, rfl⟩
  rw [hB8] at hr3 hlen3
  rw [hBD] at hr4 hlen4
  rw [hBO] at hr1 hl1 hbody
  rw [hBE] at hr2 hl2 hend
  have hsub : (L : Int) - 16 = (n : Int) := by omega
  have hsubw : IntKind.i64.wrap ((L : Int) - 16) = (n : Int) := by rw [hsub]; exact i64_wraps _ (by omega) (by omega)
  have HR1 := Lib.hid hr1
  have HR2 := Lib.hid hr2
  have HR3 := Lib.hid hr3
  have HR4 := Lib.hid hr4
  have HL1 := Lib.hid hl1
  have HL2 := Lib.hid hl2
  have HL3 := Lib.hid hlen3
  have HL4 := Lib.hid hlen4
  have HBODY := Lib.hid hbody
  have HEND := Lib.hid hend
  have HE8 := Lib.hid (show (bodyL l).take 8 = B8 by rw [hbody, ← hBO]; exact hB8)
  have HED := Lib.hid (show (bodyL l).drop 8 = BD by rw [hbody, ← hBO]; exact hBD)
  have HC2 := Lib.hid (show 16 ≤ c2 by omega)
  have n24 : 8 ≤ n ∧ n ≤ 65544 := by omega
  have HN8 := Lib.hid (show n8 ≤ 65536 by omega)
  have HNC := Lib.hid (show n ≤ cb by omega)
  have HS := Lib.hid (show decide (tagL tag about BO = BE) = true by rw [hbody, hend] at heq; exact decide_eq_true heq)
  have HBIG := Lib.hid (show 9223372036854775807 < num B8 by rw [← HE8.out]; exact hbig)
  clear heq hbig
  clear hel her hk htl htr hal har ham hbm hbl hL24 hL6 hbc hbr hn hbody hend hs3 hs4 hr1 hr2 hr3 hr4 hl1 hl2 hlen3 hlen4 hn8 hc8 hc2 hB8 hBD hBO hBE hsub hLn
  go_enter Try.func36, Try.ntmps36
  go_wp2_with fail
  refine (key_yes Ae ne ce enc w w.heap.size (Nat.le_refl _) HEL.out HER.out HK.out).mono ?_
  rintro e w1 ⟨rfl, hb1⟩
  have hz1 := hb1.size
  have HB1 := Lib.hid hb1
  clear hb1
  go_wp2_with fail
  go_quiet (fail)
  have hbq := below_drewN w1.heap.size w1 nq
  generalize w1.drewN nq = wq at hbq ⊢
  have hzq := hbq.size
  have HBQ := Lib.hid (HB1.out.trans (hbq.mono hz1))
  clear hbq d1 d2 hsubw hs1 hs2
  go_wp2_with fail
  have hs8 : (8 : Nat) ≤ 8 := Nat.le_refl _
  go_loopw [43, 13] (fun iv av wr => ∃ (i a : Nat), i ≤ 8 ∧ iv = .int .i64 (i : Int) ∧ av = .int .u64 (a : Int) ∧ a = num (B8.take i) ∧ Below wq.heap.size wq wr) (fun iv _ _ => 8 - (intOf iv).toNat)
  case atStart => exact ⟨0, 0, by omega, rfl, rfl, by simp [num], Below.refl _ _⟩
  case round =>
    obtain ⟨i, a, hi, rfl, rfl, ha, hb⟩ := hrel
    have HA := Lib.hid ha
    have HB := Lib.hid hb
    clear ha hb
    by_cases hlt : i < 8
    · obtain ⟨ad3, hA3, hab3, hac3⟩ := rd_some2 HR3.out (by rw [HL3.out]; omega)
      subst hA3
      have x3 := ((HBQ.out.trans (HB.out.mono HBQ.out.size)).cell (p := ad3.add i) (by rw [add_block]; exact hab3)).trans (hac3 i (by rw [HL3.out]; exact hlt))
      have hst := num_step (l := B8) (i := i) (by rw [HL3.out]; exact hlt)
      rw [← HA.out] at hst
      have hlt2 := num_lt B8 i (by rw [HL3.out]; omega)
      rw [← HA.out] at hlt2
      have h56 : a < 72057594037927936 := Nat.lt_of_lt_of_le hlt2 (Nat.pow_le_pow_right (by omega) (show i ≤ 7 by omega))
      have hor := or_step a (B8.getD i 0).toNat h56 (B8.getD i 0).toNat_lt
      have hc256 := (B8.getD i 0).toNat_lt
      rw [Aes.bv_int] at x3
      generalize (B8.getD i 0).toNat = y at *
      obtain ⟨a2, ha2⟩ : ∃ a2, 256 * a + y = a2 := ⟨_, rfl⟩
      rw [ha2] at hst hor
      have HST := Lib.hid hst
      have hor2 : bits BinOp.or IntKind.u64 (256 * (a : Int)) ((y : Nat) : Int) = ((a2 : Nat) : Int) := by rw [show (256 * (a : Int)) = ((256 * a : Nat) : Int) by omega]; exact hor
      have hor3 : bits BinOp.or IntKind.u64 ((a : Int) * 256) ((y : Nat) : Int) = ((a2 : Nat) : Int) := by rw [Int.mul_comm]; exact hor2
      clear hor hor2
      have h64 : 256 * a < 18446744073709551616 := by omega
      have ii : (i : Int) < 8 := by omega
      clear hst hlt2 hac3
      go_wp2_with fail
      go_roundw
      case rel => exact ⟨i + 1, a2, by omega, by go_num, by rfl, HST.out.symm, HB.out⟩
      case measure => simp [intOf] <;> omega
    · have hi8 : i = 8 := by omega
      subst hi8
      have hnum : a = num B8 := by rw [HA.out, List.take_of_length_le (by rw [HL3.out]; exact Nat.le_refl _)]
      have hnl : a < 18446744073709551616 := by
        have := num_lt B8 8 (by rw [HL3.out]; exact Nat.le_refl _)
        rw [← HA.out] at this
        exact this
      have HBR := Lib.hid (HBQ.out.trans (HB.out.mono HBQ.out.size))
      have hzr := HBR.out.size
      have HNUM := Lib.hid hnum
      clear hnum HA HB
      go_wp2_with fail
      have hq := parts_new (w := wr) (S := fun k => k < wr.heap.size) (T' := fun x => x < (wr.alloc (.cells #[.slice A1 n cb] 22)).heap.size) 22 [(⟨A1, n, cb, BO⟩ : Part)]
        (by
          intro q hq
          simp only [List.mem_cons, List.not_mem_nil, or_false] at hq
          subst hq
          exact ⟨HL1.out, HNC.out, HBM.out, (HR1.out.below HBR.out).s (fun k hk => by omega)⟩) (fun _ h => h) (by simp) (fun x hx => by simp; omega)
      have hba : Below wr.heap.size wr (wr.alloc (.cells #[.slice A1 n cb] 22)) := (Below.refl _ _).alloc (Nat.le_refl _) _
      have hbwa := HBR.out.trans (hba.mono hzr)
      have hbo : bytesOf [(⟨A1, n, cb, BO⟩ : Part)] = BO := by simp [bytesOf]
      refine (tagged_any At nt ct tag Aa na ca about _ 1 1 _ _ HTL.out ht30 (rd_now HTR.out hbwa) HAL.out ha30 hac HAM.out (rd_now HAR.out hbwa) hq rfl (by omega) (by rw [hbo, HL1.out]; omega)).mono ?_
      rw [hbo]
      rintro e w5 ⟨g5, c5, rfl, hr5, hcn5, hcm5, hgb5, hb5⟩
      have HB5 := Lib.hid (hbwa.trans (hb5.mono hbwa.size))
      have HR5 := Lib.hid hr5
      clear hq hba hbwa hbo hr5 hb5 hcn5 hcm5 hgb5
      go_wp2_with fail
      refine (same_any (some ⟨g5, 0, none⟩) A2 16 c5 c2 _ _ w5 (tagL_len _ _ _) HL2.out (by omega) HR5.out (rd_now HR2.out HB5.out)).mono ?_
      rintro e w6 ⟨rfl, hb6⟩
      have HB6 := Lib.hid (HB5.out.trans (hb6.mono HB5.out.size))
      clear hb6
      have hs := HS.out
      clear HS
      rw [hs]
      have d3 : decide ((9223372036854775807 : Int) < (a : Int)) = true := decide_eq_true (by have := HBIG.out; have := HNUM.out; omega)
      clear hnl
      go_wp2_with fail
      go_ret3
      exact ⟨rfl, HB6.out⟩
set_option maxRecDepth 100000 in
set_option maxHeartbeats 4000000 in
theorem open_yes (Ae : Option Addr) (ne ce : Nat) (enc : List UInt8) (At : Option Addr) (nt ct : Nat) (tag : List UInt8) (Aa : Option Addr) (na ca : Nat) (about : List UInt8) (Ab : Option Addr) (L cb : Nat) (l : List UInt8) (w : World)
    (hel : enc.length = ne) (her : Rd w w.heap.size Ae enc) (hk : KeyOk enc) (htl : tag.length = nt) (ht30 : nt ≤ 1073741824) (htr : Rd w w.heap.size At tag)
    (hal : about.length = na) (ha30 : na ≤ 1073741824) (hac : na ≤ ca) (ham : ca ≤ 9223372036854775807) (har : Rd w w.heap.size Aa about) (hbl : l.length = L) (hL24 : 24 ≤ L) (hL6 : L ≤ 65560) (hbc : L ≤ cb) (hbm : cb ≤ 9223372036854775807) (hbr : Rd w w.heap.size Ab l) (hop : Opens tag about l) :
    Calls Try.prog 36 #[.slice Ae ne ce, .slice At nt ct, .slice Aa na ca, .slice Ab L cb] w fun e w' => ∃ v, e = .returned (.tuple #[v, .int .i64 ((num ((bodyL l).take 8) : Nat) : Int), .int .i64 0]) ∧ Own w' 5 w.heap.size v (xorS enc (num ((bodyL l).take 8)) 0 ((bodyL l).drop 8)) ∧ Below w.heap.size w w' := by
  have HEL := Lib.hid hel
  have HER := Lib.hid her
  have HK := Lib.hid hk
  have HTL := Lib.hid htl
  have HTR := Lib.hid htr
  have HAL := Lib.hid hal
  have HAR := Lib.hid har
  have HAM := Lib.hid ham
  have HBM := Lib.hid hbm
  have d1 : decide ((L : Int) < 24) = false := decide_eq_false (by omega)
  have d2 : decide ((65560 : Int) < (L : Int)) = false := decide_eq_false (by omega)
  obtain ⟨n, hn⟩ : ∃ n, L - 16 = n := ⟨_, rfl⟩
  have hLn : L = n + 16 := by omega
  have hbody : bodyL l = l.take n := by unfold bodyL; rw [hbl, hn]
  have hend : endL l = l.drop n := by unfold endL; rw [hbl, hn]
  obtain ⟨A1, hs1, hr1⟩ := arg_to (k := n) hbr hbl (by omega) hbc
  obtain ⟨A2, hs2, hr2⟩ := arg_from (k := n) hbr hbl (by omega) hbc
  rw [show L - n = 16 by omega] at hs2
  have hl1 : (l.take n).length = n := by rw [List.length_take]; omega
  have hl2 : (l.drop n).length = 16 := by rw [List.length_drop]; omega
  obtain ⟨A3, hs3, hr3⟩ := arg_to (c := cb) (k := 8) hr1 hl1 (by omega) (by omega)
  have hs3' : ∀ w' : World, (Instr.slice 22 (.slice A1 n cb) none (some (.int .i64 8)) none).run Try.prog w' = .ok (.slice A3 8 cb) w' := hs3
  obtain ⟨A4, hs4, hr4⟩ := arg_from (c := cb) (k := 8) hr1 hl1 (by omega) (by omega)
  have hs4' : ∀ w' : World, (Instr.slice 22 (.slice A1 n cb) (some (.int .i64 8)) none none).run Try.prog w' = .ok (.slice A4 (n - 8) (cb - 8)) w' := hs4
  obtain ⟨n8, hn8⟩ : ∃ n8, n - 8 = n8 := ⟨_, rfl⟩
  obtain ⟨c8, hc8⟩ : ∃ c8, cb - 8 = c8 := ⟨_, rfl⟩
  obtain ⟨c2, hc2⟩ : ∃ c2, cb - n = c2 := ⟨_, rfl⟩
  rw [hn8, hc8] at hs4'
  rw [hc2] at hs2
  have hlen3 : ((l.take n).take 8).length = 8 := by rw [List.length_take, hl1]; omega
  have hlen4 : ((l.take n).drop 8).length = n8 := by rw [List.length_drop, hl1]; exact hn8
  obtain ⟨B8, hB8⟩ : ∃ B8, (l.take n).take 8 = B8 := ⟨_, rfl⟩
  obtain ⟨BD, hBD⟩ : ∃ BD, (l.take n).drop 8 = BD := ⟨_, rfl⟩
  obtain ⟨BO, hBO⟩ : ∃ BO, l.take n = BO := ⟨_, rfl⟩
  obtain ⟨BE, hBE⟩ : ∃ BE, l.drop n = BE := ⟨_, rfl⟩
  rw [hB8] at hr3 hlen3
  rw [hBD] at hr4 hlen4
  rw [hBO] at hr1 hl1 hbody
  rw [hBE] at hr2 hl2 hend
  have hsub : (L : Int) - 16 = (n : Int) := by omega
  have hsubw : IntKind.i64.wrap ((L : Int) - 16) = (n : Int) := by rw [hsub]; exact i64_wraps _ (by omega) (by omega)
  have HR1 := Lib.hid hr1
  have HR2 := Lib.hid hr2
  have HR3 := Lib.hid hr3
  have HR4 := Lib.hid hr4
  have HL1 := Lib.hid hl1
  have HL2 := Lib.hid hl2
  have HL3 := Lib.hid hlen3
  have HL4 := Lib.hid hlen4
  have HBODY := Lib.hid hbody
  have HEND := Lib.hid hend
  have HE8 := Lib.hid (show (bodyL l).take 8 = B8 by rw [hbody, ← hBO]; exact hB8)
  have HED := Lib.hid (show (bodyL l).drop 8 = BD by rw [hbody, ← hBO]; exact hBD)
  have HC2 := Lib.hid (show 16 ≤ c2 by omega)
  have n24 : 8 ≤ n ∧ n ≤ 65544 := by omega
  have HN8 := Lib.hid (show n8 ≤ 65536 by omega)
  have HNC := Lib.hid (show n ≤ cb by omega)
  have HS := Lib.hid (show decide (tagL tag about BO = BE) = true by have := hop.1; rw [hbody, hend] at this; exact decide_eq_true this)
  have HSM := Lib.hid (show num B8 ≤ 9223372036854775807 by rw [← HE8.out]; exact hop.2)
  clear hop
  clear hel her hk htl htr hal har ham hbm hbl hL24 hL6 hbc hbr hn hbody hend hs3 hs4 hr1 hr2 hr3 hr4 hl1 hl2 hlen3 hlen4 hn8 hc8 hc2 hB8 hBD hBO hBE hsub hLn
  go_enter Try.func36, Try.ntmps36
  go_wp2_with fail
  refine (key_yes Ae ne ce enc w w.heap.size (Nat.le_refl _) HEL.out HER.out HK.out).mono ?_
  rintro e w1 ⟨rfl, hb1⟩
  have hz1 := hb1.size
  have HB1 := Lib.hid hb1
  clear hb1
  go_wp2_with fail
  go_quiet (fail)
  have hbq := below_drewN w1.heap.size w1 nq
  generalize w1.drewN nq = wq at hbq ⊢
  have hzq := hbq.size
  have HBQ := Lib.hid (HB1.out.trans (hbq.mono hz1))
  clear hbq d1 d2 hsubw hs1 hs2
  go_wp2_with fail
  have hs8 : (8 : Nat) ≤ 8 := Nat.le_refl _
  go_loopw [43, 13] (fun iv av wr => ∃ (i a : Nat), i ≤ 8 ∧ iv = .int .i64 (i : Int) ∧ av = .int .u64 (a : Int) ∧ a = num (B8.take i) ∧ Below wq.heap.size wq wr) (fun iv _ _ => 8 - (intOf iv).toNat)
  case atStart => exact ⟨0, 0, by omega, rfl, rfl, by simp [num], Below.refl _ _⟩
  case round =>
    obtain ⟨i, a, hi, rfl, rfl, ha, hb⟩ := hrel
    have HA := Lib.hid ha
    have HB := Lib.hid hb
    clear ha hb
    by_cases hlt : i < 8
    · obtain ⟨ad3, hA3, hab3, hac3⟩ := rd_some2 HR3.out (by rw [HL3.out]; omega)
      subst hA3
      have x3 := ((HBQ.out.trans (HB.out.mono HBQ.out.size)).cell (p := ad3.add i) (by rw [add_block]; exact hab3)).trans (hac3 i (by rw [HL3.out]; exact hlt))
      have hst := num_step (l := B8) (i := i) (by rw [HL3.out]; exact hlt)
      rw [← HA.out] at hst
      have hlt2 := num_lt B8 i (by rw [HL3.out]; omega)
      rw [← HA.out] at hlt2
      have h56 : a < 72057594037927936 := Nat.lt_of_lt_of_le hlt2 (Nat.pow_le_pow_right (by omega) (show i ≤ 7 by omega))
      have hor := or_step a (B8.getD i 0).toNat h56 (B8.getD i 0).toNat_lt
      have hc256 := (B8.getD i 0).toNat_lt
      rw [Aes.bv_int] at x3
      generalize (B8.getD i 0).toNat = y at *
      obtain ⟨a2, ha2⟩ : ∃ a2, 256 * a + y = a2 := ⟨_, rfl⟩
      rw [ha2] at hst hor
      have HST := Lib.hid hst
      have hor2 : bits BinOp.or IntKind.u64 (256 * (a : Int)) ((y : Nat) : Int) = ((a2 : Nat) : Int) := by rw [show (256 * (a : Int)) = ((256 * a : Nat) : Int) by omega]; exact hor
      have hor3 : bits BinOp.or IntKind.u64 ((a : Int) * 256) ((y : Nat) : Int) = ((a2 : Nat) : Int) := by rw [Int.mul_comm]; exact hor2
      clear hor hor2
      have h64 : 256 * a < 18446744073709551616 := by omega
      have ii : (i : Int) < 8 := by omega
      clear hst hlt2 hac3
      go_wp2_with fail
      go_roundw
      case rel => exact ⟨i + 1, a2, by omega, by go_num, by rfl, HST.out.symm, HB.out⟩
      case measure => simp [intOf] <;> omega
    · have hi8 : i = 8 := by omega
      subst hi8
      have hnum : a = num B8 := by rw [HA.out, List.take_of_length_le (by rw [HL3.out]; exact Nat.le_refl _)]
      have hnl : a < 18446744073709551616 := by
        have := num_lt B8 8 (by rw [HL3.out]; exact Nat.le_refl _)
        rw [← HA.out] at this
        exact this
      have HBR := Lib.hid (HBQ.out.trans (HB.out.mono HBQ.out.size))
      have hzr := HBR.out.size
      have HNUM := Lib.hid hnum
      clear hnum HA HB
      go_wp2_with fail
      have hq := parts_new (w := wr) (S := fun k => k < wr.heap.size) (T' := fun x => x < (wr.alloc (.cells #[.slice A1 n cb] 22)).heap.size) 22 [(⟨A1, n, cb, BO⟩ : Part)]
        (by
          intro q hq
          simp only [List.mem_cons, List.not_mem_nil, or_false] at hq
          subst hq
          exact ⟨HL1.out, HNC.out, HBM.out, (HR1.out.below HBR.out).s (fun k hk => by omega)⟩) (fun _ h => h) (by simp) (fun x hx => by simp; omega)
      have hba : Below wr.heap.size wr (wr.alloc (.cells #[.slice A1 n cb] 22)) := (Below.refl _ _).alloc (Nat.le_refl _) _
      have hbwa := HBR.out.trans (hba.mono hzr)
      have hbo : bytesOf [(⟨A1, n, cb, BO⟩ : Part)] = BO := by simp [bytesOf]
      refine (tagged_any At nt ct tag Aa na ca about _ 1 1 _ _ HTL.out ht30 (rd_now HTR.out hbwa) HAL.out ha30 hac HAM.out (rd_now HAR.out hbwa) hq rfl (by omega) (by rw [hbo, HL1.out]; omega)).mono ?_
      rw [hbo]
      rintro e w5 ⟨g5, c5, rfl, hr5, hcn5, hcm5, hgb5, hb5⟩
      have HB5 := Lib.hid (hbwa.trans (hb5.mono hbwa.size))
      have HR5 := Lib.hid hr5
      clear hq hba hbwa hbo hr5 hb5 hcn5 hcm5 hgb5
      go_wp2_with fail
      refine (same_any (some ⟨g5, 0, none⟩) A2 16 c5 c2 _ _ w5 (tagL_len _ _ _) HL2.out (by omega) HR5.out (rd_now HR2.out HB5.out)).mono ?_
      rintro e w6 ⟨rfl, hb6⟩
      have HB6 := Lib.hid (HB5.out.trans (hb6.mono HB5.out.size))
      clear hb6
      have hs := HS.out
      clear HS
      rw [hs]
      have d3 : decide ((9223372036854775807 : Int) < (a : Int)) = false := decide_eq_false (by have := HSM.out; have := HNUM.out; omega)
      have ha63 : a < 9223372036854775808 := by have := HSM.out; have := HNUM.out; omega
      have hcv : IntKind.i64.wrap (a : Int) = (a : Int) := i64_wraps _ (by omega) (by omega)
      have HA63 := Lib.hid ha63
      clear hnl ha63
      go_wp2_with fail
      refine (xor_yes Ae ne ce enc A4 n8 c8 BD a 0 HA63.out (by omega) w6 HEL.out (rd_now HER.out HB6.out) HK.out HL4.out HN8.out (rd_now HR4.out HB6.out)).mono ?_
      rintro e w7 ⟨v7, rfl, hO7, hb7⟩
      have HO7 := Lib.hid (hO7.mono HB6.out.size)
      have HB7 := Lib.hid (HB6.out.trans (hb7.mono HB6.out.size))
      have HAE := Lib.hid (show num ((bodyL l).take 8) = a by rw [HE8.out]; exact HNUM.out.symm)
      clear hO7 hb7
      go_wp2_with fail
      go_ret3
      exact ⟨_, (by rw [HAE.out]; rfl), (by rw [HAE.out, HED.out]; exact HO7.out), HB7.out⟩
end Go.Proofs.Ytcbihjcnnfohmaa.Box
