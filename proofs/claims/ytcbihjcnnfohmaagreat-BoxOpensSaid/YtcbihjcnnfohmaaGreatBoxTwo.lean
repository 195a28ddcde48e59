/- Opening: contracts. -/
import Derived.Test.YtcbihjcnnfohmaaGreatBoxOne
import Derived.Test.YtcbihjcnnfohmaaGreatBoxVal
import Derived.Test.YtcbihjcnnfohmaaGreatStrAll
namespace Go.Proofs.YtcbihjcnnfohmaaGreat.Box
open Go Go.ChangeShapes Go.WideShapes Go.ChangeAt Go.RowKit Go.Proofs.YtcbihjcnnfohmaaGreat.Aes Go.Proofs.YtcbihjcnnfohmaaGreat.Str Go.Proofs.YtcbihjcnnfohmaaGreat.Mac
set_option linter.unusedVariables false
set_option linter.unusedSimpArgs false
set_option maxRecDepth 100000 in
set_option maxHeartbeats 1000000 in
theorem open_no1 (Ae : Option Addr) (ne ce : Nat) (enc : List UInt8) (At : Option Addr) (nt ct : Nat) (Aa : Option Addr) (na ca : Nat) (Ab : Option Addr) (L cb : Nat) (w : World) (hel : enc.length = ne) (hk : ¬ KeyOk enc) :
    Calls Tryz.prog 15 #[.slice Ae ne ce, .slice At nt ct, .slice Aa na ca, .slice Ab L cb] w fun e w' => e = .returned (.tuple #[.slice none 0 0, .int .i64 0, .int .i64 1]) ∧ w = w' := by
  have HEL := Lib.hid hel
  have HK := Lib.hid hk
  clear hel hk
  go_enter Tryz.func15, Tryz.ntmps15
  go_wp2_with fail
  refine (key_no Ae ne ce enc w HEL.out HK.out).mono ?_
  rintro e w1 ⟨rfl, rfl⟩
  go_wp2_with fail
  go_ret3
  exact ⟨rfl, rfl⟩
set_option maxRecDepth 100000 in
set_option maxHeartbeats 1000000 in
theorem open_short (Ae : Option Addr) (ne ce : Nat) (enc : List UInt8) (At : Option Addr) (nt ct : Nat) (Aa : Option Addr) (na ca : Nat) (Ab : Option Addr) (L cb : Nat) (w : World) (hel : enc.length = ne) (her : Rd w w.heap.size Ae enc) (hk : KeyOk enc) (hL : L < 24) :
    Calls Tryz.prog 15 #[.slice Ae ne ce, .slice At nt ct, .slice Aa na ca, .slice Ab L cb] w fun e w' => e = .returned (.tuple #[.slice none 0 0, .int .i64 0, .int .i64 3]) ∧ Below w.heap.size w w' := by
  have HEL := Lib.hid hel
  have HER := Lib.hid her
  have HK := Lib.hid hk
  have d1 : decide ((L : Int) < 24) = true := decide_eq_true (by omega)
  clear hel her hk hL
  go_enter Tryz.func15, Tryz.ntmps15
  go_wp2_with fail
  refine (key_yes Ae ne ce enc w w.heap.size (Nat.le_refl _) HEL.out HER.out HK.out).mono ?_
  rintro e w1 ⟨rfl, hb1⟩
  have hz1 := hb1.size
  have HB1 := Lib.hid hb1
  clear hb1
  go_wp2_with fail
  go_ret3
  exact ⟨rfl, HB1.out⟩
set_option maxRecDepth 100000 in
set_option maxHeartbeats 1000000 in
theorem open_long (Ae : Option Addr) (ne ce : Nat) (enc : List UInt8) (At : Option Addr) (nt ct : Nat) (Aa : Option Addr) (na ca : Nat) (Ab : Option Addr) (L cb : Nat) (w : World) (hel : enc.length = ne) (her : Rd w w.heap.size Ae enc) (hk : KeyOk enc) (hL : 65560 < L) :
    Calls Tryz.prog 15 #[.slice Ae ne ce, .slice At nt ct, .slice Aa na ca, .slice Ab L cb] w fun e w' => e = .returned (.tuple #[.slice none 0 0, .int .i64 0, .int .i64 2]) ∧ Below w.heap.size w w' := by
  have HEL := Lib.hid hel
  have HER := Lib.hid her
  have HK := Lib.hid hk
  have d1 : decide ((L : Int) < 24) = false := decide_eq_false (by omega)
  have d2 : decide ((65560 : Int) < (L : Int)) = true := decide_eq_true (by omega)
  clear hel her hk hL
  go_enter Tryz.func15, Tryz.ntmps15
  go_wp2_with fail
  refine (key_yes Ae ne ce enc w w.heap.size (Nat.le_refl _) HEL.out HER.out HK.out).mono ?_
  rintro e w1 ⟨rfl, hb1⟩
  have hz1 := hb1.size
  have HB1 := Lib.hid hb1
  clear hb1
  go_wp2_with fail
  go_ret3
  exact ⟨rfl, HB1.out⟩
set_option maxRecDepth 100000 in
set_option maxHeartbeats 4000000 in
theorem open_tag (Ae : Option Addr) (ne ce : Nat) (enc : List UInt8) (At : Option Addr) (nt ct : Nat) (tag : List UInt8) (Aa : Option Addr) (na ca : Nat) (about : List UInt8) (Ab : Option Addr) (L cb : Nat) (l : List UInt8) (w : World)
    (hel : enc.length = ne) (her : Rd w w.heap.size Ae enc) (hk : KeyOk enc) (htl : tag.length = nt) (ht30 : nt ≤ 1073741824) (htr : Rd w w.heap.size At tag)
    (hal : about.length = na) (ha30 : na ≤ 1073741824) (hac : na ≤ ca) (ham : ca ≤ 9223372036854775807) (har : Rd w w.heap.size Aa about) (hbl : l.length = L) (hL24 : 24 ≤ L) (hL6 : L ≤ 65560) (hbc : L ≤ cb) (hbm : cb ≤ 9223372036854775807) (hbr : Rd w w.heap.size Ab l) (hne : tagL tag about (bodyL l) ≠ endL l) :
    Calls Tryz.prog 15 #[.slice Ae ne ce, .slice At nt ct, .slice Aa na ca, .slice Ab L cb] w fun e w' => e = .returned (.tuple #[.slice none 0 0, .int .i64 0, .int .i64 7]) ∧ Below w.heap.size w w' := by
  have HEL := Lib.hid hel
  have HER := Lib.hid her
  have HK := Lib.hid hk
  have HTL := Lib.hid htl
  have HTR := Lib.hid htr
  have HAL := Lib.hid hal
  have HAR := Lib.hid har
  have HAM := Lib.hid ham
  have HBM := Lib.hid hbm
  have d1 : decide ((L : Int) < 24) = false := decide_eq_false (by omega)
  have d2 : decide ((65560 : Int) < (L : Int)) = false := decide_eq_false (by omega)
  obtain ⟨n, hn⟩ : ∃ n, L - 16 = n := ⟨_, rfl⟩
  have hLn : L = n + 16 := by omega
  have hbody : bodyL l = l.take n := by unfold bodyL; rw [hbl, hn]
  have hend : endL l = l.drop n := by unfold endL; rw [hbl, hn]
  obtain ⟨A1, hs1, hr1⟩ := arg_to (k := n) hbr hbl (by omega) hbc
  obtain ⟨A2, hs2, hr2⟩ := arg_from (k := n) hbr hbl (by omega) hbc
  rw [show L - n = 16 by omega] at hs2
  have hl1 : (l.take n).length = n := by rw [List.length_take]; omega
  have hl2 : (l.drop n).length = 16 := by rw [List.length_drop]; omega
  obtain ⟨A3, hs3, hr3⟩ := arg_to (c := cb) (k := 8) hr1 hl1 (by omega) (by omega)
  have hs3' : ∀ w' : World, (Instr.slice 22 (.slice A1 n cb) none (some (.int .i64 8)) none).run Tryz.prog w' = .ok (.slice A3 8 cb) w' := hs3
  obtain ⟨A4, hs4, hr4⟩ := arg_from (c := cb) (k := 8) hr1 hl1 (by omega) (by omega)
  have hs4' : ∀ w' : World, (Instr.slice 22 (.slice A1 n cb) (some (.int .i64 8)) none none).run Tryz.prog w' = .ok (.slice A4 (n - 8) (cb - 8)) w' := hs4
  obtain ⟨n8, hn8⟩ : ∃ n8, n - 8 = n8 := ⟨_, rfl⟩
  obtain ⟨c8, hc8⟩ : ∃ c8, cb - 8 = c8 := ⟨_, rfl⟩
  obtain ⟨c2, hc2⟩ : ∃ c2, cb - n = c2 := ⟨_, rfl⟩
  rw [hn8, hc8] at hs4'
  rw [hc2] at hs2
  have hlen3 : ((l.take n).take 8).length = 8 := by rw [List.length_take, hl1]; omega
  have hlen4 : ((l.take n).drop 8).length = n8 := by rw [List.length_drop, hl1]; exact hn8
  obtain ⟨B8, hB8⟩ : ∃ B8, (l.take n).take 8 = B8 := ⟨_, rfl⟩
  obtain ⟨BD, hBD⟩ : ∃ BD, (l.take n).drop 8 = BD := ⟨_, rfl⟩
  obtain ⟨BO, hBO⟩ : ∃ BO, l.take n = BO := ⟨_, rfl⟩
  obtain ⟨BE, hBE⟩ : ∃ BE, l.drop n = BE := ⟨_, rfl⟩
  rw [hB8] at hr3 hlen3
  rw [hBD] at hr4 hlen4
  rw [hBO] at hr1 hl1 hbody
  rw [hBE] at hr2 hl2 hend
  have hsub : (L : Int) - 16 = (n : Int) := by omega
  have hsubw : IntKind.i64.wrap ((L : Int) - 16) = (n : Int) := by rw [hsub]; exact i64_wraps _ (by omega) (by omega)
  have HR1 := Lib.hid hr1
  have HR2 := Lib.hid hr2
  have HR3 := Lib.hid hr3
  have HR4 := Lib.hid hr4
  have HL1 := Lib.hid hl1
  have HL2 := Lib.hid hl2
  have HL3 := Lib.hid hlen3
  have HL4 := Lib.hid hlen4
  have HBODY := Lib.hid hbody
  have HEND := Lib.hid hend
  have HE8 := Lib.hid (show (bodyL l).take 8 = B8 by rw [hbody, ← hBO]; exact hB8)
  have HED := Lib.hid (show (bodyL l).drop 8 = BD by rw [hbody, ← hBO]; exact hBD)
  have HC2 := Lib.hid (show 16 ≤ c2 by omega)
  have n24 : 8 ≤ n ∧ n ≤ 65544 := by omega
  have HN8 := Lib.hid (show n8 ≤ 65536 by omega)
  have HNC := Lib.hid (show n ≤ cb by omega)
  have HS := Lib.hid (show decide (tagL tag about BO = BE) = false by rw [hbody, hend] at hne; exact decide_eq_false hne)
  clear hne
  clear hel her hk htl htr hal har ham hbm hbl hL24 hL6 hbc hbr hn hbody hend hs3 hs4 hr1 hr2 hr3 hr4 hl1 hl2 hlen3 hlen4 hn8 hc8 hc2 hB8 hBD hBO hBE hsub hLn
  go_enter Tryz.func15, Tryz.ntmps15
  go_wp2_with fail
  refine (key_yes Ae ne ce enc w w.heap.size (Nat.le_refl _) HEL.out HER.out HK.out).mono ?_
  rintro e w1 ⟨rfl, hb1⟩
  have hz1 := hb1.size
  have HB1 := Lib.hid hb1
  clear hb1
  go_wp2_with fail
  go_quiet (fail)
  have hbq := below_drewN w1.heap.size w1 nq
  generalize w1.drewN nq = wq at hbq ⊢
  have hzq := hbq.size
  have HBQ := Lib.hid (HB1.out.trans (hbq.mono hz1))
  clear hbq d1 d2 hsubw hs1 hs2
  go_wp2_with fail
  have hs8 : (8 : Nat) ≤ 8 := Nat.le_refl _
  go_loopw [43, 13] (fun iv av wr => ∃ (i a : Nat), i ≤ 8 ∧ iv = .int .i64 (i : Int) ∧ av = .int .u64 (a : Int) ∧ a = num (B8.take i) ∧ Below wq.heap.size wq wr) (fun iv _ _ => 8 - (intOf iv).toNat)
  case atStart => exact ⟨0, 0, by omega, rfl, rfl, by simp [num], Below.refl _ _⟩
  case round =>
    obtain ⟨i, a, hi, rfl, rfl, ha, hb⟩ := hrel
    have HA := Lib.hid ha
    have HB := Lib.hid hb
    clear ha hb
    by_cases hlt : i < 8
    · obtain ⟨ad3, hA3, hab3, hac3⟩ := rd_some2 HR3.out (by rw [HL3.out]; omega)
      subst hA3
      have x3 := ((HBQ.out.trans (HB.out.mono HBQ.out.size)).cell (p := ad3.add i) (by rw [add_block]; exact hab3)).trans (hac3 i (by rw [HL3.out]; exact hlt))
      have hst := num_step (l := B8) (i := i) (by rw [HL3.out]; exact hlt)
      rw [← HA.out] at hst
      have hlt2 := num_lt B8 i (by rw [HL3.out]; omega)
      rw [← HA.out] at hlt2
      have h56 : a < 72057594037927936 := Nat.lt_of_lt_of_le hlt2 (Nat.pow_le_pow_right (by omega) (show i ≤ 7 by omega))
      have hor := or_step a (B8.getD i 0).toNat h56 (B8.getD i 0).toNat_lt
      have hc256 := (B8.getD i 0).toNat_lt
      rw [Aes.bv_int] at x3
      generalize (B8.getD i 0).toNat = y at *
      obtain ⟨a2, ha2⟩ : ∃ a2, 256 * a + y = a2 := ⟨_, rfl⟩
      rw [ha2] at hst hor
      have HST := Lib.hid hst
      have hor2 : bits BinOp.or IntKind.u64 (256 * (a : Int)) ((y : Nat) : Int) = ((a2 : Nat) : Int) := by rw [show (256 * (a : Int)) = ((256 * a : Nat) : Int) by omega]; exact hor
      have hor3 : bits BinOp.or IntKind.u64 ((a : Int) * 256) ((y : Nat) : Int) = ((a2 : Nat) : Int) := by rw [Int.mul_comm]; exact hor2
      clear hor hor2
      have h64 : 256 * a < 18446744073709551616 := by omega
      have ii : (i : Int) < 8 := by omega
      clear hst hlt2 hac3
      go_wp2_with fail
      go_roundw
      case rel => exact ⟨i + 1, a2, by omega, by go_num, by rfl, HST.out.symm, HB.out⟩
      case measure => simp [intOf] <;> omega
    · have hi8 : i = 8 := by omega
      subst hi8
      have hnum : a = num B8 := by rw [HA.out, List.take_of_length_le (by rw [HL3.out]; exact Nat.le_refl _)]
      have hnl : a < 18446744073709551616 := by
        have := num_lt B8 8 (by rw [HL3.out]; exact Nat.le_refl _)
        rw [← HA.out] at this
        exact this
      have HBR := Lib.hid (HBQ.out.trans (HB.out.mono HBQ.out.size))
      have hzr := HBR.out.size
      have HNUM := Lib.hid hnum
      clear hnum HA HB
      go_wp2_with fail
      have hq := parts_new (w := wr) (S := fun k => k < wr.heap.size) (T' := fun x => x < (wr.alloc (.cells #[.slice A1 n cb] 22)).heap.size) 22 [(⟨A1, n, cb, BO⟩ : Part)]
        (by
          intro q hq
          simp only [List.mem_cons, List.not_mem_nil, or_false] at hq
          subst hq
          exact ⟨HL1.out, HNC.out, HBM.out, (HR1.out.below HBR.out).s (fun k hk => by omega)⟩) (fun _ h => h) (by simp) (fun x hx => by simp; omega)
      have hba : Below wr.heap.size wr (wr.alloc (.cells #[.slice A1 n cb] 22)) := (Below.refl _ _).alloc (Nat.le_refl _) _
      have hbwa := HBR.out.trans (hba.mono hzr)
      have hbo : bytesOf [(⟨A1, n, cb, BO⟩ : Part)] = BO := by simp [bytesOf]
      refine (tagged_any At nt ct tag Aa na ca about _ 1 1 _ _ HTL.out ht30 (rd_now HTR.out hbwa) HAL.out ha30 hac HAM.out (rd_now HAR.out hbwa) hq rfl (by omega) (by rw [hbo, HL1.out]; omega)).mono ?_
      rw [hbo]
      rintro e w5 ⟨g5, c5, rfl, hr5, hcn5, hcm5, hgb5, hb5⟩
      have HB5 := Lib.hid (hbwa.trans (hb5.mono hbwa.size))
      have HR5 := Lib.hid hr5
      clear hq hba hbwa hbo hr5 hb5 hcn5 hcm5 hgb5
      go_wp2_with fail
      refine (same_any (some ⟨g5, 0, none⟩) A2 16 c5 c2 _ _ w5 (tagL_len _ _ _) HL2.out (by omega) HR5.out (rd_now HR2.out HB5.out)).mono ?_
      rintro e w6 ⟨rfl, hb6⟩
      have HB6 := Lib.hid (HB5.out.trans (hb6.mono HB5.out.size))
      clear hb6
      have hs := HS.out
      clear HS
      rw [hs]
      go_wp2_with fail
      go_ret3
      exact ⟨rfl, HB6.out⟩
set_option maxRecDepth 100000 in
set_option maxHeartbeats 4000000 in
theorem open_big (Ae : Option Addr) (ne ce : Nat) (enc : List UInt8) (At : Option Addr) (nt ct : Nat) (tag : List UInt8) (Aa : Option Addr) (na ca : Nat) (about : List UInt8) (Ab : Option Addr) (L cb : Nat) (l : List UInt8) (w : World)
    (hel : enc.length = ne) (her : Rd w w.heap.size Ae enc) (hk : KeyOk enc) (htl : tag.length = nt) (ht30 : nt ≤ 1073741824) (htr : Rd w w.heap.size At tag)
    (hal : about.length = na) (ha30 : na ≤ 1073741824) (hac : na ≤ ca) (ham : ca ≤ 9223372036854775807) (har : Rd w w.heap.size Aa about) (hbl : l.length = L) (hL24 : 24 ≤ L) (hL6 : L ≤ 65560) (hbc : L ≤ cb) (hbm : cb ≤ 9223372036854775807) (hbr : Rd w w.heap.size Ab l) (heq : tagL tag about (bodyL l) = endL l) (hbig : 9223372036854775807 < num ((bodyL l).take 8)) :
    Calls Tryz.prog 15 #[.slice Ae ne ce, .slice At nt ct, .slice Aa na ca, .slice Ab L cb] w fun e w' => e = .returned (.tuple #[.slice none 0 0, .int .i64 0, .int .i64 1]) ∧ Below w.heap.size w w' := by
  have HEL := Lib.hid hel
  have HER := Lib.hid her
  have HK := Lib.hid hk
  have HTL := Lib.hid htl
  have HTR := Lib.hid htr
  have HAL := Lib.hid hal
  have HAR := Lib.hid har
  have HAM := Lib.hid ham
  have HBM := Lib.hid hbm
  have d1 : decide ((L : Int) < 24) = false := decide_eq_false (by omega)
  have d2 : decide ((65560 : Int) < (L : Int)) = false := decide_eq_false (by omega)
  obtain ⟨n, hn⟩ : ∃ n, L - 16 = n := ⟨_, rfl⟩
  have hLn : L = n + 16 := by omega
  have hbody : bodyL l = l.take n := by unfold bodyL; rw [hbl, hn]
  have hend : endL l = l.drop n := by unfold endL; rw [hbl, hn]
  obtain ⟨A1, hs1, hr1⟩ := arg_to (k := n) hbr hbl (by omega) hbc
  obtain ⟨A2, hs2, hr2⟩ := arg_from (k := n) hbr hbl (by omega) hbc
  rw [show L - n = 16 by omega] at hs2
  have hl1 : (l.take n).length = n := by rw [List.length_take]; omega
  have hl2 : (l.drop n).length = 16 := by rw [List.length_drop]; omega
  obtain ⟨A3, hs3, hr3⟩ := arg_to (c := cb) (k := 8) hr1 hl1 (by omega) (by omega)
  have hs3' : ∀ w' : World, (Instr.slice 22 (.slice A1 n cb) none (some (.int .i64 8)) none).run Tryz.prog w' = .ok (.slice A3 8 cb) w' := hs3
  obtain ⟨A4, hs4, hr4⟩ := arg_from (c := cb) (k := 8) hr1 hl1 (by omega) (by omega)
  have hs4' : ∀ w' : World, (Instr.slice 22 (.slice A1 n cb) (some (.int .i64 8)) none none).run Tryz.prog w' = .ok (.slice A4 (n - 8) (cb - 8)) w' := hs4
  obtain ⟨n8, hn8⟩ : ∃ n8, n - 8 = n8 := ⟨_, rfl⟩
  obtain ⟨c8, hc8⟩ : ∃ c8, cb - 8 = c8 := ⟨_, rfl⟩
  obtain ⟨c2, hc2⟩ : ∃ c2, cb - n = c2 := ⟨_, rfl⟩
  rw [hn8, hc8] at hs4'
  rw [hc2] at hs2
  have hlen3 : ((l.take n).take 8).length = 8 := by rw [List.length_take, hl1]; omega
  have hlen4 : ((l.take n).drop 8).length = n8 := by rw [List.length_drop, hl1]; exact hn8
  obtain ⟨B8, hB8⟩ : ∃ B8, (l.take n).take 8 = B8 := ⟨_, rfl⟩
  obtain ⟨BD, hBD⟩ : ∃ BD, (l.take n).drop 8 = BD := ⟨_, rfl⟩
  obtain ⟨BO, hBO⟩ : ∃ BO, l.take n = BO := ⟨_, rfl⟩
  obtain ⟨BE, hBE⟩ : ∃ BE, l.drop n = BE := ⟨_, rfl⟩
  rw [hB8] at hr3 hlen3
  rw [hBD] at hr4 hlen4
  rw [hBO] at hr1 hl1 hbody
  rw [hBE] at hr2 hl2 hend
  have hsub : (L : Int) - 16 = (n : Int) := by omega
  have hsubw : IntKind.i64.wrap ((L : Int) - 16) = (n : Int) := by rw [hsub]; exact i64_wraps _ (by omega) (by omega)
  have HR1 := Lib.hid hr1
  have HR2 := Lib.hid hr2
  have HR3 := Lib.hid hr3
  have HR4 := Lib.hid hr4
  have HL1 := Lib.hid hl1
  have HL2 := Lib.hid hl2
  have HL3 := Lib.hid hlen3
  have HL4 := Lib.hid hlen4
  have HBODY := Lib.hid hbody
  have HEND := Lib.hid hend
  have HE8 := Lib.hid (show (bodyL l).take 8 = B8 by rw [hbody, ← hBO]; exact hB8)
  have HED := Lib.hid (show (bodyL l).drop 8 = BD by rw [hbody, ← hBO]; exact hBD)
  have HC2 := Lib.hid (show 16 ≤ c2 by omega)
  have n24 : 8 ≤ n ∧ n ≤ 65544 := by omega
  have HN8 := Lib.hid (show n8 ≤ 65536 by omega)
  have HNC := Lib.hid (show n ≤ cb by omega)
  have HS := Lib.hid (show decide (tagL tag about BO = BE) = true by rw [hbody, hend] at heq; exact decide_eq_true heq)
  have HBIG := Lib.hid (show 9223372036854775807 < num B8 by rw [← HE8.out]; exact hbig)
  clear heq hbig
  clear hel her hk htl htr hal har ham hbm hbl hL24 hL6 hbc hbr hn hbody hend hs3 hs4 hr1 hr2 hr3 hr4 hl1 hl2 hlen3 hlen4 hn8 hc8 hc2 hB8 hBD hBO hBE hsub hLn
  go_enter Tryz.func15, Tryz.ntmps15
  go_wp2_with fail
  refine (key_yes Ae ne ce enc w w.heap.size (Nat.le_refl _) HEL.out HER.out HK.out).mono ?_
  rintro e w1 ⟨rfl, hb1⟩
  have hz1 := hb1.size
  have HB1 := Lib.hid hb1
  clear hb1
  go_wp2_with fail
  go_quiet (fail)
  have hbq := below_drewN w1.heap.size w1 nq
  generalize w1.drewN nq = wq at hbq ⊢
  have hzq := hbq.size
  have HBQ := Lib.hid (HB1.out.trans (hbq.mono hz1))
  clear hbq d1 d2 hsubw hs1 hs2
  go_wp2_with fail
  have hs8 : (8 : Nat) ≤ 8 := Nat.le_refl _
  go_loopw [43, 13] (fun iv av wr => ∃ (i a : Nat), i ≤ 8 ∧ iv = .int .i64 (i : Int) ∧ av = .int .u64 (a : Int) ∧ a = num (B8.take i) ∧ Below wq.heap.size wq wr) (fun iv _ _ => 8 - (intOf iv).toNat)
  case atStart => exact ⟨0, 0, by omega, rfl, rfl, by simp [num], Below.refl _ _⟩
  case round =>
    obtain ⟨i, a, hi, rfl, rfl, ha, hb⟩ := hrel
    have HA := Lib.hid ha
    have HB := Lib.hid hb
    clear ha hb
    by_cases hlt : i < 8
    · obtain ⟨ad3, hA3, hab3, hac3⟩ := rd_some2 HR3.out (by rw [HL3.out]; omega)
      subst hA3
      have x3 := ((HBQ.out.trans (HB.out.mono HBQ.out.size)).cell (p := ad3.add i) (by rw [add_block]; exact hab3)).trans (hac3 i (by rw [HL3.out]; exact hlt))
      have hst := num_step (l := B8) (i := i) (by rw [HL3.out]; exact hlt)
      rw [← HA.out] at hst
      have hlt2 := num_lt B8 i (by rw [HL3.out]; omega)
      rw [← HA.out] at hlt2
      have h56 : a < 72057594037927936 := Nat.lt_of_lt_of_le hlt2 (Nat.pow_le_pow_right (by omega) (show i ≤ 7 by omega))
      have hor := or_step a (B8.getD i 0).toNat h56 (B8.getD i 0).toNat_lt
      have hc256 := (B8.getD i 0).toNat_lt
      rw [Aes.bv_int] at x3
      generalize (B8.getD i 0).toNat = y at *
      obtain ⟨a2, ha2⟩ : ∃ a2, 256 * a + y = a2 := ⟨_, rfl⟩
      rw [ha2] at hst hor
      have HST := Lib.hid hst
      have hor2 : bits BinOp.or IntKind.u64 (256 * (a : Int)) ((y : Nat) : Int) = ((a2 : Nat) : Int) := by rw [show (256 * (a : Int)) = ((256 * a : Nat) : Int) by omega]; exact hor
      have hor3 : bits BinOp.or IntKind.u64 ((a : Int) * 256) ((y : Nat) : Int) = ((a2 : Nat) : Int) := by rw [Int.mul_comm]; exact hor2
      clear hor hor2
      have h64 : 256 * a < 18446744073709551616 := by omega
      have ii : (i : Int) < 8 := by omega
      clear hst hlt2 hac3
      go_wp2_with fail
      go_roundw
      case rel => exact ⟨i + 1, a2, by omega, by go_num, by rfl, HST.out.symm, HB.out⟩
      case measure => simp [intOf] <;> omega
    · have hi8 : i = 8 := by omega
      subst hi8
      have hnum : a = num B8 := by rw [HA.out, List.take_of_length_le (by rw [HL3.out]; exact Nat.le_refl _)]
      have hnl : a < 18446744073709551616 := by
        have := num_lt B8 8 (by rw [HL3.out]; exact Nat.le_refl _)
        rw [← HA.out] at this
        exact this
      have HBR := Lib.hid (HBQ.out.trans (HB.out.mono HBQ.out.size))
      have hzr := HBR.out.size
      have HNUM := Lib.hid hnum
      clear hnum HA HB
      go_wp2_with fail
      have hq := parts_new (w := wr) (S := fun k => k < wr.heap.size) (T' := fun x => x < (wr.alloc (.cells #[.slice A1 n cb] 22)).heap.size) 22 [(⟨A1, n, cb, BO⟩ : Part)]
        (by
          intro q hq
          simp only [List.mem_cons, List.not_mem_nil, or_false] at hq
          subst hq
          exact ⟨HL1.out, HNC.out, HBM.out, (HR1.out.below HBR.out).s (fun k hk => by omega)⟩) (fun _ h => h) (by simp) (fun x hx => by simp; omega)
      have hba : Below wr.heap.size wr (wr.alloc (.cells #[.slice A1 n cb] 22)) := (Below.refl _ _).alloc (Nat.le_refl _) _
      have hbwa := HBR.out.trans (hba.mono hzr)
      have hbo : bytesOf [(⟨A1, n, cb, BO⟩ : Part)] = BO := by simp [bytesOf]
      refine (tagged_any At nt ct tag Aa na ca about _ 1 1 _ _ HTL.out ht30 (rd_now HTR.out hbwa) HAL.out ha30 hac HAM.out (rd_now HAR.out hbwa) hq rfl (by omega) (by rw [hbo, HL1.out]; omega)).mono ?_
      rw [hbo]
      rintro e w5 ⟨g5, c5, rfl, hr5, hcn5, hcm5, hgb5, hb5⟩
      have HB5 := Lib.hid (hbwa.trans (hb5.mono hbwa.size))
      have HR5 := Lib.hid hr5
      clear hq hba hbwa hbo hr5 hb5 hcn5 hcm5 hgb5
      go_wp2_with fail
      refine (same_any (some ⟨g5, 0, none⟩) A2 16 c5 c2 _ _ w5 (tagL_len _ _ _) HL2.out (by omega) HR5.out (rd_now HR2.out HB5.out)).mono ?_
      rintro e w6 ⟨rfl, hb6⟩
      have HB6 := Lib.hid (HB5.out.trans (hb6.mono HB5.out.size))
      clear hb6
      have hs := HS.out
      clear HS
      rw [hs]
      have d3 : decide ((9223372036854775807 : Int) < (a : Int)) = true := decide_eq_true (by have := HBIG.out; have := HNUM.out; omega)
      clear hnl
      go_wp2_with fail
      go_ret3
      exact ⟨rfl, HB6.out⟩
set_option maxRecDepth 100000 in
set_option maxHeartbeats 4000000 in
theorem open_yes (Ae : Option Addr) (ne ce : Nat) (enc : List UInt8) (At : Option Addr) (nt ct : Nat) (tag : List UInt8) (Aa : Option Addr) (na ca : Nat) (about : List UInt8) (Ab : Option Addr) (L cb : Nat) (l : List UInt8) (w : World)
    (hel : enc.length = ne) (her : Rd w w.heap.size Ae enc) (hk : KeyOk enc) (htl : tag.length = nt) (ht30 : nt ≤ 1073741824) (htr : Rd w w.heap.size At tag)
    (hal : about.length = na) (ha30 : na ≤ 1073741824) (hac : na ≤ ca) (ham : ca ≤ 9223372036854775807) (har : Rd w w.heap.size Aa about) (hbl : l.length = L) (hL24 : 24 ≤ L) (hL6 : L ≤ 65560) (hbc : L ≤ cb) (hbm : cb ≤ 9223372036854775807) (hbr : Rd w w.heap.size Ab l) (hop : Opens tag about l) :
    Calls Tryz.prog 15 #[.slice Ae ne ce, .slice At nt ct, .slice Aa na ca, .slice Ab L cb] w fun e w' => ∃ v, e = .returned (.tuple #[v, .int .i64 ((num ((bodyL l).take 8) : Nat) : Int), .int .i64 0]) ∧ Own w' 5 w.heap.size v (xorS enc (num ((bodyL l).take 8)) 0 ((bodyL l).drop 8)) ∧ Below w.heap.size w w' := by
  have HEL := Lib.hid hel
  have HER := Lib.hid her
  have HK := Lib.hid hk
  have HTL := Lib.hid htl
  have HTR := Lib.hid htr
  have HAL := Lib.hid hal
  have HAR := Lib.hid har
  have HAM := Lib.hid ham
  have HBM := Lib.hid hbm
  have d1 : decide ((L : Int) < 24) = false := decide_eq_false (by omega)
  have d2 : decide ((65560 : Int) < (L : Int)) = false := decide_eq_false (by omega)
  obtain ⟨n, hn⟩ : ∃ n, L - 16 = n := ⟨_, rfl⟩
  have hLn : L = n + 16 := by omega
  have hbody : bodyL l = l.take n := by unfold bodyL; rw [hbl, hn]
  have hend : endL l = l.drop n := by unfold endL; rw [hbl, hn]
  obtain ⟨A1, hs1, hr1⟩ := arg_to (k := n) hbr hbl (by omega) hbc
  obtain ⟨A2, hs2, hr2⟩ := arg_from (k := n) hbr hbl (by omega) hbc
  rw [show L - n = 16 by omega] at hs2
  have hl1 : (l.take n).length = n := by rw [List.length_take]; omega
  have hl2 : (l.drop n).length = 16 := by rw [List.length_drop]; omega
  obtain ⟨A3, hs3, hr3⟩ := arg_to (c := cb) (k := 8) hr1 hl1 (by omega) (by omega)
  have hs3' : ∀ w' : World, (Instr.slice 22 (.slice A1 n cb) none (some (.int .i64 8)) none).run Tryz.prog w' = .ok (.slice A3 8 cb) w' := hs3
  obtain ⟨A4, hs4, hr4⟩ := arg_from (c := cb) (k := 8) hr1 hl1 (by omega) (by omega)
  have hs4' : ∀ w' : World, (Instr.slice 22 (.slice A1 n cb) (some (.int .i64 8)) none none).run Tryz.prog w' = .ok (.slice A4 (n - 8) (cb - 8)) w' := hs4
  obtain ⟨n8, hn8⟩ : ∃ n8, n - 8 = n8 := ⟨_, rfl⟩
  obtain ⟨c8, hc8⟩ : ∃ c8, cb - 8 = c8 := ⟨_, rfl⟩
  obtain ⟨c2, hc2⟩ : ∃ c2, cb - n = c2 := ⟨_, rfl⟩
  rw [hn8, hc8] at hs4'
  rw [hc2] at hs2
  have hlen3 : ((l.take n).take 8).length = 8 := by rw [List.length_take, hl1]; omega
  have hlen4 : ((l.take n).drop 8).length = n8 := by rw [List.length_drop, hl1]; exact hn8
  obtain ⟨B8, hB8⟩ : ∃ B8, (l.take n).take 8 = B8 := ⟨_, rfl⟩
  obtain ⟨BD, hBD⟩ : ∃ BD, (l.take n).drop 8 = BD := ⟨_, rfl⟩
  obtain ⟨BO, hBO⟩ : ∃ BO, l.take n = BO := ⟨_, rfl⟩
  obtain ⟨BE, hBE⟩ : ∃ BE, l.drop n = BE := ⟨_, rfl⟩
  rw [hB8] at hr3 hlen3
  rw [hBD] at hr4 hlen4
  rw [hBO] at hr1 hl1 hbody
  rw [hBE] at hr2 hl2 hend
  have hsub : (L : Int) - 16 = (n : Int) := by omega
  have hsubw : IntKind.i64.wrap ((L : Int) - 16) = (n : Int) := by rw [hsub]; exact i64_wraps _ (by omega) (by omega)
  have HR1 := Lib.hid hr1
  have HR2 := Lib.hid hr2
  have HR3 := Lib.hid hr3
  have HR4 := Lib.hid hr4
  have HL1 := Lib.hid hl1
  have HL2 := Lib.hid hl2
  have HL3 := Lib.hid hlen3
  have HL4 := Lib.hid hlen4
  have HBODY := Lib.hid hbody
  have HEND := Lib.hid hend
  have HE8 := Lib.hid (show (bodyL l).take 8 = B8 by rw [hbody, ← hBO]; exact hB8)
  have HED := Lib.hid (show (bodyL l).drop 8 = BD by rw [hbody, ← hBO]; exact hBD)
  have HC2 := Lib.hid (show 16 ≤ c2 by omega)
  have n24 : 8 ≤ n ∧ n ≤ 65544 := by omega
  have HN8 := Lib.hid (show n8 ≤ 65536 by omega)
  have HNC := Lib.hid (show n ≤ cb by omega)
  have HS := Lib.hid (show decide (tagL tag about BO = BE) = true by have := hop.1; rw [hbody, hend] at this; exact decide_eq_true this)
  have HSM := Lib.hid (show num B8 ≤ 9223372036854775807 by rw [← HE8.out]; exact hop.2)
  clear hop
  clear hel her hk htl htr hal har ham hbm hbl hL24 hL6 hbc hbr hn hbody hend hs3 hs4 hr1 hr2 hr3 hr4 hl1 hl2 hlen3 hlen4 hn8 hc8 hc2 hB8 hBD hBO hBE hsub hLn
  go_enter Tryz.func15, Tryz.ntmps15
  go_wp2_with fail
  refine (key_yes Ae ne ce enc w w.heap.size (Nat.le_refl _) HEL.out HER.out HK.out).mono ?_
  rintro e w1 ⟨rfl, hb1⟩
  have hz1 := hb1.size
  have HB1 := Lib.hid hb1
  clear hb1
  go_wp2_with fail
  go_quiet (fail)
  have hbq := below_drewN w1.heap.size w1 nq
  generalize w1.drewN nq = wq at hbq ⊢
  have hzq := hbq.size
  have HBQ := Lib.hid (HB1.out.trans (hbq.mono hz1))
  clear hbq d1 d2 hsubw hs1 hs2
  go_wp2_with fail
  have hs8 : (8 : Nat) ≤ 8 := Nat.le_refl _
  go_loopw [43, 13] (fun iv av wr => ∃ (i a : Nat), i ≤ 8 ∧ iv = .int .i64 (i : Int) ∧ av = .int .u64 (a : Int) ∧ a = num (B8.take i) ∧ Below wq.heap.size wq wr) (fun iv _ _ => 8 - (intOf iv).toNat)
  case atStart => exact ⟨0, 0, by omega, rfl, rfl, by simp [num], Below.refl _ _⟩
  case round =>
    obtain ⟨i, a, hi, rfl, rfl, ha, hb⟩ := hrel
    have HA := Lib.hid ha
    have HB := Lib.hid hb
    clear ha hb
    by_cases hlt : i < 8
    · obtain ⟨ad3, hA3, hab3, hac3⟩ := rd_some2 HR3.out (by rw [HL3.out]; omega)
      subst hA3
      have x3 := ((HBQ.out.trans (HB.out.mono HBQ.out.size)).cell (p := ad3.add i) (by rw [add_block]; exact hab3)).trans (hac3 i (by rw [HL3.out]; exact hlt))
      have hst := num_step (l := B8) (i := i) (by rw [HL3.out]; exact hlt)
      rw [← HA.out] at hst
      have hlt2 := num_lt B8 i (by rw [HL3.out]; omega)
      rw [← HA.out] at hlt2
      have h56 : a < 72057594037927936 := Nat.lt_of_lt_of_le hlt2 (Nat.pow_le_pow_right (by omega) (show i ≤ 7 by omega))
      have hor := or_step a (B8.getD i 0).toNat h56 (B8.getD i 0).toNat_lt
      have hc256 := (B8.getD i 0).toNat_lt
      rw [Aes.bv_int] at x3
      generalize (B8.getD i 0).toNat = y at *
      obtain ⟨a2, ha2⟩ : ∃ a2, 256 * a + y = a2 := ⟨_, rfl⟩
      rw [ha2] at hst hor
      have HST := Lib.hid hst
      have hor2 : bits BinOp.or IntKind.u64 (256 * (a : Int)) ((y : Nat) : Int) = ((a2 : Nat) : Int) := by rw [show (256 * (a : Int)) = ((256 * a : Nat) : Int) by omega]; exact hor
      have hor3 : bits BinOp.or IntKind.u64 ((a : Int) * 256) ((y : Nat) : Int) = ((a2 : Nat) : Int) := by rw [Int.mul_comm]; exact hor2
      clear hor hor2
      have h64 : 256 * a < 18446744073709551616 := by omega
      have ii : (i : Int) < 8 := by omega
      clear hst hlt2 hac3
      go_wp2_with fail
      go_roundw
      case rel => exact ⟨i + 1, a2, by omega, by go_num, by rfl, HST.out.symm, HB.out⟩
      case measure => simp [intOf] <;> omega
    · have hi8 : i = 8 := by omega
      subst hi8
      have hnum : a = num B8 := by rw [HA.out, List.take_of_length_le (by rw [HL3.out]; exact Nat.le_refl _)]
      have hnl : a < 18446744073709551616 := by
        have := num_lt B8 8 (by rw [HL3.out]; exact Nat.le_refl _)
        rw [← HA.out] at this
        exact this
      have HBR := Lib.hid (HBQ.out.trans (HB.out.mono HBQ.out.size))
      have hzr := HBR.out.size
      have HNUM := Lib.hid hnum
      clear hnum HA HB
      go_wp2_with fail
      have hq := parts_new (w := wr) (S := fun k => k < wr.heap.size) (T' := fun x => x < (wr.alloc (.cells #[.slice A1 n cb] 22)).heap.size) 22 [(⟨A1, n, cb, BO⟩ : Part)]
        (by
          intro q hq
          simp only [List.mem_cons, List.not_mem_nil, or_false] at hq
          subst hq
          exact ⟨HL1.out, HNC.out, HBM.out, (HR1.out.below HBR.out).s (fun k hk => by omega)⟩) (fun _ h => h) (by simp) (fun x hx => by simp; omega)
      have hba : Below wr.heap.size wr (wr.alloc (.cells #[.slice A1 n cb] 22)) := (Below.refl _ _).alloc (Nat.le_refl _) _
      have hbwa := HBR.out.trans (hba.mono hzr)
      have hbo : bytesOf [(⟨A1, n, cb, BO⟩ : Part)] = BO := by simp [bytesOf]
      refine (tagged_any At nt ct tag Aa na ca about _ 1 1 _ _ HTL.out ht30 (rd_now HTR.out hbwa) HAL.out ha30 hac HAM.out (rd_now HAR.out hbwa) hq rfl (by omega) (by rw [hbo, HL1.out]; omega)).mono ?_
      rw [hbo]
      rintro e w5 ⟨g5, c5, rfl, hr5, hcn5, hcm5, hgb5, hb5⟩
      have HB5 := Lib.hid (hbwa.trans (hb5.mono hbwa.size))
      have HR5 := Lib.hid hr5
      clear hq hba hbwa hbo hr5 hb5 hcn5 hcm5 hgb5
      go_wp2_with fail
      refine (same_any (some ⟨g5, 0, none⟩) A2 16 c5 c2 _ _ w5 (tagL_len _ _ _) HL2.out (by omega) HR5.out (rd_now HR2.out HB5.out)).mono ?_
      rintro e w6 ⟨rfl, hb6⟩
      have HB6 := Lib.hid (HB5.out.trans (hb6.mono HB5.out.size))
      clear hb6
      have hs := HS.out
      clear HS
      rw [hs]
      have d3 : decide ((9223372036854775807 : Int) < (a : Int)) = false := decide_eq_false (by have := HSM.out; have := HNUM.out; omega)
      have ha63 : a < 9223372036854775808 := by have := HSM.out; have := HNUM.out; omega
      have hcv : IntKind.i64.wrap (a : Int) = (a : Int) := i64_wraps _ (by omega) (by omega)
      have HA63 := Lib.hid ha63
      clear hnl ha63
      go_wp2_with fail
      refine (xor_yes Ae ne ce enc A4 n8 c8 BD a 0 HA63.out (by omega) w6 HEL.out (rd_now HER.out HB6.out) HK.out HL4.out HN8.out (rd_now HR4.out HB6.out)).mono ?_
      rintro e w7 ⟨v7, rfl, hO7, hb7⟩
      have HO7 := Lib.hid (hO7.mono HB6.out.size)
      have HB7 := Lib.hid (HB6.out.trans (hb7.mono HB6.out.size))
      have HAE := Lib.hid (show num ((bodyL l).take 8) = a by rw [HE8.out]; exact HNUM.out.symm)
      clear hO7 hb7
      go_wp2_with fail
      go_ret3
      exact ⟨_, (by rw [HAE.out]; rfl), (by rw [HAE.out, HED.out]; exact HO7.out), HB7.out⟩
end Go.Proofs.YtcbihjcnnfohmaaGreat.Box

/- The small case; what is short enough: contracts. -/
namespace Go.Proofs.YtcbihjcnnfohmaaGreat.Box
open Go Go.ChangeShapes Go.WideShapes Go.ChangeAt Go.RowKit Go.Proofs.YtcbihjcnnfohmaaGreat.Aes Go.Proofs.YtcbihjcnnfohmaaGreat.Str Go.Proofs.YtcbihjcnnfohmaaGreat.Mac
set_option linter.unusedVariables false
set_option linter.unusedSimpArgs false
theorem lit1 (W : World) (x : UInt8) : ∃ Wm : World, (convert 22 22 (.slice (some ⟨W.heap.size, 0, none⟩) 1 1)).run Tryz.prog (W.alloc (.cells #[.int .u8 ((x.toNat : Nat) : Int)] 5)) = .ok (.slice (some ⟨W.heap.size, 0, none⟩) 1 1) Wm ∧ Rd Wm Wm.heap.size (some ⟨W.heap.size, 0, none⟩) [x] ∧ Below W.heap.size W Wm ∧ Wm.heap.size = W.heap.size + 1 := by
  refine ⟨W.alloc (.cells (bvs [x]).toArray 5 (1, 2)), ?_, ?_, (Below.refl _ _).alloc (Nat.le_refl _) _, alloc_size _ _⟩
  · exact Lib.run_convert_bytes_const (P := Tryz.prog) W 22 5 #[.int .u8 ((x.toNat : Nat) : Int)] 1 1 Tryz.underlying22 Tryz.underlying5
  · rw [alloc_size]; exact marked_rd W _ [x] _
theorem lit3 (W : World) (x y z : UInt8) : ∃ Wm : World, (convert 22 22 (.slice (some ⟨W.heap.size, 0, none⟩) 3 3)).run Tryz.prog (W.alloc (.cells #[.int .u8 ((x.toNat : Nat) : Int), .int .u8 ((y.toNat : Nat) : Int), .int .u8 ((z.toNat : Nat) : Int)] 5)) = .ok (.slice (some ⟨W.heap.size, 0, none⟩) 3 3) Wm ∧ Rd Wm Wm.heap.size (some ⟨W.heap.size, 0, none⟩) [x, y, z] ∧ Below W.heap.size W Wm ∧ Wm.heap.size = W.heap.size + 1 := by
  refine ⟨W.alloc (.cells (bvs [x, y, z]).toArray 5 (3, 4)), ?_, ?_, (Below.refl _ _).alloc (Nat.le_refl _) _, alloc_size _ _⟩
  · exact Lib.run_convert_bytes_const (P := Tryz.prog) W 22 5 #[.int .u8 ((x.toNat : Nat) : Int), .int .u8 ((y.toNat : Nat) : Int), .int .u8 ((z.toNat : Nat) : Int)] 3 3 Tryz.underlying22 Tryz.underlying5
  · rw [alloc_size]; exact marked_rd W _ [x, y, z] _
theorem cnt5 : cntL 5 0 = [0, 0, 0, 0, 0, 0, 0, 5, 0, 0, 0, 0, 0, 0, 0, 0] := by decide
theorem padK_K0 : padK K0 = List.replicate 64 0 := by
  unfold padK kk
  rw [if_neg (by decide)]
  rfl
theorem xk_rep (c : UInt8) : xk c (List.replicate 64 0) = List.replicate 64 c := by
  unfold xk
  rw [List.map_replicate, UInt8.zero_xor]
set_option maxRecDepth 100000 in
theorem sealed_c : xorS K0 5 0 abc = [237, 111, 2] := by
  have hv : (padL K0 5 0).take 3 = [140, 13, 97] := by
    unfold padL
    rw [cnt5, show K0 = List.replicate 16 0 from rfl]
    exact val5
  have hl := padL_length K0_ok 5 0
  have e : ∀ i, i < 3 → (xorS K0 5 0 abc)[i]? = some (abc.getD i 0 ^^^ at_ (padL K0 5 0) i) := fun i hi => by
    have := xorS_get (key := K0) (nonce := 5) (a := 0) (p := abc) (i := i) hi
    rw [Nat.zero_add, Nat.div_eq_of_lt (by omega), Nat.mod_eq_of_lt (by omega)] at this
    exact this
  have hx : (xorS K0 5 0 abc).length = 3 := by rw [xorS_length]; rfl
  generalize xorS K0 5 0 abc = X at *
  generalize padL K0 5 0 = P at *
  rw [three hl] at hv
  injection hv with h0 hv
  injection hv with h1 hv
  injection hv with h2 _
  match X, hx, e with
  | [a, b, c], _, e =>
    have e0 := e 0 (by omega)
    have e1 := e 1 (by omega)
    have e2 := e 2 (by omega)
    rw [h0] at e0
    rw [h1] at e1
    rw [h2] at e2
    simp only [List.getElem?_cons_zero, List.getElem?_cons_succ, Option.some.injEq] at e0 e1 e2
    rw [e0, e1, e2]
    rfl
theorem be5 : be8 5 = [0, 0, 0, 0, 0, 0, 0, 5] := by decide
theorem be1 : be8 1 = [0, 0, 0, 0, 0, 0, 0, 1] := by decide
theorem tag_hm (a : UInt8) (b : List UInt8) : tagL K0 [a] b = (hm [a] b).take 16 := by
  unfold tagL macL hm
  rw [padK_K0, xk_rep, xk_rep, show ([a] : List UInt8).length = 1 from rfl, be1]
theorem small_ne : tagL K0 [121] (bodyL (sealL K0 K0 5 [120] abc)) ≠ endL (sealL K0 K0 5 [120] abc) := by
  rw [(body_seal _ _ _ _ _).1, (body_seal _ _ _ _ _).2, sealed_c, be5, tag_hm, tag_hm]
  exact hm_ne
set_option maxRecDepth 100000 in
set_option maxHeartbeats 2000000 in
theorem small_any (w : World) : Calls Tryz.prog 6 #[] w fun e w' => e = .returned (.bool true) ∧ Below w.heap.size w w' := by
  have hb0 : Below w.heap.size w (w.alloc (.cells (bvs K0).toArray 5)) := (Below.refl _ _).alloc (Nat.le_refl _) _
  have hk0 : Rd (w.alloc (.cells (bvs K0).toArray 5)) (w.heap.size + 1) (some ⟨w.heap.size, 0, none⟩) K0 := by
    have := (Row.new w 5 K0).rd
    simpa using this
  have HKN := Lib.hid (show (List.replicate 16 (0 : UInt8)) = K0 from rfl)
  obtain ⟨W0, hW0⟩ : ∃ W0 : World, w.alloc (.cells (bvs K0).toArray 5) = W0 := ⟨_, rfl⟩
  have HW0 := Lib.hid hW0
  have hzw : w.heap.size + 1 = W0.heap.size := by rw [← hW0, alloc_size]
  rw [hW0] at hb0 hk0
  obtain ⟨Wx, kx, hrx, hbx, hzx⟩ := lit1 W0 120
  have kx' : (convert 22 22 (.slice (some ⟨W0.heap.size, 0, none⟩) 1 1)).run Tryz.prog (W0.alloc (.cells #[.int .u8 120] 5)) = .ok (.slice (some ⟨W0.heap.size, 0, none⟩) 1 1) Wx := kx
  obtain ⟨Wm, km, hrm, hbm, hzm⟩ := lit3 Wx 97 98 99
  have km' : (convert 22 22 (.slice (some ⟨Wx.heap.size, 0, none⟩) 3 3)).run Tryz.prog (Wx.alloc (.cells #[.int .u8 97, .int .u8 98, .int .u8 99] 5)) = .ok (.slice (some ⟨Wx.heap.size, 0, none⟩) 3 3) Wm := km
  have HB0 := Lib.hid (hb0.trans ((hbx.mono (by omega)).trans (hbm.mono (by omega : w.heap.size ≤ Wx.heap.size))))
  have HK := Lib.hid (((hk0.below (hbx.mono (by omega))).below (hbm.mono (by omega))).more (by omega : w.heap.size + 1 ≤ Wm.heap.size))
  have HX := Lib.hid ((hrx.below hbm).more (by omega : Wx.heap.size ≤ Wm.heap.size))
  have HM := Lib.hid hrm
  have HZ := Lib.hid (show w.heap.size ≤ Wm.heap.size by omega)
  clear hb0 hk0 hW0 hzw kx hrx hbx hzx km hrm hbm hzm
  go_enter Tryz.func6, Tryz.ntmps6
  go_wp2_with (with_reducible refine at_slot 10 ?_
               refine wpList_make_u8 Go.Proofs.YtcbihjcnnfohmaaGreat.u8 rfl _ _ rfl .i64 .i64 _ _ 16 16 rfl rfl rfl rfl (by omega) (by omega) ?_
               rw [HKN.out, HW0.out])
  refine (seal_yes (some ⟨w.heap.size, 0, none⟩) 16 16 K0 (some ⟨w.heap.size, 0, none⟩) 16 16 K0 5 (some ⟨W0.heap.size, 0, none⟩) 1 1 [120] (some ⟨Wx.heap.size, 0, none⟩) 3 3 abc Wm rfl HK.out K0_ok rfl (by omega) HK.out (by omega) rfl (by omega) (Nat.le_refl _) (by omega) HX.out rfl (by omega) HM.out).mono ?_
  rintro e w1 ⟨g1, m1, rfl, hm1, hO1, hb1⟩
  obtain rfl : m1 = 27 := hm1
  obtain ⟨A1, c1, hv1, hr1, _⟩ := hO1.form
  injection hv1 with hv1 q1 q2
  subst hv1
  clear q1 q2
  have HR1 := Lib.hid hr1
  have HB1 := Lib.hid (HB0.out.trans (hb1.mono HZ.out))
  have HK1 := Lib.hid (rd_now HK.out hb1)
  have hz1 := hb1.size
  obtain ⟨Wy, ky, hry, hby, hzy⟩ := lit1 w1 120
  have ky' : (convert 22 22 (.slice (some ⟨w1.heap.size, 0, none⟩) 1 1)).run Tryz.prog (w1.alloc (.cells #[.int .u8 120] 5)) = .ok (.slice (some ⟨w1.heap.size, 0, none⟩) 1 1) Wy := ky
  have HBY := Lib.hid (HB1.out.trans (hby.mono HB1.out.size))
  have HKY := Lib.hid (rd_now HK1.out hby)
  have HRY := Lib.hid (rd_now HR1.out hby)
  have HY := Lib.hid hry
  clear hO1 hr1 hb1 ky hry hby hzy kx' km'
  go_wp2_with fail
  refine (open_yes (some ⟨w.heap.size, 0, none⟩) 16 16 K0 (some ⟨w.heap.size, 0, none⟩) 16 16 K0 (some ⟨w1.heap.size, 0, none⟩) 1 1 [120] (some ⟨g1, 0, none⟩) 27 27 (sealL K0 K0 5 [120] abc) Wy rfl HKY.out K0_ok rfl (by omega) HKY.out rfl (by omega) (Nat.le_refl _) (by omega) HY.out (sealL_len _ _ _ _ _) (by omega) (by omega) (Nat.le_refl _) (by omega) HRY.out (opens_seal (by omega))).mono ?_
  rw [(num_seal (enc := K0) (tag := K0) (nonce := 5) (about := [120]) (p := abc) (by omega)).1, (num_seal (enc := K0) (tag := K0) (nonce := 5) (about := [120]) (p := abc) (by omega)).2, xorS_twice]
  rintro e w2 ⟨v2, rfl, hO2, hb2⟩
  obtain ⟨A2, c2, hv2, _, hcc2⟩ := hO2.form
  rw [show abc.length = 3 from rfl] at hv2 hcc2
  subst hv2
  have HO2 := Lib.hid hO2
  have HB2 := Lib.hid (HBY.out.trans (hb2.mono HBY.out.size))
  have HK2 := Lib.hid (rd_now HKY.out hb2)
  have HR2 := Lib.hid (rd_now HRY.out hb2)
  obtain ⟨Wz, kz, hrz, hbz, hzz⟩ := lit1 w2 121
  have kz' : (convert 22 22 (.slice (some ⟨w2.heap.size, 0, none⟩) 1 1)).run Tryz.prog (w2.alloc (.cells #[.int .u8 121] 5)) = .ok (.slice (some ⟨w2.heap.size, 0, none⟩) 1 1) Wz := kz
  have HBZ := Lib.hid (HB2.out.trans (hbz.mono HB2.out.size))
  have HKZ := Lib.hid (rd_now HK2.out hbz)
  have HRZ := Lib.hid (rd_now HR2.out hbz)
  have HOZ := Lib.hid (HO2.out.below hbz)
  have HZ2 := Lib.hid hrz
  clear hO2 hb2 kz hrz hbz hzz ky'
  rw [show (((5 : Nat) : Int)) = 5 from rfl]
  go_wp2_with fail
  refine (open_tag (some ⟨w.heap.size, 0, none⟩) 16 16 K0 (some ⟨w.heap.size, 0, none⟩) 16 16 K0 (some ⟨w2.heap.size, 0, none⟩) 1 1 [121] (some ⟨g1, 0, none⟩) 27 27 (sealL K0 K0 5 [120] abc) Wz rfl HKZ.out K0_ok rfl (by omega) HKZ.out rfl (by omega) (Nat.le_refl _) (by omega) HZ2.out (sealL_len _ _ _ _ _) (by omega) (by omega) (Nat.le_refl _) (by omega) HRZ.out small_ne).mono ?_
  rintro e w3 ⟨rfl, hb3⟩
  have HB3 := Lib.hid (HBZ.out.trans (hb3.mono HBZ.out.size))
  have s2 := own_str (HOZ.out.below hb3)
  have s2' : (convert 22 9 (.slice A2 3 c2)).run Tryz.prog w3 = .ok (.string { data := #[97, 98, 99] }) w3 := s2
  have hsz := size_any 3 (by omega) (by omega)
  have HSZ := Lib.hid hsz
  clear hb3 s2 kz' hsz
  go_wp2_with (go_at_call 13
               refine (HSZ.out _).mono ?_
               rintro e w' ⟨rfl, rfl⟩
               rw [show sizeI 3 = 27 from rfl])
  go_ret
  exact ⟨rfl, HB3.out⟩
theorem fits_any (b n c : Nat) (ps : List Part) (w : World) (hn : ps.length = n) (hnm : n ≤ 1048576) (hcell : ∀ j (hj : j < ps.length), w.cell? ⟨b, j, none⟩ = some ps[j].val) (r : Bool) (hr : r = decide (∀ p ∈ ps, p.n ≤ 1024)) :
    Calls Tryz.prog 7 #[.slice (some ⟨b, 0, none⟩) n c] w fun e w' => e = .returned (.bool r) ∧ w = w' := by
  have HN := Lib.hid hn
  have HC := Lib.hid hcell
  have HR := Lib.hid hr
  clear hn hcell hr
  go_enter Tryz.func7, Tryz.ntmps7
  go_wp2_with fail
  go_loop [3] (fun iv => ∃ i : Nat, i ≤ n ∧ iv = .int .i64 (i : Int) ∧ ∀ j (hj : j < ps.length), j < i → ps[j].n ≤ 1024) (fun iv => 2000000 - (intOf iv).toNat)
  case atStart => exact ⟨0, by omega, rfl, fun j hj h => by omega⟩
  case round =>
    obtain ⟨i, hi, rfl, ha⟩ := hrel
    have HA := Lib.hid ha
    clear ha
    by_cases hlt : i < n
    · have hip : i < ps.length := by rw [HN.out]; exact hlt
      have x0 := HC.out i hip
      have hii : (i : Int) < (n : Int) := by omega
      by_cases hbig : 1024 < ps[i].n
      · have hrf : r = false := by
          rw [HR.out]
          exact decide_eq_false (fun h => by have := h ps[i] (List.getElem_mem hip); omega)
        have HRF := Lib.hid hrf
        clear hrf
        generalize ps[i] = p at *
        obtain ⟨pA, pn, pc, pl⟩ := p
        simp only [Part.val] at x0 hbig
        have d1 : decide ((1024 : Int) < (pn : Int)) = true := decide_eq_true (by omega)
        clear hbig
        go_wp2_with fail
        go_ret
        exact ⟨by rw [HRF.out]; rfl, rfl⟩
      · have HA2 := Lib.hid (show ∀ j (hj : j < ps.length), j < i + 1 → ps[j].n ≤ 1024 from fun j hj h => by
          rcases Nat.lt_or_ge j i with h1 | h1
          · exact HA.out j hj h1
          · obtain rfl : j = i := by omega
            omega)
        generalize ps[i] = p at *
        obtain ⟨pA, pn, pc, pl⟩ := p
        simp only [Part.val] at x0 hbig
        have d1 : decide ((1024 : Int) < (pn : Int)) = false := decide_eq_false (by omega)
        clear hbig
        go_wp2_with fail
        go_round
        case rel => exact ⟨i + 1, by omega, by go_num, HA2.out⟩
        case measure => simp [intOf] <;> omega
    · have hin : i = n := by omega
      subst hin
      have hrt : r = true := by
        rw [HR.out]
        refine decide_eq_true (fun p hp => ?_)
        obtain ⟨j, hj, rfl⟩ := List.getElem_of_mem hp
        exact HA.out j hj (by rw [← HN.out]; exact hj)
      have HRT := Lib.hid hrt
      clear hrt
      go_wp2_with fail
      go_ret
      exact ⟨by rw [HRT.out]; rfl, rfl⟩
theorem lits_cell {w : World} (T : TypeId) (ps : List Part) : ∀ j (hj : j < ps.length), (w.alloc (.cells (ps.map Part.val).toArray T)).cell? ⟨w.heap.size, j, none⟩ = some ps[j].val := fun j hj => by
  rw [cell_of_row _ _ j _ T (0, 0) (heap_alloc_new w _)]
  simp [hj]
end Go.Proofs.YtcbihjcnnfohmaaGreat.Box

/- Lemmas for this layer's statements. -/
namespace Go.Proofs.YtcbihjcnnfohmaaGreat.Box
open Go Go.ChangeShapes Go.WideShapes Go.ChangeAt Go.RowKit Go.Proofs.YtcbihjcnnfohmaaGreat.Aes Go.Proofs.YtcbihjcnnfohmaaGreat.Str Go.Proofs.YtcbihjcnnfohmaaGreat.Mac
set_option linter.unusedVariables false
theorem ownb_rd {w : World} {base n c : Nat} {A : Option Addr} {l : List UInt8} (h : OwnB w 5 base (.slice A n c) l) : Rd w w.heap.size A l := by
  obtain ⟨A', c', e, hr, _⟩ := h.form
  injection e with e1 e2 e3
  subst e1
  exact hr
theorem sizeI_nat {k : Nat} (h : k ≤ 65536) : sizeI (k : Int) = 24 + (k : Int) := by unfold sizeI; rw [if_neg (by omega)]
theorem body8_len {l : List UInt8} {k : Nat} (h : l.length = 24 + k) : ((bodyL l).drop 8).length = k := by
  unfold bodyL
  rw [List.length_drop, List.length_take]; omega
theorem not_opens {tag about b : List UInt8} (h : ¬ Opens tag about b) (ht : tagL tag about (bodyL b) = endL b) : 9223372036854775807 < num ((bodyL b).take 8) := by
  rcases Nat.lt_or_ge 9223372036854775807 (num ((bodyL b).take 8)) with h1 | h1
  · exact h1
  · exact absurd ⟨ht, h1⟩ h
end Go.Proofs.YtcbihjcnnfohmaaGreat.Box
