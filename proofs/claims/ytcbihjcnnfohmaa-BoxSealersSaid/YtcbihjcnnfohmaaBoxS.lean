/- Sealing: contracts. -/
import Derived.Test.YtcbihjcnnfohmaaBoxT
namespace Go.Proofs.Ytcbihjcnnfohmaa.Box
open Go Go.ChangeShapes Go.WideShapes Go.ChangeAt Go.RowKit Go.Proofs.Ytcbihjcnnfohmaa.Aes Go.Proofs.Ytcbihjcnnfohmaa.Str Go.Proofs.Ytcbihjcnnfohmaa.Mac
set_option linter.unusedVariables false
set_option linter.unusedSimpArgs false
/-- sealed bytes -/
def sealL (enc tag : List UInt8) (nonce : Nat) (about p : List UInt8) : List UInt8 :=
  be8 nonce ++ (xorS enc nonce 0 p ++ tagL tag about (be8 nonce ++ xorS enc nonce 0 p))
theorem sealL_len (enc tag : List UInt8) (nonce : Nat) (about p : List UInt8) : (sealL enc tag nonce about p).length = 24 + p.length := by
  unfold sealL
  rw [List.length_append, List.length_append, b8_len, xorS_length, tagL_len]; omega
set_option maxRecDepth 100000 in
set_option maxHeartbeats 4000000 in
theorem seal_yes (Ae : Option Addr) (ne ce : Nat) (enc : List UInt8) (At : Option Addr) (nt ct : Nat) (tag : List UInt8) (nonce : Nat) (Aa : Option Addr) (na ca : Nat) (about : List UInt8) (Ap : Option Addr) (np cp : Nat) (p : List UInt8) (w : World)
    (hel : enc.length = ne) (her : Rd w w.heap.size Ae enc) (hk : KeyOk enc) (htl : tag.length = nt) (ht30 : nt ≤ 1073741824) (htr : Rd w w.heap.size At tag) (hnc : nonce < 9223372036854775808)
    (hal : about.length = na) (ha30 : na ≤ 1073741824) (hac : na ≤ ca) (ham : ca ≤ 9223372036854775807) (har : Rd w w.heap.size Aa about) (hpl : p.length = np) (hp6 : np ≤ 65536) (hpr : Rd w w.heap.size Ap p) :
    Calls Try.prog 35 #[.slice Ae ne ce, .slice At nt ct, .int .i64 (nonce : Int), .slice Aa na ca, .slice Ap np cp] w fun e w' => ∃ g m, e = .returned (.tuple #[.slice (some ⟨g, 0, none⟩) m m, .int .i64 0]) ∧ m = 24 + np ∧ OwnB w' 5 w.heap.size (.slice (some ⟨g, 0, none⟩) m m) (sealL enc tag nonce about p) ∧ Below w.heap.size w w' := by
  have HEL := Lib.hid hel
  have HER := Lib.hid her
  have HK := Lib.hid hk
  have HTL := Lib.hid htl
  have HTR := Lib.hid htr
  have HNC := Lib.hid hnc
  have HAL := Lib.hid hal
  have HAR := Lib.hid har
  have HPL := Lib.hid hpl
  have HPR := Lib.hid hpr
  have HAM := Lib.hid ham
  clear hel her hk htl htr hnc hal har hpl hpr ham
  go_enter Try.func35, Try.ntmps35
  go_wp2_with fail
  refine (xor_yes Ae ne ce enc Ap np cp p nonce 0 HNC.out (by omega) w HEL.out HER.out HK.out HPL.out hp6 HPR.out).mono ?_
  rintro e w1 ⟨v1, rfl, hO1, hb1⟩
  obtain ⟨A1, c1, hv1, hr1, hc1⟩ := hO1.form
  obtain ⟨_, _, hcm1⟩ := Sha.own_len (show Own w1 5 w.heap.size (.slice A1 (xorS enc nonce 0 p).length c1) (xorS enc nonce 0 p) by rw [← hv1]; exact hO1)
  rw [xorS_length, HPL.out] at hv1 hc1
  subst hv1
  have hz1 := hb1.size
  have HB1 := Lib.hid hb1
  have HR1 := Lib.hid hr1
  obtain ⟨C, hC⟩ : ∃ C, xorS enc nonce 0 p = C := ⟨_, rfl⟩
  have HCE := Lib.hid hC
  have HCL := Lib.hid (show C.length = np by rw [← hC, xorS_length]; exact HPL.out)
  rw [hC] at HR1
  clear hO1 hb1 hr1 hC
  go_wp2_with fail
  refine (boxeight_any nonce w1).mono ?_
  rintro e w2 ⟨rfl, hg2, hb2⟩
  have hz2 : w1.heap.size + 1 ≤ w2.heap.size := Aes.RowV.lt hg2
  have HG2 := Lib.hid (Aes.row_rd hg2)
  have HR2 := Lib.hid (HR1.out.below hb2)
  have HB2 := Lib.hid (HB1.out.trans (hb2.mono hz1))
  have HCM := Lib.hid hcm1
  clear hg2 hb2 hcm1
  go_wp2_with fail
  have hq3 := parts_new (w := w2) (S := fun k => k < w2.heap.size) (T' := fun x => x < (w2.alloc (.cells #[.slice (some ⟨w1.heap.size, 0, none⟩) 8 8, .slice A1 np c1] 22)).heap.size) 22 [(⟨some ⟨w1.heap.size, 0, none⟩, 8, 8, be8 nonce⟩ : Part), ⟨A1, np, c1, C⟩]
    (by
      intro q hq
      simp only [List.mem_cons, List.not_mem_nil, or_false] at hq
      rcases hq with rfl | rfl
      · exact ⟨b8_len _, Nat.le_refl _, (by show 8 ≤ 9223372036854775807; omega), HG2.out.s (fun _ h => h)⟩
      · exact ⟨HCL.out, hc1, HCM.out, HR2.out.s (fun k hk => by omega)⟩) (fun _ h => h) (by simp) (fun x hx => by simp; omega)
  have hba : Below w2.heap.size w2 (w2.alloc (.cells #[.slice (some ⟨w1.heap.size, 0, none⟩) 8 8, .slice A1 np c1] 22)) := (Below.refl _ _).alloc (Nat.le_refl _) _
  have hbwa := HB2.out.trans (hba.mono HB2.out.size)
  have hboc : bytesOf [(⟨some ⟨w1.heap.size, 0, none⟩, 8, 8, be8 nonce⟩ : Part), ⟨A1, np, c1, C⟩] = be8 nonce ++ C := by simp [bytesOf]
  refine (tagged_any At nt ct tag Aa na ca about _ 2 2 _ _ HTL.out ht30 (rd_now HTR.out hbwa) HAL.out ha30 hac HAM.out (rd_now HAR.out hbwa) hq3 rfl (by omega) (by rw [hboc, List.length_append, b8_len, HCL.out]; omega)).mono ?_
  rw [hboc]
  rintro e w3 ⟨g3, c3, rfl, hr3, hcn3, hcm3, hgb3, hb3⟩
  have hz3 : w2.heap.size + 1 ≤ w3.heap.size := by have := hb3.size; simpa using this
  have hb23 : Below w2.heap.size w2 w3 := hba.trans (hb3.mono (by simp))
  have HB3 := Lib.hid (HB2.out.trans (hb23.mono HB2.out.size))
  have HG3 := Lib.hid ((HG2.out.below hb23).more (by omega : w2.heap.size ≤ w3.heap.size))
  have HC3 := Lib.hid ((HR2.out.below (hb23.mono (by omega : w1.heap.size ≤ w2.heap.size))).more (by omega : w1.heap.size ≤ w3.heap.size))
  have HR3 := Lib.hid hr3
  have HN3 := Lib.hid (And.intro hcn3 hcm3)
  clear hq3 hba hbwa hboc hr3 hcn3 hcm3 hb3 hb23
  go_wp2_with fail
  obtain ⟨TG, hTG⟩ : ∃ TG, tagL tag about (be8 nonce ++ C) = TG := ⟨_, rfl⟩
  have HTG := Lib.hid hTG
  have HTGL := Lib.hid (show TG.length = 16 by rw [← hTG]; exact tagL_len _ _ _)
  rw [hTG] at HR3
  have hq4 := parts_new (w := w3) (S := fun k => k < w3.heap.size) (T' := fun x => x < (w3.alloc (.cells #[.slice (some ⟨w1.heap.size, 0, none⟩) 8 8, .slice A1 np c1, .slice (some ⟨g3, 0, none⟩) 16 c3] 22)).heap.size) 22 [(⟨some ⟨w1.heap.size, 0, none⟩, 8, 8, be8 nonce⟩ : Part), ⟨A1, np, c1, C⟩, ⟨some ⟨g3, 0, none⟩, 16, c3, TG⟩]
    (by
      intro q hq
      simp only [List.mem_cons, List.not_mem_nil, or_false] at hq
      rcases hq with rfl | rfl | rfl
      · exact ⟨b8_len _, Nat.le_refl _, (by show 8 ≤ 9223372036854775807; omega), HG3.out.s (fun _ h => h)⟩
      · exact ⟨HCL.out, hc1, HCM.out, HC3.out.s (fun _ h => h)⟩
      · exact ⟨HTGL.out, HN3.out.1, HN3.out.2, HR3.out.s (fun _ h => h)⟩) (fun _ h => h) (by simp) (fun x hx => by simp; omega)
  have hboj : bytesOf [(⟨some ⟨w1.heap.size, 0, none⟩, 8, 8, be8 nonce⟩ : Part), ⟨A1, np, c1, C⟩, ⟨some ⟨g3, 0, none⟩, 16, c3, TG⟩] = be8 nonce ++ (C ++ TG) := by simp [bytesOf]
  have htot : (be8 nonce ++ (C ++ TG)).length = 24 + np := by rw [List.length_append, List.length_append, b8_len, HCL.out, HTGL.out]; omega
  refine (join_any w3.heap.size 3 3 _ _ (by omega) rfl (Nat.le_refl _) (by omega) hq4 (by rw [hboj, htot]; omega) (fun k hk => by
    rw [hboj, htot]
    have : k = 0 ∨ k = 1 ∨ k = 2 := by omega
    rcases this with rfl | rfl | rfl
    · simp [bytesOf] <;> omega
    · simp [bytesOf, b8_len] <;> omega
    · simp [bytesOf, b8_len, HCL.out] <;> omega)).mono ?_
  rw [hboj, htot]
  rintro e w4 ⟨g4, m4, rfl, hm4, hO4, hb4⟩
  subst hm4
  have hb34 : Below w3.heap.size w3 w4 := ((Below.refl _ _).alloc (Nat.le_refl _) _).trans (hb4.mono (by simp))
  have HB4 := Lib.hid (HB3.out.trans (hb34.mono HB3.out.size))
  have HO4 := Lib.hid (show OwnB w4 5 w.heap.size (.slice (some ⟨g4, 0, none⟩) (24 + np) (24 + np)) (sealL enc tag nonce about p) by
    unfold sealL
    rw [HCE.out, HTG.out]
    exact OwnV.mono hO4 (fun k hk => Nat.le_trans (Nat.le_trans HB3.out.size (by simp)) (OwnV.lt hO4 k hk).1))
  clear hq4 hboj htot hO4 hb4 hb34
  go_wp2_with fail
  go_ret2
  exact ⟨g4, _, rfl, rfl, HO4.out, HB4.out⟩
set_option maxRecDepth 100000 in
set_option maxHeartbeats 1000000 in
theorem seal_no1 (Ae : Option Addr) (ne ce : Nat) (enc : List UInt8) (At : Option Addr) (nt ct : Nat) (nonce : Int) (Aa : Option Addr) (na ca : Nat) (Ap : Option Addr) (np cp : Nat) (w : World)
    (hel : enc.length = ne) (her : Rd w w.heap.size Ae enc) (hnm : nonce < 9223372036854775808) (h : ¬ KeyOk enc ∨ nonce < 0) :
    Calls Try.prog 35 #[.slice Ae ne ce, .slice At nt ct, .int .i64 nonce, .slice Aa na ca, .slice Ap np cp] w fun e w' => e = .returned (.tuple #[.slice none 0 0, .int .i64 1]) ∧ Below w.heap.size w w' := by
  have HEL := Lib.hid hel
  have HER := Lib.hid her
  have H := Lib.hid (show ¬ KeyOk enc ∨ nonce < 0 ∨ (0 : Int) < 0 from h.imp id .inl)
  have HNM := Lib.hid hnm
  clear hel her h hnm
  go_enter Try.func35, Try.ntmps35
  go_wp2_with fail
  refine (xor_no1 Ae ne ce enc Ap np cp nonce 0 w HEL.out HER.out HNM.out H.out).mono ?_
  rintro e w1 ⟨rfl, hb1⟩
  have HB1 := Lib.hid hb1
  clear hb1
  go_wp2_with fail
  go_ret2
  exact ⟨rfl, HB1.out⟩
set_option maxRecDepth 100000 in
set_option maxHeartbeats 1000000 in
theorem seal_no2 (Ae : Option Addr) (ne ce : Nat) (enc : List UInt8) (At : Option Addr) (nt ct : Nat) (nonce : Nat) (Aa : Option Addr) (na ca : Nat) (Ap : Option Addr) (np cp : Nat) (w : World)
    (hel : enc.length = ne) (her : Rd w w.heap.size Ae enc) (hk : KeyOk enc) (hnm : nonce < 9223372036854775808) (h : 65536 < np) :
    Calls Try.prog 35 #[.slice Ae ne ce, .slice At nt ct, .int .i64 (nonce : Int), .slice Aa na ca, .slice Ap np cp] w fun e w' => e = .returned (.tuple #[.slice none 0 0, .int .i64 2]) ∧ Below w.heap.size w w' := by
  have HEL := Lib.hid hel
  have HER := Lib.hid her
  have HK := Lib.hid hk
  have HNM := Lib.hid hnm
  have H := Lib.hid h
  clear hel her h hnm hk
  go_enter Try.func35, Try.ntmps35
  go_wp2_with fail
  refine (xor_no2 Ae ne ce enc Ap np cp nonce 0 w HEL.out HER.out HK.out (by have := HNM.out; omega) (.inl H.out)).mono ?_
  rintro e w1 ⟨rfl, hb1⟩
  have HB1 := Lib.hid hb1
  clear hb1
  go_wp2_with fail
  go_ret2
  exact ⟨rfl, HB1.out⟩
end Go.Proofs.Ytcbihjcnnfohmaa.Box
