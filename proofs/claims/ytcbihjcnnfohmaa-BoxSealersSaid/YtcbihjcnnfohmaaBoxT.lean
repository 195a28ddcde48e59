/- The tag of what is sealed so far: contract. -/
import Derived.Test.YtcbihjcnnfohmaaBoxJ
namespace Go.Proofs.Ytcbihjcnnfohmaa.Box
open Go Go.ChangeShapes Go.WideShapes Go.ChangeAt Go.RowKit Go.Proofs.Ytcbihjcnnfohmaa.Aes Go.Proofs.Ytcbihjcnnfohmaa.Str Go.Proofs.Ytcbihjcnnfohmaa.Mac
set_option linter.unusedVariables false
set_option linter.unusedSimpArgs false
/-- the tag -/
def tagL (tag about b : List UInt8) : List UInt8 := (macL tag (be8 about.length ++ (about ++ b))).take 16
theorem tagL_len (tag about b : List UInt8) : (tagL tag about b).length = 16 := by unfold tagL; rw [List.length_take, macL_len]; rfl
theorem ownv_row {w : World} {e : TypeId} {base g : Nat} {xs : List Value} (h : Aes.RowV w e g xs) (hb : base ≤ g) {n : Nat} (hn : xs.length = n) (hm : n ≤ 9223372036854775807) : OwnV w e base (.slice (some ⟨g, 0, none⟩) n n) xs := by
  subst hn
  exact .inr ⟨g, 0, xs.length, xs.toArray, rfl, hb, h, Nat.le_refl _, by simp only [maxLen]; omega, by simp, by simp⟩
set_option maxRecDepth 100000 in
set_option maxHeartbeats 4000000 in
theorem tagged_any (At : Option Addr) (nt ct : Nat) (tag : List UInt8) (Aa : Option Addr) (na ca : Nat) (about : List UInt8) (Ap : Option Addr) (np cp : Nat) (ps : List Part) (w : World)
    (htl : tag.length = nt) (ht30 : nt ≤ 1073741824) (htr : Rd w w.heap.size At tag) (hal : about.length = na) (ha30 : na ≤ 1073741824) (hac : na ≤ ca) (ham : ca ≤ 9223372036854775807) (har : Rd w w.heap.size Aa about)
    (hps : PartsS w (fun k => k < w.heap.size) Ap ps) (hpn : ps.length = np) (hp20 : np ≤ 1048576) (hsz : (bytesOf ps).length ≤ 1073741824) :
    Calls Try.prog 60 #[.slice At nt ct, .slice Aa na ca, .slice Ap np cp] w fun e w' => ∃ g c, e = .returned (.slice (some ⟨g, 0, none⟩) 16 c) ∧ Rd w' w'.heap.size (some ⟨g, 0, none⟩) (tagL tag about (bytesOf ps)) ∧ 16 ≤ c ∧ c ≤ 9223372036854775807 ∧ w.heap.size ≤ g ∧ Below w.heap.size w w' := by
  have HTL := Lib.hid htl
  have HTR := Lib.hid htr
  have HAL := Lib.hid hal
  have HAR := Lib.hid har
  have HPS := Lib.hid hps
  have HPN := Lib.hid hpn
  have HSZ := Lib.hid hsz
  have HAM := Lib.hid ham
  clear htl htr hal har hps hpn hsz ham
  go_enter Try.func60, Try.ntmps60
  go_wp2_with fail
  refine (boxeight_any na w).mono ?_
  rintro e w1 ⟨rfl, hg1, hb1⟩
  have hz1 : w.heap.size + 1 ≤ w1.heap.size := Aes.RowV.lt hg1
  have hO := ownv_row (w := w1.alloc (.cells #[.slice (some ⟨w.heap.size, 0, none⟩) 8 8, .slice Aa na ca] 22)) (base := w1.heap.size) (xs := [.slice (some ⟨w.heap.size, 0, none⟩) 8 8, .slice Aa na ca]) (heap_alloc_new w1 _) (Nat.le_refl _) (n := 2) rfl (by omega)
  have hba : Below w1.heap.size w1 (w1.alloc (.cells #[.slice (some ⟨w.heap.size, 0, none⟩) 8 8, .slice Aa na ca] 22)) := (Below.refl _ _).alloc (Nat.le_refl _) _
  have hpsa := HPS.out.frame (Frame.of_below (hb1.trans (hba.mono hb1.size)) (fun k hk => hk))
  have hsrc : 0 < np → ∃ ad, Ap = some ad ∧ ∀ j u, (ps.map Part.val)[j]? = some u → (w1.alloc (.cells #[.slice (some ⟨w.heap.size, 0, none⟩) 8 8, .slice Aa na ca] 22)).cell? (ad.add j) = some u := fun h0 => by
    obtain ⟨ad, e, _, hc⟩ := hpsa.at_ (by rw [HPN.out]; exact h0)
    refine ⟨ad, e, fun j u hj => ?_⟩
    rw [List.getElem?_map] at hj
    obtain ⟨p, hp, rfl⟩ := Option.map_eq_some_iff.1 hj
    obtain ⟨hlt, rfl⟩ := List.getElem?_eq_some_iff.1 hp
    exact hc j hlt
  have h1 : ∀ u ∈ ps.map Part.val, u.oneCell' = true := fun u hu => by
    obtain ⟨p, _, rfl⟩ := List.mem_map.1 hu
    exact Aes.slice_one _ _ _
  have HO := Lib.hid hO
  have HSRC := Lib.hid hsrc
  have H1 := Lib.hid h1
  have HG1 := Lib.hid hg1
  have HB1 := Lib.hid hb1
  have HBA := Lib.hid hba
  have HML := Lib.hid (show (ps.map Part.val).length = np by rw [List.length_map]; exact HPN.out)
  clear hO hsrc h1 hg1 hb1 hba hpsa
  go_wp2_with (with_reducible refine at_slot 14 ?_
               refine wpList_append_v Aes.eqv rfl (.tmp 12) (.tmp 13) rfl w1.heap.size _ [.slice (some ⟨w.heap.size, 0, none⟩) 8 8, .slice Aa na ca] _ np cp (ps.map Part.val) rfl rfl HO.out HML.out HSRC.out H1.out (by show (2 + np) * 24 ≤ _; omega) (by show 2 + np ≤ _; omega) (by simp) ?_
               intro v4 w4 hO4 hg4 hat4
               have hb14 : Below w1.heap.size w1 w4 := HBA.out.grown hg4 (by simp) (fun x hx => (HO.out.lt x hx).1)
               obtain ⟨A4, c4, hv4, hc4⟩ : ∃ A c, v4 = .slice A (2 + np) c ∧ 2 + np ≤ c := by
                 obtain ⟨A, c, e, h, _, _⟩ := hO4.len
                 rw [List.length_append, HML.out] at e h
                 exact ⟨A, c, e, h⟩
               subst hv4
               have HO4 := Lib.hid hO4
               have HB14 := Lib.hid hb14
               have hz4 := hb14.size
               clear hO4 hg4 hat4 hb14)
  have hbw4 := HB1.out.trans (HB14.out.mono HB1.out.size)
  have hq : PartsS w4 (fun k => k < w4.heap.size) A4 ((⟨some ⟨w.heap.size, 0, none⟩, 8, 8, be8 na⟩ : Part) :: ⟨Aa, na, ca, about⟩ :: ps) := by
    refine own_parts (e := 22) (base := w1.heap.size) (n := 2 + np) (c := c4) HO4.out (fun k _ h => h) (fun p hp => ?_)
    simp only [List.mem_cons] at hp
    rcases hp with rfl | rfl | hp
    · exact ⟨b8_len na, Nat.le_refl _, (by show 8 ≤ 9223372036854775807; omega), ((Aes.row_rd HG1.out).below HB14.out).s (fun k hk => by omega)⟩
    · exact ⟨HAL.out, hac, HAM.out, (HAR.out.below hbw4).s (fun k hk => by omega)⟩
    · obtain ⟨p1, p2, p3, p4⟩ := HPS.out.part p hp
      exact ⟨p1, p2, p3, (p4.frame (Frame.of_below hbw4 (fun k hk => hk))).mono (fun k hk => by omega)⟩
  have hbo : bytesOf ((⟨some ⟨w.heap.size, 0, none⟩, 8, 8, be8 na⟩ : Part) :: ⟨Aa, na, ca, about⟩ :: ps) = be8 na ++ (about ++ bytesOf ps) := by simp [bytesOf]
  refine (mac_any At nt ct tag w4 HTL.out (by omega) (rd_now HTR.out hbw4) A4 (2 + np) c4 _ hq (by simp only [List.length_cons]; rw [HPN.out]; omega) (by omega) (by rw [hbo, List.length_append, List.length_append, b8_len, HAL.out]; have := HSZ.out; omega)).mono ?_
  rw [hbo]
  rintro e w5 ⟨v5, rfl, hO5, hb5⟩
  obtain ⟨g, c5, hv5, hcn, hgb, _⟩ := own_g hO5 (macL_len _ _) (by omega)
  subst hv5
  obtain ⟨_, _, hcm⟩ := Sha.own_len hO5
  have hr5 := (own_rd hO5).take 16
  have hsl := slice_to g 0 32 c5 16 (by omega) (by omega)
  have HR5 := Lib.hid (show Rd w5 w5.heap.size (some ⟨g, 0, none⟩) (tagL tag about (bytesOf ps)) by unfold tagL; rw [HAL.out]; exact hr5)
  have HB5 := Lib.hid (hbw4.trans (hb5.mono hbw4.size))
  have HC5 := Lib.hid (And.intro hcn hcm)
  have hgw : w.heap.size ≤ g := by have := hbw4.size; omega
  clear hO5 hr5 hb5 hbw4 hq hbo hcn hcm
  go_wp2_with fail
  go_ret
  exact ⟨g, c5, rfl, HR5.out, by have := HC5.out.1; omega, HC5.out.2, hgw, HB5.out⟩
end Go.Proofs.Ytcbihjcnnfohmaa.Box
