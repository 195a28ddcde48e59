/- The words of one block, as the document reckons them: contract of ref.block. -/
import Derived.Test.YtcbihjcnnfohmaaGreatShaRefStep
import Derived.Test.YtcbihjcnnfohmaaGreatShaRefRight
import Derived.Test.YtcbihjcnnfohmaaGreatMemAll
import Derived.Deep.RegionHeld3
namespace Go.Proofs.YtcbihjcnnfohmaaGreat.Sha
open Go Go.ChangeShapes Go.WideShapes Go.ChangeAt Go.RowKit
set_option linter.unusedVariables false
set_option linter.unusedSimpArgs false

theorem i64s_snoc (l : List Nat) (z : Nat) : i64s (l ++ [z]) = i64s l ++ [.int .i64 ((z : Nat) : Int)] := by simp [i64s]
theorem sched_low_i (b : List UInt8) {t : Nat} (h : t < 16) : i64s (sched b (t + 1)) = i64s (sched b t) ++ [.int .i64 ((word b t : Nat) : Int)] := by
  rw [show sched b (t + 1) = sched b t ++ [if t < 16 then word b t else wnext (sched b t) t] from rfl, if_pos h, i64s_snoc]
theorem sched_high_i (b : List UInt8) {t : Nat} (h : ¬ t < 16) : i64s (sched b (t + 1)) = i64s (sched b t) ++ [.int .i64 ((wnext (sched b t) t : Nat) : Int)] := by
  rw [show sched b (t + 1) = sched b t ++ [if t < 16 then word b t else wnext (sched b t) t] from rfl, if_neg h, i64s_snoc]

theorem s0_facts (x : Nat) (hx : x < 4294967296) : ∃ r7 r18 n1 S : Nat, rotr x 7 = r7 ∧ rotr x 18 = r18 ∧ bits BinOp.xor IntKind.i64 (r7 : Int) (r18 : Int) = (n1 : Int) ∧ bits BinOp.xor IntKind.i64 (n1 : Int) ((x : Int) / 8) = (S : Int) ∧ sa x = S ∧ S < 4294967296 := by
  have h7 := rotr_lt x 7 hx; have h18 := rotr_lt x 18 hx
  have hn := xor_lt h7 h18
  refine ⟨_, _, _, _, rfl, rfl, i64_xor _ _ (by omega) (by omega), ?_, rfl, sa_lt x hx⟩
  rw [show ((x : Int) / 8) = ((x / 8 : Nat) : Int) by omega, i64_xor _ _ (by omega) (by omega)]
  rfl
theorem s1_facts (x : Nat) (hx : x < 4294967296) : ∃ r17 r19 n1 S : Nat, rotr x 17 = r17 ∧ rotr x 19 = r19 ∧ bits BinOp.xor IntKind.i64 (r17 : Int) (r19 : Int) = (n1 : Int) ∧ bits BinOp.xor IntKind.i64 (n1 : Int) ((x : Int) / 1024) = (S : Int) ∧ sb x = S ∧ S < 4294967296 := by
  have h7 := rotr_lt x 17 hx; have h18 := rotr_lt x 19 hx
  have hn := xor_lt h7 h18
  refine ⟨_, _, _, _, rfl, rfl, i64_xor _ _ (by omega) (by omega), ?_, rfl, sb_lt x hx⟩
  rw [show ((x : Int) / 1024) = ((x / 1024 : Nat) : Int) by omega, i64_xor _ _ (by omega) (by omega)]
  rfl
theorem jdx_facts (t : Nat) (h : 16 ≤ t) (h64 : t < 64) : ∃ J16 J15 J7 J2 : Nat, IntKind.i64.wrap ((t : Int) - 16) = (J16 : Int) ∧ IntKind.i64.wrap ((t : Int) - 15) = (J15 : Int) ∧ IntKind.i64.wrap ((t : Int) - 7) = (J7 : Int) ∧ IntKind.i64.wrap ((t : Int) - 2) = (J2 : Int) ∧
    J16 = t - 16 ∧ J15 = t - 15 ∧ J7 = t - 7 ∧ J2 = t - 2 := by
  refine ⟨t - 16, t - 15, t - 7, t - 2, ?_, ?_, ?_, ?_, rfl, rfl, rfl, rfl⟩
  · rw [wrp _ (by omega) (by omega)]; omega
  · rw [wrp _ (by omega) (by omega)]; omega
  · rw [wrp _ (by omega) (by omega)]; omega
  · rw [wrp _ (by omega) (by omega)]; omega
theorem sum_facts (x16 S0 x7 S1 z : Nat) (h1 : x16 < 4294967296) (h2 : S0 < 4294967296) (h3 : x7 < 4294967296) (h4 : S1 < 4294967296) (hz : z = (x16 + S0 + x7 + S1) % 4294967296) : ∃ P1 P2 P3 : Nat,
    IntKind.i64.wrap ((x16 : Int) + (S0 : Int)) = (P1 : Int) ∧ IntKind.i64.wrap ((P1 : Int) + (x7 : Int)) = (P2 : Int) ∧ IntKind.i64.wrap ((P2 : Int) + (S1 : Int)) = (P3 : Int) ∧ (P3 : Int).tmod 4294967296 = (z : Int) ∧ (P3 : Int) % 4294967296 = (z : Int) := by
  refine ⟨x16 + S0, x16 + S0 + x7, x16 + S0 + x7 + S1, ?_, ?_, ?_, ?_, ?_⟩
  · rw [wrp _ (by omega) (by omega)]; omega
  · rw [wrp _ (by omega) (by omega)]; omega
  · rw [wrp _ (by omega) (by omega)]; omega
  · rw [Int.tmod_eq_emod_of_nonneg (by omega)]; omega
  · omega
theorem word_facts (x0 x1 x2 x3 z : Nat) (q0 : x0 < 256) (q1 : x1 < 256) (q2 : x2 < 256) (q3 : x3 < 256) (ez : z = x0 * 16777216 + x1 * 65536 + x2 * 256 + x3) : ∃ P0 P1 P2 P3 P4 : Nat,
    IntKind.i64.wrap ((x0 : Int) * 16777216) = (P0 : Int) ∧ IntKind.i64.wrap ((x1 : Int) * 65536) = (P1 : Int) ∧ IntKind.i64.wrap ((P0 : Int) + (P1 : Int)) = (P2 : Int) ∧ IntKind.i64.wrap ((x2 : Int) * 256) = (P3 : Int) ∧
    IntKind.i64.wrap ((P2 : Int) + (P3 : Int)) = (P4 : Int) ∧ IntKind.i64.wrap ((P4 : Int) + (x3 : Int)) = (z : Int) := by
  refine ⟨x0 * 16777216, x1 * 65536, x0 * 16777216 + x1 * 65536, x2 * 256, x0 * 16777216 + x1 * 65536 + x2 * 256, ?_, ?_, ?_, ?_, ?_, ?_⟩
  · rw [wrp _ (by omega) (by omega)]; omega
  · rw [wrp _ (by omega) (by omega)]; omega
  · rw [wrp _ (by omega) (by omega)]; omega
  · rw [wrp _ (by omega) (by omega)]; omega
  · rw [wrp _ (by omega) (by omega)]; omega
  · rw [wrp _ (by omega) (by omega)]; omega
theorem idx_facts (b : List UInt8) (t : Nat) (h : t < 16) : ∃ T0 T1 T2 T3 : Nat, IntKind.i64.wrap (4 * (t : Int)) = (T0 : Int) ∧ IntKind.i64.wrap ((T0 : Int) + 1) = (T1 : Int) ∧ IntKind.i64.wrap ((T0 : Int) + 2) = (T2 : Int) ∧ IntKind.i64.wrap ((T0 : Int) + 3) = (T3 : Int) ∧
    T0 < 64 ∧ T1 < 64 ∧ T2 < 64 ∧ T3 < 64 ∧ word b t = (b.getD T0 0).toNat * 16777216 + (b.getD T1 0).toNat * 65536 + (b.getD T2 0).toNat * 256 + (b.getD T3 0).toNat := by
  refine ⟨4*t, 4*t+1, 4*t+2, 4*t+3, ?_, ?_, ?_, ?_, by omega, by omega, by omega, by omega, rfl⟩
  · rw [wrp _ (by omega) (by omega)]; omega
  · rw [wrp _ (by omega) (by omega)]; omega
  · rw [wrp _ (by omega) (by omega)]; omega
  · rw [wrp _ (by omega) (by omega)]; omega
set_option maxHeartbeats 2000000 in
set_option maxRecDepth 100000 in
theorem refblock_any (A : Option Addr) (c : Nat) (b : List UInt8) (w : World) (B : Nat) (hB : B ≤ w.heap.size) (hl : b.length = 64) (hr : Rd w B A b) :
    Calls Tryz.prog 76 #[.slice A 64 c] w fun e w' => ∃ v, e = .returned v ∧ OwnV w' 3 w.heap.size v (i64s (sched b 64)) ∧ Below w.heap.size w w' := by
  obtain ⟨a, rfl, ha, hc⟩ := hr (by omega)
  have HL := Lib.hid hl
  have HC := Lib.hid hc
  clear hl hr hc
  have hO0 : OwnV w 3 w.heap.size (.slice none 0 0) (i64s (sched b 0)) := OwnV.nil _ _ _
  have hb0 := Below.refl w.heap.size w
  go_enter Tryz.func76, Tryz.ntmps76
  go_wp2
  go_loopw [3, 4] (fun v i wr => ∃ t : Nat, t ≤ 64 ∧ i = .int .i64 t ∧ OwnV wr 3 w.heap.size v (i64s (sched b t)) ∧ Below w.heap.size w wr) (fun _ i _ => 64 - (intOf i).toNat)
  case atStart => exact ⟨0, by omega, rfl, hO0, hb0⟩
  case round =>
    obtain ⟨t, ht, rfl, hO, hbr⟩ := hrel
    clear hO0 hb0
    by_cases hlt : t < 64
    · by_cases hlo : t < 16
      · have hs := sched_low_i b hlo
        have hwl := word_lt b t
        have gw : ∀ W, Below w.heap.size w W → ∀ i, i < 64 → W.cell? (a.add i) = some (.int .u8 ((b.getD i 0).toNat : Int)) := fun W hbW i hi => by
          have hi' : i < b.length := by rw [HL.out]; omega
          rw [hbW.cell (by rw [add_block]; omega), HC.out _ hi', List.getD, List.getElem?_eq_getElem hi']; rfl
        obtain ⟨T0, T1, T2, T3, m0, m1, m2, m3, n0, n1, n2, n3, ew⟩ := idx_facts b t hlo
        have HGG := Lib.hid (fun W hbW => And.intro (gw W hbW T0 (by omega)) (And.intro (gw W hbW T1 (by omega)) (And.intro (gw W hbW T2 (by omega)) (gw W hbW T3 (by omega)))))
        have g := gw wr hbr
        clear gw
        have g0 := g T0 (by omega); have g1 := g T1 (by omega); have g2 := g T2 (by omega); have g3 := g T3 (by omega)
        have q0 := (b.getD T0 0).toNat_lt; have q1 := (b.getD T1 0).toNat_lt; have q2 := (b.getD T2 0).toNat_lt; have q3 := (b.getD T3 0).toNat_lt
        clear g
        generalize (b.getD T0 0).toNat = x0 at *
        generalize (b.getD T1 0).toNat = x1 at *
        generalize (b.getD T2 0).toNat = x2 at *
        generalize (b.getD T3 0).toNat = x3 at *
        obtain ⟨Av, cv, rfl, hcv, _⟩ := OwnV.lenN (n := t) hO (by rw [i64s_length, sched_length])
        generalize hz : word b t = z at *
        generalize hll : i64s (sched b t) = ll at *
        have hlk : ll.length = t := by rw [← hll, i64s_length, sched_length]
        obtain ⟨P0, P1, P2, P3, P4, y0, y1, y2, y3, y4, y5⟩ := word_facts x0 x1 x2 x3 z q0 q1 q2 q3 ew
        have HLK := Lib.hid hlk
        have HSN := Lib.hid hs
        have c0 := wrp (x0 : Int) (by omega) (by omega)
        have c1 := wrp (x1 : Int) (by omega) (by omega)
        have c2 := wrp (x2 : Int) (by omega) (by omega)
        have c3 := wrp (x3 : Int) (by omega) (by omega)
        have i0 : (T0 : Int) < 64 := by omega
        have i1 : (T1 : Int) < 64 := by omega
        have i2 : (T2 : Int) < 64 := by omega
        have i3 : (T3 : Int) < 64 := by omega
        have hx0 : x0 < 256 := q0; have hx1 : x1 < 256 := q1; have hx2 : x2 < 256 := q2; have hx3 : x3 < 256 := q3
        clear hs hll hlk ew hz q0 q1 q2 q3
        replace hO : OwnV wr.drew 3 w.heap.size (.slice Av t cv) ll := OwnV.drew hO
        replace hbr : Below w.heap.size w wr.drew := hbr.drew
        have hOa := OwnV.alloc hO (.cells #[.int .i64 (z : Int)] 3)
        have hba := hbr.alloc hbr.size (.cells #[.int .i64 (z : Int)] 3)
        have hsa := hba.size
        have hsrc : 0 < 1 → ∃ ad, (some ⟨wr.drew.heap.size, 0, none⟩ : Option Addr) = some ad ∧ ∀ j u, [Value.int .i64 (z : Int)][j]? = some u → (wr.drew.alloc (.cells #[.int .i64 (z : Int)] 3)).cell? (ad.add j) = some u := fun h0 => by
          obtain ⟨ad, e1, _, e2⟩ := OwnV.rdv (OwnV.row (base := 0) (xs := [Value.int .i64 (z : Int)]) (heap_alloc_new wr.drew _) (Nat.zero_le _) (n := 1) rfl (by omega)) h0
          exact ⟨ad, e1, e2⟩
        have HSRC2 := Lib.hid hsrc
        have HOA := Lib.hid hOa
        have HBA := Lib.hid hba
        clear hO hbr hOa hba hsrc
        go_wp2_with fail
        go_region_held3 (fun w' => w'.cell? (a.add T0) = some (.int .u8 (x0 : Int)) ∧ w'.cell? (a.add T1) = some (.int .u8 (x1 : Int)) ∧ w'.cell? (a.add T2) = some (.int .u8 (x2 : Int)) ∧ w'.cell? (a.add T3) = some (.int .u8 (x3 : Int))) (first | exact ⟨g0, g1, g2, g3⟩ | exact ⟨d0, d1, d2, d3⟩ | go_keep)
          ((refine step_append_v eli (by rfl) (.tmp 15) (.tmp 49) rfl w.heap.size _ ll _ 1 1 [.int .i64 (z : Int)] rfl rfl HOA.out rfl HSRC2.out (by intro u hu; simp only [List.mem_singleton] at hu; subst hu; rfl) (by rw [HLK.out]; omega) (by rw [HLK.out]; omega) hsa ?_
            intro v2 w2 hO2 hg2 hat2
            obtain ⟨A2, c2, rfl, hc2, _⟩ := OwnV.lenN (n := t + 1) hO2 (by rw [List.length_append, HLK.out]; rfl)
            have hb2 := HBA.out.grown hg2 hsa (fun x hx => (OwnV.lt HOA.out x hx).1)
            obtain ⟨d0, d1, d2, d3⟩ := HGG.out _ hb2))
        go_wp2_with fail
        go_roundw
        case rel => exact ⟨t + 1, by omega, by go_num, by rw [HSN.out]; exact hO2, hb2⟩
        case measure => simp [intOf]; omega
      · have hs := sched_high_i b hlo
        have hwf := sched_fit b t
        obtain ⟨J16, J15, J7, J2, m16, m15, m7, m2, e16, e15, e7, e2⟩ := jdx_facts t (by omega) hlt
        have hwn : wnext (sched b t) t = ((sched b t).getD (t-16) 0 + sa ((sched b t).getD (t-15) 0) + (sched b t).getD (t-7) 0 + sb ((sched b t).getD (t-2) 0)) % 4294967296 := rfl
        rw [← e16, ← e15, ← e7, ← e2] at hwn
        have j16 : (J16 : Int) < (t : Int) := by omega
        have j15 : (J15 : Int) < (t : Int) := by omega
        have j7 : (J7 : Int) < (t : Int) := by omega
        have j2 : (J2 : Int) < (t : Int) := by omega
        have hll : (i64s (sched b t)).length = t := by rw [i64s_length, sched_length]
        have hg : ∀ j, j < t → (i64s (sched b t))[j]? = some (.int .i64 (((sched b t).getD j 0 : Nat) : Int)) := fun j hj => i64s_get (by rw [sched_length]; exact hj)
        have u16 := hg J16 (by omega); have u15 := hg J15 (by omega); have u7 := hg J7 (by omega); have u2 := hg J2 (by omega)
        have l16 := hwf.get J16; have l15 := hwf.get J15; have l7 := hwf.get J7; have l2 := hwf.get J2
        clear hg hwf e16 e15 e7 e2
        generalize (sched b t).getD J16 0 = x16 at *
        generalize (sched b t).getD J15 0 = x15 at *
        generalize (sched b t).getD J7 0 = x7 at *
        generalize (sched b t).getD J2 0 = x2 at *
        generalize wnext (sched b t) t = z at *
        generalize i64s (sched b t) = ll at *
        obtain ⟨g, off, cv, rfl, hcv, hcm, hgb, hgl, hrd⟩ := hO.ptr hll (by omega)
        have v16 := hrd _ _ u16; have v15 := hrd _ _ u15; have v7 := hrd _ _ u7; have v2 := hrd _ _ u2
        obtain ⟨r7, r18, n1, S0, f7, f18, q1, q2, eS0, lS0⟩ := s0_facts x15 l15
        obtain ⟨r17, r19, o1, S1, f17, f19, q3, q4, eS1, lS1⟩ := s1_facts x2 l2
        rw [eS0, eS1] at hwn
        obtain ⟨P1, P2, P3, y1, y2, y3, y4, y5⟩ := sum_facts x16 S0 x7 S1 z l16 lS0 l7 lS1 hwn
        have X7 := Lib.hid (fun w => (show Calls Tryz.prog 87 #[.int .i64 (x15 : Int), .int .i64 7] w fun e w' => e = .returned (.int .i64 (r7 : Int)) ∧ ∃ n, w' = w.drewN n from by rw [← f7]; exact refright7 x15 l15 w))
        have X18 := Lib.hid (fun w => (show Calls Tryz.prog 87 #[.int .i64 (x15 : Int), .int .i64 18] w fun e w' => e = .returned (.int .i64 (r18 : Int)) ∧ ∃ n, w' = w.drewN n from by rw [← f18]; exact refright18 x15 l15 w))
        have X17 := Lib.hid (fun w => (show Calls Tryz.prog 87 #[.int .i64 (x2 : Int), .int .i64 17] w fun e w' => e = .returned (.int .i64 (r17 : Int)) ∧ ∃ n, w' = w.drewN n from by rw [← f17]; exact refright17 x2 l2 w))
        have X19 := Lib.hid (fun w => (show Calls Tryz.prog 87 #[.int .i64 (x2 : Int), .int .i64 19] w fun e w' => e = .returned (.int .i64 (r19 : Int)) ∧ ∃ n, w' = w.drewN n from by rw [← f19]; exact refright19 x2 l2 w))
        have HSN := Lib.hid hs
        have HLL := Lib.hid hll
        have U16 := Lib.hid u16
        have U7 := Lib.hid u7
        have HBR := Lib.hid hbr
        have HO := Lib.hid hO
        have i64 : (t : Int) < 64 := by omega
        clear hwn hs hll u16 u15 u7 u2 hrd hbr hO f7 f18 f17 f19 eS0 eS1
        go_wp2_with (first
        | (with_reducible refine (X7.out _).mono ?_; rintro e w' ⟨rfl, n7, rfl⟩)
        | (with_reducible refine (X18.out _).mono ?_; rintro e w' ⟨rfl, n18, rfl⟩)
        | (with_reducible refine (X17.out _).mono ?_; rintro e w' ⟨rfl, n17, rfl⟩)
        | (with_reducible refine (X19.out _).mono ?_; rintro e w' ⟨rfl, n19, rfl⟩))
        generalize hwq : wr.drewN (n7 + n18 + n17 + n19) = wq
        have hbq : Below w.heap.size w wq.drew := by rw [← hwq]; exact (HBR.out.trans (below_drewN _ _ _)).drew
        have hOq : OwnV wq.drew 3 w.heap.size (.slice (some ⟨g, off, none⟩) t cv) ll := by rw [← hwq]; exact OwnV.drew (OwnV.drewN HO.out _)
        have c16 : wq.drew.cell? ⟨g, off + J16, none⟩ = some (.int .i64 (x16 : Int)) := by rw [← hwq]; exact v16
        have c7 : wq.drew.cell? ⟨g, off + J7, none⟩ = some (.int .i64 (x7 : Int)) := by rw [← hwq]; exact v7
        have hgq : g < wq.drew.heap.size := (OwnV.lt hOq g rfl).2
        have a16 : (wq.alloc (.cells #[.int .i64 (z : Int)] 3)).drew.cell? ⟨g, off + J16, none⟩ = some (.int .i64 (x16 : Int)) := (World.cell?_alloc_lt wq _ ⟨g, off + J16, none⟩ hgq).trans c16
        have a7 : (wq.alloc (.cells #[.int .i64 (z : Int)] 3)).drew.cell? ⟨g, off + J7, none⟩ = some (.int .i64 (x7 : Int)) := (World.cell?_alloc_lt wq _ ⟨g, off + J7, none⟩ hgq).trans c7
        have A16 := Lib.hid (And.intro a16 a7)
        clear a16 a7
        have hOa := OwnV.alloc hOq (.cells #[.int .i64 (z : Int)] 3)
        have hba := hbq.alloc hbq.size (.cells #[.int .i64 (z : Int)] 3)
        have hsa := hba.size
        have hsrc : 0 < 1 → ∃ ad, (some ⟨wq.drew.heap.size, 0, none⟩ : Option Addr) = some ad ∧ ∀ j u, [Value.int .i64 (z : Int)][j]? = some u → (wq.drew.alloc (.cells #[.int .i64 (z : Int)] 3)).cell? (ad.add j) = some u := fun h0 => by
          obtain ⟨ad, e1, _, e2⟩ := OwnV.rdv (OwnV.row (base := 0) (xs := [Value.int .i64 (z : Int)]) (heap_alloc_new wq.drew _) (Nat.zero_le _) (n := 1) rfl (by omega)) h0
          exact ⟨ad, e1, e2⟩
        have HSRC2 := Lib.hid hsrc
        have HOA := Lib.hid hOa
        have HBA := Lib.hid hba
        clear hOq hbq hOa hba hsrc hwq v16 v7 v15 v2
        go_region_held3 (fun w' => w'.cell? ⟨g, off + J16, none⟩ = some (.int .i64 (x16 : Int)) ∧ w'.cell? ⟨g, off + J7, none⟩ = some (.int .i64 (x7 : Int))) (first | exact ⟨c16, c7⟩ | exact A16.out | exact ⟨d16, d7⟩)
          ((refine step_append_k eli (by rfl) (.tmp 77) (.tmp 94) rfl w.heap.size _ ll _ 1 1 [.int .i64 (z : Int)] rfl rfl HOA.out rfl HSRC2.out (by intro u hu; simp only [List.mem_singleton] at hu; subst hu; rfl) (by rw [HLL.out]; omega) (by rw [HLL.out]; omega) hsa ?_
            intro v2 w2 hO2 hg2 hat2 hk2
            obtain ⟨A2, c2, rfl, hc2, _⟩ := OwnV.lenN (n := t + 1) hO2 (by rw [List.length_append, HLL.out]; rfl)
            have hb2 := HBA.out.grown hg2 hsa (fun x hx => (OwnV.lt HOA.out x hx).1)
            have d16 := OwnV.again hk2 U16.out
            have d7 := OwnV.again hk2 U7.out))
        go_wp2_with fail
        go_roundw
        case rel => exact ⟨t + 1, by omega, by go_num, by rw [HSN.out]; exact hO2, hb2⟩
        case measure => simp [intOf]; omega
    · have e64 : t = 64 := by omega
      subst e64
      go_wp2
      go_ret
      exact ⟨_, rfl, hO, hbr⟩
end Go.Proofs.YtcbihjcnnfohmaaGreat.Sha
