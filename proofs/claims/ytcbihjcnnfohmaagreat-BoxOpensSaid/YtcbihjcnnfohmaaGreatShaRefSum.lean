/- The digest as the document reckons it: contract of ref.Sum. -/
import Derived.Test.YtcbihjcnnfohmaaGreatShaRefBlock
import Derived.Test.YtcbihjcnnfohmaaGreatShaSum
import Derived.Deep.RegionHeld3
namespace Go.Proofs.YtcbihjcnnfohmaaGreat.Sha
open Go Go.ChangeShapes Go.WideShapes Go.ChangeAt Go.RowKit
set_option linter.unusedVariables false
set_option linter.unusedSimpArgs false

set_option maxRecDepth 100000 in
set_option maxHeartbeats 1000000 in
theorem refwords_any (w : World) :
    Calls Tryz.prog 73 #[] w fun e w' => ∃ v, e = .returned v ∧ OwnV w' 3 w.heap.size v (i64s kw) ∧ Below w.heap.size w w' := by
  go_enter Tryz.func73, Tryz.ntmps73
  go_wp2
  go_ret
  exact ⟨_, rfl, OwnV.row (xs := i64s kw) (heap_alloc_new w _) (Nat.le_refl _) (by rw [i64s_length, kw_length]) (by omega), (Below.refl _ _).alloc (Nat.le_refl _) _⟩
set_option maxRecDepth 100000 in
set_option maxHeartbeats 1000000 in
theorem reffirst_any (w : World) :
    Calls Tryz.prog 74 #[] w fun e w' => ∃ v, e = .returned v ∧ OwnV w' 3 w.heap.size v (i64s hw) ∧ Below w.heap.size w w' := by
  go_enter Tryz.func74, Tryz.ntmps74
  go_wp2
  go_ret
  exact ⟨_, rfl, OwnV.row (xs := i64s hw) (heap_alloc_new w _) (Nat.le_refl _) rfl (by omega), (Below.refl _ _).alloc (Nat.le_refl _) _⟩
theorem src1v (w : World) (v : Value) (T : TypeId) : 0 < 1 → ∃ ad, (some ⟨w.heap.size, 0, none⟩ : Option Addr) = some ad ∧ ∀ j u, ([v] : List Value)[j]? = some u → (w.alloc (.cells #[v] T)).cell? (ad.add j) = some u := fun _ => ⟨_, rfl, fun j u hj => by
  rw [addr_add, Nat.zero_add, cell_of_row _ _ j _ _ (0, 0) (heap_alloc_new w _)]; simpa using hj⟩
theorem be8_take (n k : Nat) (h : k < 8) : (be8 n).take (k + 1) = (be8 n).take k ++ [UInt8.ofNat (n / 2 ^ (56 - 8 * k))] := by
  rw [be8_eight]
  obtain rfl | rfl | rfl | rfl | rfl | rfl | rfl | rfl : k = 0 ∨ k = 1 ∨ k = 2 ∨ k = 3 ∨ k = 4 ∨ k = 5 ∨ k = 6 ∨ k = 7 := by omega
  all_goals simp
def pre (L : List UInt8) (j : Nat) : List UInt8 := L ++ 128 :: List.replicate j 0
theorem pre_length (L : List UInt8) (j : Nat) : (pre L j).length = L.length + 1 + j := by simp [pre]; omega
theorem pre_snoc (L : List UInt8) (j : Nat) : pre L (j + 1) = pre L j ++ [0] := by simp [pre, List.replicate_succ']
theorem pre_padded (L : List UInt8) : pre L (noughts L.length) ++ be8 (8 * L.length) = padded L := by simp [pre, padded]
theorem padded_length (L : List UInt8) : (padded L).length = L.length + 1 + noughts L.length + 8 := by
  rw [← pre_padded, List.length_append, pre_length]; simp [be8, be4]
theorem be8_len (n : Nat) : (be8 n).length = 8 := by simp [be8, be4]
theorem own_one {w : World} {base : Nat} (c : UInt8) (hb : base ≤ w.heap.size) : OwnV (w.alloc (.cells #[bv c] 5)) 5 base (.slice (some ⟨w.heap.size, 0, none⟩) 1 1) (bvs [c]) :=
  OwnV.row (xs := bvs [c]) (heap_alloc_new w _) hb rfl (by omega)

theorem be4_facts (z : Nat) (h : z < 4294967296) : ∃ d1 d2 d3 b0 b1 b2 b3 : Nat, (z : Int).tdiv 16777216 = (b0 : Int) ∧ (z : Int) / 16777216 = (b0 : Int) ∧ (z : Int).tdiv 65536 = (d1 : Int) ∧ (z : Int) / 65536 = (d1 : Int) ∧ (z : Int).tdiv 256 = (d2 : Int) ∧ (z : Int) / 256 = (d2 : Int) ∧
    IntKind.u8.wrap (b0 : Int) = (b0 : Int) ∧ IntKind.u8.wrap (d1 : Int) = (b1 : Int) ∧ IntKind.u8.wrap (d2 : Int) = (b2 : Int) ∧ IntKind.u8.wrap (z : Int) = (b3 : Int) ∧
    bvs (be4 z) = [.int .u8 (b0 : Int), .int .u8 (b1 : Int), .int .u8 (b2 : Int), .int .u8 (b3 : Int)] := by
  have hw : ∀ n : Nat, IntKind.u8.wrap (n : Int) = ((n % 256 : Nat) : Int) := fun n => by rw [IntKind.wrap_u8]; omega
  refine ⟨z / 65536, z / 256, z, z / 16777216, z / 65536 % 256, z / 256 % 256, z % 256, ?_, ?_, ?_, ?_, ?_, ?_, ?_, hw _, hw _, hw _, ?_⟩
  · rw [Int.tdiv_eq_ediv_of_nonneg (by omega)]; omega
  · omega
  · rw [Int.tdiv_eq_ediv_of_nonneg (by omega)]; omega
  · omega
  · rw [Int.tdiv_eq_ediv_of_nonneg (by omega)]; omega
  · omega
  · rw [hw, Nat.mod_eq_of_lt (by omega)]
  · simp only [be4, bvs, List.map_cons, List.map_nil, bv, UInt8.toNat_ofNat']
    rw [Nat.mod_eq_of_lt (by omega : z / 16777216 < 2 ^ 8)]
set_option maxHeartbeats 4000000 in
set_option maxRecDepth 100000 in
theorem refsum_any (A : Option Addr) (n c : Nat) (L : List UInt8) (w : World) (B : Nat) (hB : B ≤ w.heap.size) (hl : L.length = n) (hn : n ≤ 35184372088832) (hr : Rd w B A L) :
    Calls Tryz.prog 57 #[.slice A n c] w fun e w' => ∃ v, e = .returned v ∧ OwnV w' 5 w.heap.size v (bvs (sha L)) ∧ Below w.heap.size w w' := by
  have hOe : OwnV (w.alloc (.cells #[] 5)) 5 w.heap.size (.slice (some ⟨w.heap.size, 0, none⟩) 0 0) (bvs []) := OwnV.row (xs := bvs []) (heap_alloc_new w _) (Nat.le_refl _) rfl (by omega)
  have hbe := (Below.refl w.heap.size w).alloc (Nat.le_refl _) (.cells #[] 5)
  have hse := hbe.size
  have HR0 := Lib.hid ((hr.alloc hB (.cells #[] 5)).news n hl)
  have HL := Lib.hid hl
  have HOE := Lib.hid hOe
  have HBE := Lib.hid hbe
  clear hr hl hOe hbe
  go_enter Tryz.func57, Tryz.ntmps57
  go_wp2_with (first
    | (with_reducible refine at_slot 13 ?_
       refine wpList_append_v u8.el rfl (.tmp 11) (.tmp 12) rfl w.heap.size _ (bvs []) _ n c (bvs L) rfl rfl HOE.out (by rw [bvs_length]; exact HL.out) HR0.out (bvs_one _) (by simp [bvs]; omega) (by simp [bvs]; omega) hse ?_
       intro v2 w2 hO2 hg2 hat2
       have hb2 := HBE.out.grown hg2 hse (fun x hx => (HOE.out.lt x hx).1)
       have hs2 := hb2.size
       rw [← bvs_append, List.nil_append] at hO2
       have HO2 := Lib.hid hO2
       have HB2 := Lib.hid hb2
       clear hO2 hb2 hg2 hat2)
    | (with_reducible refine at_slot 15 ?_
       refine wpList_append_v u8.el rfl (.tmp 13) (.tmp 14) rfl w.heap.size _ (bvs L) _ 1 1 [bv 128] rfl rfl (HO2.out.alloc _) rfl (src1v w2 (bv 128) 5) (by intro u hu; simp only [List.mem_singleton] at hu; subst hu; rfl) (by rw [bvs_length, HL.out]; omega) (by rw [bvs_length, HL.out]; omega) (by simp; omega) ?_
       intro v3 w3 hO3 hg3 hat3
       have hb3 := (HB2.out.alloc hs2 (.cells #[bv 128] 5)).grown hg3 (by simp; omega) (fun x hx => ((HO2.out.alloc (.cells #[bv 128] 5)).lt x hx).1)
       have hO3' : OwnV w3 5 w.heap.size v3 (bvs (pre L 0)) := by rw [pre, bvs_append]; exact hO3
       clear hO3 hg3 hat3))
  go_loopw [3] (fun v wr => ∃ j : Nat, j ≤ noughts L.length ∧ OwnV wr 5 w.heap.size v (bvs (pre L j)) ∧ Below w.heap.size w wr) (fun v _ => match v with | .slice _ m _ => L.length + 65 - m | _ => 0)
  case atStart => exact ⟨0, by omega, hO3', hb3⟩
  case round =>
    obtain ⟨j, hj, hO, hbr⟩ := hrel
    clear hO3' hb3
    have hnl : noughts L.length < 64 := by unfold noughts; omega
    have hpl : (bvs (pre L j)).length = L.length + 1 + j := by rw [bvs_length, pre_length]
    obtain ⟨Av, cv, rfl, hcv, hcm⟩ := OwnV.lenN (n := L.length + 1 + j) hO hpl
    have hLn := HL.out
    obtain ⟨m, hm⟩ : ∃ m : Nat, m = L.length + 1 + j := ⟨_, rfl⟩
    rw [← hm] at hO hpl ⊢ hcv
    have hml : m ≤ 35184372088900 := by omega
    have HM := Lib.hid hm
    have HPL := Lib.hid hpl
    have hsr := hbr.size
    by_cases hlt : j < noughts L.length
    · have t1 : ((m : Int).tmod 64 != 56) = true := by
        rw [Int.tmod_eq_emod_of_nonneg (by omega), bne_iff_ne]; unfold noughts at hlt; omega
      have t2 : ((m : Int) % 64 != 56) = true := by
        rw [Int.tmod_eq_emod_of_nonneg (by omega)] at t1; exact t1
      have HO := Lib.hid hO
      have HBR := Lib.hid hbr
      clear hm hpl hO hbr hj hLn hnl
      have hlt' := Lib.hid hlt
      clear hlt
      go_wp2_with (with_reducible refine at_slot 22 ?_
                   refine wpList_append_v u8.el rfl (.tmp 20) (.tmp 21) rfl w.heap.size _ (bvs (pre L j)) _ 1 1 [bv 0] rfl rfl (HO.out.alloc _) rfl (src1v wr (bv 0) 5) (by intro u hu; simp only [List.mem_singleton] at hu; subst hu; rfl) (by rw [HPL.out]; omega) (by rw [HPL.out]; omega) (by simp; omega) ?_
                   intro v5 w5 hO5 hg5 hat5
                   have hb5 := (HBR.out.alloc hsr (.cells #[bv 0] 5)).grown hg5 (by simp; omega) (fun x hx => ((HO.out.alloc (.cells #[bv 0] 5)).lt x hx).1)
                   have hO5' : OwnV w5 5 w.heap.size v5 (bvs (pre L (j + 1))) := by rw [pre_snoc, bvs_append]; exact hO5
                   obtain ⟨A5, c5, rfl, hc5, _⟩ := OwnV.lenN (n := m + 1) hO5' (by rw [bvs_length, pre_length, HM.out]; omega)
                   clear hO5 hg5 hat5)
      go_roundw
      case rel => exact ⟨j + 1, hlt'.out, hO5', hb5⟩
      case measure => simp; have := HM.out; have := hlt'.out; have := HL.out; unfold noughts at *; omega
    · have hjn : j = noughts L.length := by omega
      subst hjn
      have t1 : ((m : Int).tmod 64 != 56) = false := by
        rw [Int.tmod_eq_emod_of_nonneg (by omega)]
        simp only [bne_eq_false_iff_eq]; unfold noughts at hm; omega
      have t2 : ((m : Int) % 64 != 56) = false := by
        rw [Int.tmod_eq_emod_of_nonneg (by omega)] at t1; exact t1
      have HO := Lib.hid hO
      have HBR := Lib.hid hbr
      clear hm hpl hO hbr hlt hj hLn hnl
      obtain ⟨w1, rfl⟩ : ∃ w1 : World, w1 = wr := ⟨_, rfl⟩
      go_wp2
      have hO0 : OwnV w1 5 w.heap.size (.slice Av m cv) (bvs (pre L (noughts L.length) ++ (be8 (8 * n)).take 0)) := by rw [List.take_zero, List.append_nil]; exact HO.out
      have hb0 := HBR.out
      go_loopw [3, 5] (fun v i wr => ∃ k : Nat, k ≤ 8 ∧ i = .int .i64 (7 - (k : Int)) ∧ OwnV wr 5 w.heap.size v (bvs (pre L (noughts L.length) ++ (be8 (8 * n)).take k)) ∧ Below w.heap.size w wr) (fun _ i _ => (intOf i + 1).toNat)
      case atStart => exact ⟨0, by omega, rfl, hO0, hb0⟩
      case round =>
        obtain ⟨k, hk, rfl, hO, hbr⟩ := hrel
        clear hO0 hb0
        have hpk : (bvs (pre L (noughts L.length) ++ (be8 (8 * n)).take k)).length = m + k := by rw [bvs_length, List.length_append, pre_length, List.length_take, be8_len, HM.out]; omega
        obtain ⟨Aq, cq, rfl, hcq, hcqm⟩ := OwnV.lenN (n := m + k) hO hpk
        by_cases hlt : k < 8
        · have hsn := be8_take (8 * n) k hlt
          obtain ⟨s, hs⟩ : ∃ s : Nat, s = 7 - k := ⟨_, rfl⟩
          rw [show (7 : Int) - (k : Int) = (s : Int) by omega]
          have hs8 : (s : Int) < 8 := by omega
          have hq : 8 * (n : Int) / 2 ^ (8 * s) % 256 = (((UInt8.ofNat (8 * n / 2 ^ (56 - 8 * k))).toNat : Nat) : Int) := by
            rw [show 56 - 8 * k = 8 * s by omega, UInt8.toNat_ofNat']
            push_cast
            rfl
          generalize UInt8.ofNat (8 * n / 2 ^ (56 - 8 * k)) = q at *
          have HS := Lib.hid hs
          have HSN := Lib.hid hsn
          have HPK := Lib.hid hpk
          have HO1 := Lib.hid hO
          have HB1 := Lib.hid hbr
          have hsr1 := hbr.size
          clear hs hsn hpk hO hbr
          go_wp2_with (with_reducible refine at_slot 37 ?_
                       refine wpList_append_v u8.el rfl (.tmp 30) (.tmp 36) rfl w.heap.size _ (bvs (pre L (noughts L.length) ++ (be8 (8 * n)).take k)) _ 1 1 [bv q] rfl rfl (HO1.out.alloc _) rfl (src1v wr (bv q) 5) (by intro u hu; simp only [List.mem_singleton] at hu; subst hu; rfl) (by rw [HPK.out]; omega) (by rw [HPK.out]; omega) (by simp; omega) ?_
                       intro v5 w5 hO5 hg5 hat5
                       have hb5 := (HB1.out.alloc hsr1 (.cells #[bv q] 5)).grown hg5 (by simp; omega) (fun x hx => ((HO1.out.alloc (.cells #[bv q] 5)).lt x hx).1)
                       have hO5' : OwnV w5 5 w.heap.size v5 (bvs (pre L (noughts L.length) ++ (be8 (8 * n)).take (k + 1))) := by rw [HSN.out, ← List.append_assoc, bvs_append]; exact hO5
                       obtain ⟨A5, c5, rfl, hc5, _⟩ := OwnV.lenN (n := m + k + 1) hO5' (by rw [HSN.out, ← List.append_assoc, bvs_append, List.length_append, HPK.out]; rfl)
                       clear hO5 hg5 hat5)
          go_roundw
          case rel => exact ⟨k + 1, by omega, by have := HS.out; rw [show (7 : Int) - ((k + 1 : Nat) : Int) = (s : Int) - 1 by omega], hO5', hb5⟩
          case measure => simp [intOf]
        · have e8 : k = 8 := by omega
          subst e8
          have hP : OwnV wr 5 w.heap.size (.slice Aq (m + 8) cq) (bvs (padded L)) := by
            have : (be8 (8 * n)).take 8 = be8 (8 * n) := List.take_of_length_le (by rw [be8_len]; omega)
            rw [this, ← HL.out, pre_padded] at hO
            exact hO
          have hpl : (padded L).length = m + 8 := by rw [padded_length, HM.out]
          have hp64 := padded_len L
          obtain ⟨N, hN⟩ : ∃ N : Nat, m + 8 = 64 * N := ⟨(m + 8) / 64, by omega⟩
          rw [hN] at hP hcq hpl ⊢
          have HPL2 := Lib.hid hpl
          have HP := Lib.hid hP
          have HB2' := Lib.hid hbr
          have hsr2 := hbr.size
          have hN64 : 64 * N ≤ 35184372088908 := by omega
          clear hO hbr hpk hN hp64 hpl hP
          obtain ⟨w4, rfl⟩ : ∃ w4 : World, w4 = wr := ⟨_, rfl⟩
          rw [show (7 : Int) - ((8 : Nat) : Int) = -1 by omega]
          go_wp2_with (first
            | (go_at_call 73
               refine (refwords_any _).mono ?_
               rintro e w5 ⟨kv, rfl, hK5, hb5⟩
               have hb45 := HB2'.out.trans (hb5.mono hsr2)
               have hs5 := hb45.size
               have HP5 := Lib.hid (HP.out.below_ hb5)
               obtain ⟨Ak, ck, rfl, hck, _⟩ := OwnV.lenN (n := 64) hK5 (by rw [i64s_length, kw_length])
               have HK5 := Lib.hid (hK5.mono (fun k hk => Nat.le_trans hsr2 (hK5.lt k hk).1))
               clear hK5 hb5)
            | (go_at_call 74
               refine (reffirst_any _).mono ?_
               rintro e w6 ⟨fv, rfl, hF6, hb6⟩
               have hb56 := hb45.trans (hb6.mono hs5)
               have hP6 := HP5.out.below_ hb6
               have hK6 := HK5.out.below_ hb6
               have hF6' := hF6.mono (fun k hk => Nat.le_trans hs5 (hF6.lt k hk).1)
               clear hF6 hb6))
          have hF0 : OwnV w6 3 w.heap.size fv (i64s (blocks 0 hw (padded L))) := hF6'
          have hb0 := Below.refl w6.heap.size w6
          have HP6 := Lib.hid hP6
          have HK6 := Lib.hid hK6
          have HB6 := Lib.hid hb56
          have hs6 := hb56.size
          clear hP6 hK6 hb56 hF6' hb45
          go_loopw [7, 8] (fun v i wr => ∃ k : Nat, k ≤ N ∧ i = .int .i64 ((64 * k : Nat) : Int) ∧ OwnV wr 3 w.heap.size v (i64s (blocks k hw (padded L))) ∧ Below w6.heap.size w6 wr) (fun _ i _ => 64 * N - (intOf i).toNat)
          case atStart => exact ⟨0, by omega, rfl, hF0, hb0⟩
          case round =>
            obtain ⟨k, hk, rfl, hO, hbr⟩ := hrel
            clear hF0 hb0
            have h8k := blocks_eight k hw_eight (padded L)
            obtain ⟨Ah, ch, rfl, hch, _⟩ := OwnV.lenN (n := 8) hO (by rw [i64s_length, h8k.len])
            have hzr := hbr.size
            by_cases hlt : k < N
            · have hbs := blocks_succ k hw (padded L)
              have hdl : (((padded L).drop (64 * k)).take 64).length = 64 := by rw [List.length_take, List.length_drop, HPL2.out]; omega
              have hcomp : comp (blocks k hw (padded L)) (((padded L).drop (64 * k)).take 64) = comp (blocks k hw (padded L)) ((padded L).drop (64 * k)) := comp_take _ _
              rw [← hcomp] at hbs
              obtain ⟨Ap, cp, hpe, hrd, _⟩ := OwnB.form (HP6.out.below_ hbr)
              injection hpe with he1 he2 he3
              subst he1 he3
              have hrd' := (hrd.drop (64 * k) (cap := cq) (by rw [HPL2.out]; omega)).take 64
              obtain ⟨I, hI⟩ : ∃ I : Nat, I = 64 * k := ⟨_, rfl⟩
              rw [← hI] at hrd' hdl hbs ⊢
              have i1 : (I : Int) + 64 ≤ ((64 * N : Nat) : Int) := by omega
              have i2 : (I : Int) + 64 ≤ (cq : Int) := by omega
              have i3 : (I : Int) ≤ (cq : Int) := by omega
              have e1 : (cq = I) = False := by simp; omega
              have i5 : I < 64 * N := by omega
              rw [if_neg (by omega : ¬ cq = I)] at hrd'
              generalize hblk : ((padded L).drop I).take 64 = blk at *
              have HI := Lib.hid hI
              have HBS := Lib.hid hbs
              have HO1 := Lib.hid hO
              have HBR := Lib.hid hbr
              have HRD := Lib.hid hrd'
              have HDL := Lib.hid hdl
              have H8K := Lib.hid h8k
              clear hI hbs hO hbr hrd hrd' hdl hblk hcomp h8k he2
              go_wp2_with (first
                | (go_at_call 76
                   refine (refblock_any _ _ blk _ wr.heap.size (Nat.le_refl _) HDL.out HRD.out).mono ?_
                   rintro e w7 ⟨v7, rfl, hO7, hb7⟩
                   obtain ⟨A7, c7, rfl, hc7, _⟩ := OwnV.lenN (n := 64) hO7 (by rw [i64s_length, sched_length])
                   have HB7 := Lib.hid hb7
                   have HO7 := Lib.hid hO7
                   clear hb7 hO7)
                | (go_at_call 75
                   refine (refstep_any Ah A7 Ak ch c7 ck (blocks k hw (padded L)) (sched blk 64) _ w7.heap.size (Nat.le_refl _) H8K.out (sched_length _ _) (sched_fit _ _)
                     ((OwnV.rdv (HO1.out.below_ HB7.out)).mono (fun k hk => hk.2)) ((OwnV.rdv HO7.out).mono (fun k hk => hk.2)) ((OwnV.rdv ((HK6.out.below_ HBR.out).below_ HB7.out)).mono (fun k hk => hk.2))).mono ?_
                   rintro e w8 ⟨v8, rfl, hO8, hb8⟩
                   have hb68 := HBR.out.trans ((HB7.out.trans (hb8.mono HB7.out.size)).mono hzr)
                   have hO8' := hO8.mono (fun k hk => Nat.le_trans hs6 (Nat.le_trans hzr (Nat.le_trans HB7.out.size (hO8.lt k hk).1)))
                   clear hO8 hb8))
              go_roundw
              case rel => exact ⟨k + 1, by omega, by have := HI.out; congr 1; omega, by rw [HBS.out]; exact hO8', hb68⟩
              case measure => simp [intOf]; omega
            · have hkn : k = N := by omega
              subst hkn
              have hsh : sha L = (blocks k hw (padded L)).flatMap be4 := by
                unfold sha
                rw [HPL2.out, show 64 * k / 64 = k by omega]
              generalize blocks k hw (padded L) = rs at *
              have hrl := h8k.len
              have hrf := h8k.fit
              have hgr : ∀ j, j < 8 → (i64s rs)[j]? = some (.int .i64 ((rs.getD j 0 : Nat) : Int)) := fun j hj => i64s_get (by rw [hrl]; exact hj)
              obtain ⟨g, off, ch', hv, _, _, hgb, hgl, hrd⟩ := hO.ptr (n := 8) (by rw [i64s_length, hrl]) (by omega)
              injection hv with hv1 hv2 hv3
              subst hv1 hv3
              have hb6r := HB6.out.trans (hbr.mono hs6)
              have HSH := Lib.hid hsh
              have HRL := Lib.hid hrl
              have HRF := Lib.hid hrf
              have HG := Lib.hid (fun W (hb : Below wr.heap.size wr W) j (hj : j < 8) => (hb.cell (p := ⟨g, off + j, none⟩) hgl).trans (hrd j _ (hgr j hj)))
              have hsr6 := hb6r.size
              have HB6R := Lib.hid hb6r
              clear hsh hrl hrf hgr hO hbr hb6r hrd hv2 h8k hlt hk
              obtain ⟨w9, rfl⟩ : ∃ w9 : World, w9 = wr := ⟨_, rfl⟩
              rw [show ((64 * k : Nat) : Int) = 64 * (k : Int) by omega]
              go_wp2
              have hO0 : OwnV w9 5 w9.heap.size (.slice none 0 0) (bvs ((rs.take 0).flatMap be4)) := OwnV.nil _ _ _
              have hb0 := Below.refl w9.heap.size w9
              go_loopw [9, 10] (fun v i wr => ∃ j : Nat, j ≤ 8 ∧ i = .int .i64 j ∧ OwnV wr 5 w9.heap.size v (bvs ((rs.take j).flatMap be4)) ∧ Below w9.heap.size w9 wr) (fun _ i _ => 8 - (intOf i).toNat)
              case atStart => exact ⟨0, by omega, rfl, hO0, hb0⟩
              case round =>
                obtain ⟨j, hj, rfl, hO, hbr⟩ := hrel
                clear hO0 hb0
                by_cases hlt8 : j < 8
                · have hz := HRF.out.get j
                  have htk : (rs.take (j + 1)).flatMap be4 = (rs.take j).flatMap be4 ++ be4 (rs.getD j 0) := by
                    have hjl : j < rs.length := by rw [HRL.out]; exact hlt8
                    rw [List.take_succ_eq_append_getElem hjl, List.flatMap_append, List.getD, List.getElem?_eq_getElem hjl]; simp
                  have hc0 := HG.out wr hbr j hlt8
                  have hpj : (bvs ((rs.take j).flatMap be4)).length = 4 * j := by
                    rw [bvs_length, List.length_flatMap]
                    have : ∀ l : List Nat, (l.map fun x => (be4 x).length).sum = 4 * l.length := by
                      intro l; induction l with
                      | nil => rfl
                      | cons x l ih => simp only [List.map_cons, List.sum_cons, ih, List.length_cons]; simp [be4]; omega
                    rw [this, List.length_take, HRL.out]; omega
                  obtain ⟨d1, d2, d3, b0, b1, b2, b3, y0, y1, y2, y3, y4, y5, y6, y7, y8, y9, hbe⟩ := be4_facts (rs.getD j 0) hz
                  have HG1 := Lib.hid (fun W hb => HG.out W hb j hlt8)
                  generalize rs.getD j 0 = z at *
                  obtain ⟨A9, c9, rfl, hc9, hc9m⟩ := OwnV.lenN (n := 4 * j) hO hpj
                  have HTK := Lib.hid htk
                  have HPJ := Lib.hid hpj
                  have HBE := Lib.hid hbe
                  have j1 : (j : Int) < 8 := by omega
                  have x0 := wrp (b0 : Int) (by omega) (by omega)
                  have x1 := wrp (d1 : Int) (by omega) (by omega)
                  have x2 := wrp (d2 : Int) (by omega) (by omega)
                  have hc0 : wr.drew.cell? ⟨g, off + j, none⟩ = some (.int .i64 (z : Int)) := hc0
                  have hOd : OwnV wr.drew 5 w9.heap.size (.slice A9 (4 * j) c9) (bvs ((rs.take j).flatMap be4)) := hO.drew
                  have hbd : Below w9.heap.size w9 wr.drew := hbr.drew
                  have hba := hbd.alloc hbd.size (.cells #[.int .u8 (b0 : Int), .int .u8 (b1 : Int), .int .u8 (b2 : Int), .int .u8 (b3 : Int)] 5)
                  have hsa := hba.size
                  have HOA := Lib.hid (hOd.alloc (.cells #[.int .u8 (b0 : Int), .int .u8 (b1 : Int), .int .u8 (b2 : Int), .int .u8 (b3 : Int)] 5))
                  have HBA := Lib.hid hba
                  have ha0 := HG1.out _ hba
                  have HA0 := Lib.hid ha0
                  have hsrc : 0 < 4 → ∃ ad, (some ⟨wr.drew.heap.size, 0, none⟩ : Option Addr) = some ad ∧ ∀ i u, [Value.int .u8 (b0 : Int), .int .u8 (b1 : Int), .int .u8 (b2 : Int), .int .u8 (b3 : Int)][i]? = some u → (wr.drew.alloc (.cells #[.int .u8 (b0 : Int), .int .u8 (b1 : Int), .int .u8 (b2 : Int), .int .u8 (b3 : Int)] 5)).cell? (ad.add i) = some u := fun _ => ⟨_, rfl, fun i u hi => by
                    rw [addr_add, Nat.zero_add, cell_of_row _ _ i _ _ (0, 0) (heap_alloc_new wr.drew _)]; simpa using hi⟩
                  have HSRC := Lib.hid hsrc
                  clear htk hpj hbe hO hbr hOd hbd hba ha0 hsrc hlt8 hj
                  go_wp2_with fail
                  go_region_held3 (fun w' => w'.cell? ⟨g, off + j, none⟩ = some (.int .i64 (z : Int))) (first | exact hc0 | exact HA0.out | exact d0)
                    ((refine step_append_v u8.el (by rfl) (.tmp 59) (.tmp 83) rfl w9.heap.size _ (bvs ((rs.take j).flatMap be4)) _ 4 4 [.int .u8 (b0 : Int), .int .u8 (b1 : Int), .int .u8 (b2 : Int), .int .u8 (b3 : Int)] rfl rfl HOA.out rfl HSRC.out (by intro u hu; simp only [List.mem_cons, List.not_mem_nil, or_false] at hu; rcases hu with rfl | rfl | rfl | rfl <;> rfl) (by rw [HPJ.out]; omega) (by rw [HPJ.out]; omega) hsa ?_
                      intro v2 w2 hO2 hg2 hat2
                      have hO2' : OwnV w2 5 w9.heap.size v2 (bvs ((rs.take (j + 1)).flatMap be4)) := by rw [HTK.out, bvs_append, HBE.out]; exact hO2
                      obtain ⟨A2, c2, rfl, hc2, _⟩ := OwnV.lenN (n := 4 * j + 4) hO2 (by rw [List.length_append, HPJ.out]; rfl)
                      have hb2 := HBA.out.grown hg2 hsa (fun x hx => (OwnV.lt HOA.out x hx).1)
                      have d0 := HG1.out _ hb2))
                  go_wp2_with fail
                  go_roundw
                  case rel => exact ⟨j + 1, by omega, by go_num, hO2', hb2⟩
                  case measure => simp [intOf]; omega
                · have e8 : j = 8 := by omega
                  subst e8
                  rw [List.take_of_length_le (by rw [HRL.out]; omega), ← HSH.out] at hO
                  have hO' := OwnV.mono (base' := w.heap.size) hO (fun k hk => Nat.le_trans hsr6 (OwnV.lt hO k hk).1)
                  have hbb := HB6R.out.trans (hbr.mono hsr6)
                  clear hO hbr
                  go_wp2
                  go_ret
                  exact ⟨_, rfl, hO', hbb⟩
