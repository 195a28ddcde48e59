/- The law 'CheckTurned' answers true for every input, and its arguments read afterwards as before; no condition. The frame follows the kit's skeleton; the walk is ours. -/
import Derived.Test.YtndpaehcjaejpaaRows
import Derived.Test.YtndpaehcjaejpaaArgs
import Derived.Test.YtndpaehcjaejpaaCheckSmall
import Derived.Test.YtndpaehcjaejpaaCrcMore
import Derived.RegionTactic
import Derived.ChangeAlike
import Derived.Deep.QuietTactic
import Derived.BigQuiet
import Derived.WalkKit
import Derived.ProofKit
import Derived.OpenShut
import Derived.ShutString
import Derived.ChangeOld
import Derived.Below
import Derived.SizedLaws
namespace Go.Proofs.Ytndpaehcjaejpaa.checkTurned
open Go.ChangeShapes Go.WideShapes Go.ChangeAt Go.RowKit
set_option linter.unusedVariables false

theorem own : ownKnob Try.prog.godebug = none := by kernel_rfl
theorem laidOut : laidOutB Try.prog = true := by kernel_rfl

open Crc
theorem ret_bool {a b : Bool} (h : a = b) : Ending.returned (.bool a) = .returned (.bool b) := by rw [h]
theorem byte_of {a : Int} (h : (Lit.int .u8 a).wf = true) : ∃ x : UInt8, a = ((x.toNat : Nat) : Int) := ⟨_, (u8_of_wf h).symm⟩
/-- is any of them other than 0? -/
def some' (l : List UInt8) : Bool := l.any (fun c => c != 0)
theorem some_snoc (l : List UInt8) (c : UInt8) : some' (l ++ [c]) = (some' l || c != 0) := by simp [some']
theorem some_zero (l : List UInt8) (h : ∀ c ∈ l, c = 0) : some' l = false := by
  unfold some'; rw [List.any_eq_false]; intro c hc; simp [h c hc]
theorem set_app (a b : List UInt8) (i : Nat) (x : UInt8) (h : i < a.length) : (a ++ b).set i x = a.set i x ++ b := List.set_append_left i x h
/-- what the loop makes of the sector, k rounds on -/
theorem turn_step (D : List UInt8) (P k : Nat) (bs T : List UInt8) (h : P + k < D.length) (hk : k < bs.length) (hi : P + k < (burst D P k bs ++ T).length) :
    (burst D P k bs ++ T)[P + k] = D[P + k] ∧ (burst D P k bs ++ T).set (P + k) (D[P + k] ^^^ bs[k]) = burst D P (k+1) bs ++ T := by
  have hl := burst_length D P k bs (by omega) (by omega)
  refine ⟨?_, ?_⟩
  · rw [List.getElem_append_left (by omega)]
    exact burst_next D P k bs h hk (by omega)
  · rw [set_app _ _ _ _ (by omega), burst_step D P k bs h hk]
theorem turn_end (D : List UInt8) (P k : Nat) (bs : List UInt8) (h1 : 1 ≤ D.length) (h2 : D.length ≤ 4092) (h : P + k ≤ D.length) (hk : k ≤ bs.length) (h4 : k ≤ 4) (ht : some' (bs.take k) = true) :
    takeE (burst D P k bs ++ be4 (crc D)) = 6 ∧ takeB (burst D P k bs ++ be4 (crc D)) = [] := by
  refine take_other D _ (burst_length D P k bs h hk) h1 h2 (fun he => ?_)
  have := some_zero _ (run_burst D P k bs h hk h4 he)
  rw [ht] at this
  cases this
theorem ne0 (y : Nat) : ((y : Int) != 0) = !(y == 0) := by rw [Bool.eq_iff_iff]; simp
theorem xor_u8 (x y : UInt8) : bits BinOp.xor IntKind.u8 ((x.toNat : Nat) : Int) ((y.toNat : Nat) : Int) = (((x ^^^ y).toNat : Nat) : Int) := by
  have h1 := x.toNat_lt; have h2 := y.toNat_lt
  rw [u8_xor_nat _ _ h1 h2, UInt8.toNat_xor]

set_option maxRecDepth 100000 in
set_option maxHeartbeats 2000000 in
theorem walk (a0 : Option Addr) (len0 cap0 : Nat) (l0 : List UInt8) (a1 : Int) (a2 : Int) (a3 : Int) (a4 : Int) (a5 : Int) (a6 : Int) (w : World) (w0 : ArgB w a0 len0 cap0 l0) (w1 : (Lit.int .i64 a1).wf = true) (w2 : (Lit.int .i64 a2).wf = true) (w3 : (Lit.int .u8 a3).wf = true) (w4 : (Lit.int .u8 a4).wf = true) (w5 : (Lit.int .u8 a5).wf = true) (w6 : (Lit.int .u8 a6).wf = true) :
    Calls Try.prog 6 #[.slice a0 len0 cap0, .int .i64 a1, .int .i64 a2, .int .u8 a3, .int .u8 a4, .int .u8 a5, .int .u8 a6] w fun e w' => e = .returned (.bool true) ∧ Below w.heap.size w w' := by
  obtain ⟨hl0, hf0, hm0, hr0⟩ := w0
  obtain ⟨hb10, hb11⟩ := bounds_i64 w1
  obtain ⟨x3, rfl⟩ := byte_of w3
  obtain ⟨x4, rfl⟩ := byte_of w4
  obtain ⟨x5, rfl⟩ := byte_of w5
  obtain ⟨x6, rfl⟩ := byte_of w6
  have l3 := x3.toNat_lt
  have l4 := x4.toNat_lt
  have l5 := x5.toNat_lt
  have l6 := x6.toNat_lt
  obtain ⟨hb20, hb21⟩ := bounds_i64 w2
  have HL0 := Lib.hid hl0
  have HB0 := Lib.hid hb10
  have HB1 := Lib.hid hb11
  clear hb10 hb11 w1 w2 w3 w4 w5 w6
  by_cases hc1 : a1 ≤ 4 ∨ 4096 < a1
  · have e1 : layE l0 a1 = 1 := by unfold layE; rw [if_pos hc1]
    have e2 : layB l0 a1 = [] := by unfold layB; rw [if_pos hc1]
    have H1 := Lib.hid e1
    have H2 := Lib.hid e2
    clear e1 e2 hl0
    by_cases h4 : a1 ≤ 4
    all_goals
      have h5 : a1 ≤ 4 ∨ (4 < a1 ∧ 4096 < a1) := by omega
      clear h5
      go_enter Try.func6, Try.ntmps6
      go_wp2_with (first
        | (go_at_call 9; refine (small_any _).mono ?_; rintro e w1 ⟨rfl, hb1⟩)
        | (go_at_call 14
           refine (lay_any a0 len0 cap0 a1 l0 w1 w.heap.size hb1.size HL0.out (by omega) (hr0.below hb1) HB0.out HB1.out).mono ?_
           rw [H1.out, H2.out]
           rintro e w2 ⟨v2, rfl, hO2, hb2⟩
           obtain ⟨A2, c2, rfl, _, _⟩ := hO2.form
           have hbw2 := hb1.trans (hb2.mono hb1.size)
           clear hO2 hb2))
      go_ret
      exact ⟨rfl, hbw2⟩
  · by_cases hc2 : a1 - 4 < (l0.length : Int)
    · have e1 : layE l0 a1 = 2 := by unfold layE; rw [if_neg hc1, if_pos hc2]
      have e2 : layB l0 a1 = [] := by unfold layB; rw [if_neg hc1, if_pos hc2]
      have H1 := Lib.hid e1
      have H2 := Lib.hid e2
      have h6 : 5 ≤ a1 := by omega
      have h7 : a1 ≤ 4096 := by omega
      clear e1 e2 hl0 hc1 hc2
      go_enter Try.func6, Try.ntmps6
      go_wp2_with (first
        | (go_at_call 9; refine (small_any _).mono ?_; rintro e w1 ⟨rfl, hb1⟩)
        | (go_at_call 14
           refine (lay_any a0 len0 cap0 a1 l0 w1 w.heap.size hb1.size HL0.out (by omega) (hr0.below hb1) HB0.out HB1.out).mono ?_
           rw [H1.out, H2.out]
           rintro e w2 ⟨v2, rfl, hO2, hb2⟩
           obtain ⟨A2, c2, rfl, _, _⟩ := hO2.form
           have hbw2 := hb1.trans (hb2.mono hb1.size)
           clear hO2 hb2))
      go_ret
      exact ⟨rfl, hbw2⟩
    · have e1 : layE l0 a1 = 0 := by unfold layE; rw [if_neg hc1, if_neg hc2]
      have e2 : layB l0 a1 = sealed' (pad l0 a1.toNat) := by unfold layB; rw [if_neg hc1, if_neg hc2]
      obtain ⟨N, rfl⟩ := Int.eq_ofNat_of_zero_le (show 0 ≤ a1 by omega)
      simp only [Int.toNat_natCast] at e2
      obtain ⟨M, rfl⟩ : ∃ M, N = M + 4 := ⟨N - 4, by omega⟩
      have h1 : 1 ≤ M := by omega
      have h2 : M ≤ 4092 := by omega
      have hpl := pad_length l0 (M + 4) (by omega)
      rw [Nat.add_sub_cancel] at hpl
      generalize pad l0 (M + 4) = D at *
      have hsl := sealed_length D
      rw [hpl] at hsl
      have H1 := Lib.hid e1
      have H2 := Lib.hid e2
      have HSL := Lib.hid hsl
      have HPL := Lib.hid hpl
      clear e1 e2 hl0 hc1 hc2 hsl hpl
      by_cases hout : a2 < 0 ∨ (M : Int) - 1 < a2 ∨ (x3.toNat = 0 ∧ x4.toNat = 0 ∧ x5.toNat = 0 ∧ x6.toNat = 0)
      · by_cases ha : a2 < 0
        · clear hout
          go_enter Try.func6, Try.ntmps6
          go_wp2_with (first
            | (go_at_call 9; refine (small_any _).mono ?_; rintro e w1 ⟨rfl, hb1⟩)
            | (go_at_call 14
               refine (lay_any a0 len0 cap0 _ l0 w1 w.heap.size hb1.size HL0.out (by omega) (hr0.below hb1) HB0.out HB1.out).mono ?_
               rw [H1.out, H2.out]
               rintro e w2 ⟨v2, rfl, hO2, hb2⟩
               obtain ⟨A2, c2, rfl, _, hcc⟩ := hO2.form
               have hbw2 := hb1.trans (hb2.mono hb1.size)
               rw [HSL.out] at hcc ⊢
               clear hO2 hb2 HB0 HB1))
          go_ret
          exact ⟨rfl, hbw2⟩
        · by_cases hb : (M : Int) - 1 < a2
          · clear hout
            go_enter Try.func6, Try.ntmps6
            go_wp2_with (first
              | (go_at_call 9; refine (small_any _).mono ?_; rintro e w1 ⟨rfl, hb1⟩)
              | (go_at_call 14
                 refine (lay_any a0 len0 cap0 _ l0 w1 w.heap.size hb1.size HL0.out (by omega) (hr0.below hb1) HB0.out HB1.out).mono ?_
                 rw [H1.out, H2.out]
                 rintro e w2 ⟨v2, rfl, hO2, hb2⟩
                 obtain ⟨A2, c2, rfl, _, hcc⟩ := hO2.form
                 have hbw2 := hb1.trans (hb2.mono hb1.size)
                 rw [HSL.out] at hcc ⊢
                 clear hO2 hb2 HB0 HB1))
            go_ret
            exact ⟨rfl, hbw2⟩
          · obtain ⟨z3, z4, z5, z6⟩ : x3.toNat = 0 ∧ x4.toNat = 0 ∧ x5.toNat = 0 ∧ x6.toNat = 0 := by omega
            rw [z3, z4, z5, z6]
            clear hout z3 z4 z5 z6
            go_enter Try.func6, Try.ntmps6
            go_wp2_with (first
              | (go_at_call 9; refine (small_any _).mono ?_; rintro e w1 ⟨rfl, hb1⟩)
              | (go_at_call 14
                 refine (lay_any a0 len0 cap0 _ l0 w1 w.heap.size hb1.size HL0.out (by omega) (hr0.below hb1) HB0.out HB1.out).mono ?_
                 rw [H1.out, H2.out]
                 rintro e w2 ⟨v2, rfl, hO2, hb2⟩
                 obtain ⟨A2, c2, rfl, _, hcc⟩ := hO2.form
                 have hbw2 := hb1.trans (hb2.mono hb1.size)
                 rw [HSL.out] at hcc ⊢
                 clear hO2 hb2 HB0 HB1))
            go_ret
            exact ⟨rfl, hbw2⟩
      · obtain ⟨P, rfl⟩ := Int.eq_ofNat_of_zero_le (show 0 ≤ a2 by omega)
        have hP : P < M := by omega
        have hsum : ((x3.toNat : Int) + (x4.toNat : Int) + (x5.toNat : Int) + (x6.toNat : Int) == 0) = false := by rw [beq_eq_false_iff_ne]; omega
        clear hout hb20 hb21
        go_enter Try.func6, Try.ntmps6
        go_wp2_with (first
          | (go_at_call 9; refine (small_any _).mono ?_; rintro e w1 ⟨rfl, hb1⟩)
          | (go_at_call 14
             refine (lay_any a0 len0 cap0 _ l0 w1 w.heap.size hb1.size HL0.out (by omega) (hr0.below hb1) HB0.out HB1.out).mono ?_
             rw [H1.out, H2.out]
             rintro e w2 ⟨v2, rfl, hO2, hb2⟩
             obtain ⟨A2, c2, rfl, _, hcc⟩ := hO2.form
             have hbw2 := hb1.trans (hb2.mono hb1.size)
             rw [HSL.out] at hO2 hcc ⊢
             clear hb2 HB0 HB1))
        have hlx : (sealed' D).length = M + 4 := HSL.out
        obtain ⟨g, c', he, hbg, hg2, -⟩ := hO2.at_ (i := 0) (by omega)
        injection he with he1 he2 he3
        subst he1 he3
        clear he2 hlx
        have hrow0 : Row (w2.alloc (.cells #[.int .u8 ((x3.toNat : Nat) : Int), .int .u8 ((x4.toNat : Nat) : Int), .int .u8 ((x5.toNat : Nat) : Int), .int .u8 ((x6.toNat : Nat) : Int)] 5)) 5 w2.heap.size [x3, x4, x5, x6] := heap_alloc_new w2 _
        have hO0 := hO2.alloc (.cells #[.int .u8 ((x3.toNat : Nat) : Int), .int .u8 ((x4.toNat : Nat) : Int), .int .u8 ((x5.toNat : Nat) : Int), .int .u8 ((x6.toNat : Nat) : Int)] 5)
        have hb0 := hbw2.alloc hbw2.size (.cells #[.int .u8 ((x3.toNat : Nat) : Int), .int .u8 ((x4.toNat : Nat) : Int), .int .u8 ((x5.toNat : Nat) : Int), .int .u8 ((x6.toNat : Nat) : Int)] 5)
        have hs1 := hb1.size
        obtain ⟨gb, hgb⟩ : ∃ gb, gb = w2.heap.size := ⟨_, rfl⟩
        have hne : gb ≠ g := by omega
        rw [← hgb] at hrow0 ⊢
        generalize w2.alloc _ = w3 at hrow0 hO0 hb0 ⊢
        have HBs : Hid ([x3, x4, x5, x6] = [x3, x4, x5, x6]) := Lib.hid rfl
        obtain ⟨bs, hbs⟩ : ∃ bs, bs = [x3, x4, x5, x6] := ⟨_, rfl⟩
        have hbl : bs.length = 4 := by rw [hbs]; rfl
        rw [← hbs] at hrow0
        have HBL := Lib.hid hbl
        have hO00 : Own w3 5 w1.heap.size (.slice (some ⟨g, 0, none⟩) (M + 4) c2) (burst D P 0 bs ++ be4 (crc D)) := by
          rw [burst_zero D P bs (by rw [HPL.out]; omega)]; exact hO0
        clear hbs hgb hbl hO2 hb1 hbw2 hO0 hbg hg2 HBs
        go_loopw [19, 20] (fun t i wr => ∃ k : Nat, k ≤ 4 ∧ P + k ≤ M ∧ i = .int .i64 k ∧ t = .bool (some' (bs.take k)) ∧ Own wr 5 w1.heap.size (.slice (some ⟨g, 0, none⟩) (M + 4) c2) (burst D P k bs ++ be4 (crc D)) ∧ Row wr 5 gb bs ∧ Below w.heap.size w wr) (fun _ i _ => 4 - (intOf i).toNat)
        case atStart => exact ⟨0, by omega, by omega, rfl, by simp [some'], hO00, hrow0, hb0⟩
        case round =>
          obtain ⟨k, hk4, hPk, rfl, rfl, hO, hrow, hbr⟩ := hrel
          have hbul := burst_length D P k bs (by rw [HPL.out]; exact hPk) (by rw [HBL.out]; exact hk4)
          have hXl : (burst D P k bs ++ be4 (crc D)).length = M + 4 := by rw [List.length_append, hbul, HPL.out, be4_length]
          have HXL := Lib.hid hXl
          clear hO00 hrow0 hb0 hbul hXl
          by_cases hin : k < 4 ∧ P + k < M
          · obtain ⟨hk, hPkM⟩ := hin
            have hkb : k < bs.length := by rw [HBL.out]; exact hk
            have hPD : P + k < D.length := by rw [HPL.out]; exact hPkM
            obtain ⟨hbg, hgs, hcx, hfz, hset⟩ := hO.at_g (i := P + k) (by rw [HXL.out]; omega)
            obtain ⟨ts1, ts2⟩ := turn_step D P k bs (be4 (crc D)) hPD hkb (by rw [HXL.out]; omega)
            have hO' := hset (D[P + k] ^^^ bs[k])
            rw [ts2] at hO'
            have hrow' := hrow.far (p := ⟨g, P + k, none⟩) hne (bv (D[P + k] ^^^ bs[k]))
            have hbr' := hbr.setCell (p := ⟨g, P + k, none⟩) (by show w.heap.size ≤ g; omega) (bv (D[P + k] ^^^ bs[k]))
            have hcb := hrow.cell hkb
            have hcb' := hrow'.cell hkb
            have hss := some_snoc (bs.take k) bs[k]
            rw [← take_snoc hkb] at hss
            rw [ts1] at hcx
            have hxo := xor_u8 D[P + k] bs[k]
            unfold bv at hcx hcb hcb' hO' hrow' hbr'
            have hy := bs[k].toNat_lt
            have hyb : (bs[k] != 0) = !(bs[k].toNat == 0) := by
              rw [Bool.eq_iff_iff]; simp [← UInt8.toNat_inj]
            rw [hyb] at hss
            have hz := (D[P + k] ^^^ bs[k]).toNat_lt
            generalize (D[P + k] ^^^ bs[k]).toNat = z at *
            generalize D[P + k].toNat = x at *
            generalize bs[k].toNat = y at *
            have HSS := Lib.hid hss
            have HO := Lib.hid hO'
            have HR := Lib.hid hrow'
            have HB := Lib.hid hbr'
            generalize some' (bs.take k) = T at *
            have q0 : (0 : Int) ≤ (P : Int) + (k : Int) := by omega
            have q1 : (P : Int) + (k : Int) < (M : Int) + 4 := by omega
            have q2 : ((P : Int) + (k : Int)).toNat = P + k := by omega
            have q3 : (0 : Int) ≤ (k : Int) := by omega
            have q4 : (k : Int) < 4 := by omega
            clear hss hO' hrow' hbr' hset hO hrow hbr ts1 ts2 hyb
            go_wp2_with fail
            go_region
            all_goals
              go_wp2
            all_goals
              go_roundw
              case rel =>
                refine ⟨k + 1, by omega, by omega, by go_num, ?_, HO.out.drew, HR.out.drew, HB.out.drew⟩
                rw [HSS.out]
                first | (simp [ne0, *]; done) | (rw [ne0]; simp_all; done)
              case measure => simp [intOf]; omega
          · have hR := Rd.of_own (l := burst D P k bs ++ be4 (crc D)) (n := M + 4) (base := w1.heap.size) (by have := hO; unfold Own at this; rwa [HXL.out] at this)
            rcases hT : some' (bs.take k) with _ | _
            · generalize burst D P k bs ++ be4 (crc D) = X at hR HXL
              clear hO hrow hT hne
              by_cases hk : k < 4
              · have hge : M ≤ P + k := by omega
                clear hin
                go_wp2_with (go_at_call 15
                             refine (take_any _ (M+4) c2 X wr wr.heap.size (Nat.le_refl _) HXL.out hcc (by omega) hR).mono ?_
                             rintro e w5 ⟨v5, rfl, hO5, hb5⟩
                             obtain ⟨A5, c5, rfl, _, _⟩ := hO5.form
                             have hbw5 := hbr.trans (hb5.mono hbr.size)
                             clear hO5 hb5)
                go_ret
                exact ⟨rfl, hbw5⟩
              · clear hin
                go_wp2_with (go_at_call 15
                             refine (take_any _ (M+4) c2 X wr wr.heap.size (Nat.le_refl _) HXL.out hcc (by omega) hR).mono ?_
                             rintro e w5 ⟨v5, rfl, hO5, hb5⟩
                             obtain ⟨A5, c5, rfl, _, _⟩ := hO5.form
                             have hbw5 := hbr.trans (hb5.mono hbr.size)
                             clear hO5 hb5)
                go_ret
                exact ⟨rfl, hbw5⟩
            · obtain ⟨te, tb⟩ := turn_end D P k bs (by rw [HPL.out]; exact h1) (by rw [HPL.out]; exact h2) (by rw [HPL.out]; exact hPk) (by rw [HBL.out]; exact hk4) hk4 hT
              generalize burst D P k bs ++ be4 (crc D) = X at hR HXL te tb
              have TE := Lib.hid te
              have TB := Lib.hid tb
              clear hO hrow hT hne te tb
              by_cases hk : k < 4
              · have hge : M ≤ P + k := by omega
                clear hin
                go_wp2_with (go_at_call 15
                             refine (take_any _ (M+4) c2 X wr wr.heap.size (Nat.le_refl _) HXL.out hcc (by omega) hR).mono ?_
                             rw [TE.out, TB.out]
                             rintro e w5 ⟨v5, rfl, hO5, hb5⟩
                             obtain ⟨A5, c5, rfl, _, _⟩ := hO5.form
                             have hbw5 := hbr.trans (hb5.mono hbr.size)
                             clear hO5 hb5)
                go_ret
                exact ⟨rfl, hbw5⟩
              · clear hin
                go_wp2_with (go_at_call 15
                             refine (take_any _ (M+4) c2 X wr wr.heap.size (Nat.le_refl _) HXL.out hcc (by omega) hR).mono ?_
                             rw [TE.out, TB.out]
                             rintro e w5 ⟨v5, rfl, hO5, hb5⟩
                             obtain ⟨A5, c5, rfl, _, _⟩ := hO5.form
                             have hbw5 := hbr.trans (hb5.mono hbr.size)
                             clear hO5 hb5)
                go_ret
                exact ⟨rfl, hbw5⟩

set_option maxRecDepth 100000 in
theorem lifted (os : Os) (started : os.Started) (H : Type) (enc : TypeId × Value → H) :
    ReturnsInHanded {} Try.checked os 6 .any (Rows.checkTurnedSpec.pre6 enc Try.prog Try.f6 Rows.checkTurnedRow.domain false) (Rows.checkTurnedSpec.post enc Try.prog Try.f6 false true false false) := by
  refine returnsInHanded_of_change_sized (C := Try.checked) own started (by kernel_rfl) Try.func6
    (ChangeSpec.witness6 (enc := enc) (C := Try.checked) false ⟨#[], #[.slice none 0 0, .int .i64 0, .int .i64 0, .int .u8 0, .int .u8 0, .int .u8 0, .int .u8 0], []⟩ 8 (by kernel_rfl) (by kernel_rfl) (by kernel_rfl) (by kernel_rfl)) ?_
  intro W base args ds gs before hval0 hW hcnd hsz0 _
  have hval : ∀ (j : Nat) t v, Try.f6.params[j]? = some t → args[j]? = some v → Value.okWide Try.prog W .any base t v := hval0
  have hsz : (DataW.weightsEach Try.prog (Try.f6.params.toList ++ Rows.checkTurnedSpec.plain.varTypes Try.prog) (ds ++ gs)).all (· ≤ reachBytes) = true := hsz0
  clear hsz0
  have hW' := hW
  obtain ⟨p, q, hA0, hV, rfl, hfz, hnd⟩ := hW
  have hA : DataW.TrodAll enc Try.prog W 0 (fun _ => true) true Try.f6.params.toList args.toList ds p := hA0
  rw [Try.params6] at hA hval hsz
  obtain ⟨v0, vs0, d0, ds0, p0, q0, hargs, rfl, rfl, h0, r0⟩ := trodAll_cons hA
  obtain ⟨v1, vs1, d1, ds1, p1, q1, rfl, rfl, rfl, h1, r1⟩ := trodAll_cons r0
  obtain ⟨v2, vs2, d2, ds2, p2, q2, rfl, rfl, rfl, h2, r2⟩ := trodAll_cons r1
  obtain ⟨v3, vs3, d3, ds3, p3, q3, rfl, rfl, rfl, h3, r3⟩ := trodAll_cons r2
  obtain ⟨v4, vs4, d4, ds4, p4, q4, rfl, rfl, rfl, h4, r4⟩ := trodAll_cons r3
  obtain ⟨v5, vs5, d5, ds5, p5, q5, rfl, rfl, rfl, h5, r5⟩ := trodAll_cons r4
  obtain ⟨v6, vs6, d6, ds6, p6, q6, rfl, rfl, rfl, h6, r6⟩ := trodAll_cons r5
  obtain ⟨rfl, rfl, rfl⟩ := trodAll_nil r6
  obtain rfl : args = #[v0, v1, v2, v3, v4, v5, v6] := by cases args; simp_all
  obtain ⟨rfl, rfl⟩ := trodVars_none hV
  obtain ⟨a0, len0, cap0, rfl⟩ := okWide_slice Try.underlying22 (hval 0 22 v0 rfl rfl)
  have k0 := h0
  have lt0 : ∀ x ∈ p0, x.block < W.heap.size := by obtain ⟨m, hm⟩ := k0; exact DataW.trod_lt m _ _ _ hm
  obtain ⟨l0, w0⟩ := open_bytes u8 (by kernel_rfl) (by kernel_rfl) h0 hsz (j := 0) rfl rfl
  clear hsz
  obtain ⟨a1, rfl, rfl, rfl, w1⟩ := open_int Try.underlying3 (hval 1 3 v1 rfl rfl) h1
  obtain ⟨a2, rfl, rfl, rfl, w2⟩ := open_int Try.underlying3 (hval 2 3 v2 rfl rfl) h2
  obtain ⟨a3, rfl, rfl, rfl, w3⟩ := open_int Try.underlying5 (hval 3 5 v3 rfl rfl) h3
  obtain ⟨a4, rfl, rfl, rfl, w4⟩ := open_int Try.underlying5 (hval 4 5 v4 rfl rfl) h4
  obtain ⟨a5, rfl, rfl, rfl, w5⟩ := open_int Try.underlying5 (hval 5 5 v5 rfl rfl) h5
  obtain ⟨a6, rfl, rfl, rfl, w6⟩ := open_int Try.underlying5 (hval 6 5 v6 rfl rfl) h6
  clear hA0 hval0
  simp only [List.append_nil] at hW'
  refine (walk a0 len0 cap0 l0 a1 a2 a3 a4 a5 a6 W w0 w1 w2 w3 w4 w5 w6).mono fun e W' ⟨he, bel⟩ => ?_
  subst he
  exact ⟨_, rfl, _, _, _, [], _, [], hW', trodAll_mk1 (shut_bool Try.underlying4 _), (trodAll_cons_mk (Below.trod laidOut (by kernel_rfl) (of_decide_eq_true (by kernel_rfl)) k0 bel lt0) (trodAll_cons_mk (shut_int Try.underlying3 w1) (trodAll_cons_mk (shut_int Try.underlying3 w2) (trodAll_cons_mk (shut_int Try.underlying5 w3) (trodAll_cons_mk (shut_int Try.underlying5 w4) (trodAll_cons_mk (shut_int Try.underlying5 w5) (trodAll_cons_mk (shut_int Try.underlying5 w6) trodAll_mk0))))))), rfl, bel.frame _, fun h => by cases h⟩

theorem over : Rows.checkTurnedRow.holds Try.pinned (OpenSpec.ofChange Rows.checkTurnedSpec) :=
  OpenClaim.holds_of_wide 6 Try.f6 rfl rfl rfl rfl rfl rfl rfl ⟨rfl, rfl, rfl, rfl, rfl⟩ rfl rfl rfl rfl rfl (by kernel_rfl) Try.func6 (by kernel_rfl)
    (of_decide_eq_true (by kernel_rfl)) (by unfold Func.isWrapper; first | (rw [if_pos (by decide +kernel)]; kernel_rfl) | (rw [if_neg (by decide +kernel)]; exact ⟨rfl, rfl⟩))
    (fun os started H enc _ => lifted os started H enc)

theorem proved : Rows.CheckTurnedSaid := over
end Go.Proofs.Ytndpaehcjaejpaa.checkTurned
