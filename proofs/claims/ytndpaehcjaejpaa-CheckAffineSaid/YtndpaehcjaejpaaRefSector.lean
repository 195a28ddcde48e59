/- The document's own laying and taking: contracts. -/
import Derived.Test.YtndpaehcjaejpaaSector
namespace Go.Proofs.Ytndpaehcjaejpaa.Crc
open Go Go.ChangeShapes Go.WideShapes Go.ChangeAt Go.RowKit
set_option linter.unusedVariables false

def slen : Value → Nat
  | .slice _ n _ => n
  | _ => 0
theorem be4_eq (n : Nat) (h : n < 4294967296) (a b c d : UInt8) : be4 n = [a, b, c, d] ↔ n = a.toNat * 16777216 + b.toNat * 65536 + c.toNat * 256 + d.toNat := by
  have ha := a.toNat_lt; have hb := b.toNat_lt; have hc := c.toNat_lt; have hd := d.toNat_lt
  have key : ∀ (m : Nat) (x : UInt8), UInt8.ofNat m = x ↔ m % 256 = x.toNat := by
    intro m x
    rw [← UInt8.toNat_inj, UInt8.toNat_ofNat']
  unfold be4
  simp only [List.cons.injEq, key, and_true]
  omega

set_option maxRecDepth 100000 in
set_option maxHeartbeats 800000 in
theorem reflay_any (A : Option Addr) (n c : Nat) (N : Int) (l : List UInt8) (w : World) (B : Nat) (hB : B ≤ w.heap.size) (hn : l.length = n) (hm : n ≤ 140737488355328) (hr : Rd w B A l)
    (hN0 : -9223372036854775808 ≤ N) (hN1 : N ≤ 9223372036854775807) :
    Calls Try.prog 16 #[.slice A n c, .int .i64 N] w fun e w' => ∃ v, e = .returned (.tuple #[v, .int .i64 (layE l N)]) ∧ Own w' 5 w.heap.size v (layB l N) ∧ Below w.heap.size w w' := by
  subst hn
  by_cases hc1 : N ≤ 4 ∨ 4096 < N
  · have e1 : layE l N = 1 := by unfold layE; rw [if_pos hc1]
    have e2 : layB l N = [] := by unfold layB; rw [if_pos hc1]
    rw [e1, e2]
    clear e1 e2
    by_cases h4 : N ≤ 4
    · clear hc1
      go_enter Try.func16, Try.ntmps16
      go_wp2
      go_ret2
      exact ⟨_, rfl, Own.nil _ _ _, Below.refl _ _⟩
    · have h5 : 4096 < N := hc1.resolve_left h4
      clear hc1
      go_enter Try.func16, Try.ntmps16
      go_wp2
      go_ret2
      exact ⟨_, rfl, Own.nil _ _ _, Below.refl _ _⟩
  · by_cases hc2 : N - 4 < (l.length : Int)
    · have e1 : layE l N = 2 := by unfold layE; rw [if_neg hc1, if_pos hc2]
      have e2 : layB l N = [] := by unfold layB; rw [if_neg hc1, if_pos hc2]
      rw [e1, e2]
      clear e1 e2
      have h4 : 4 < N := by omega
      have h5 : N ≤ 4096 := by omega
      clear hc1
      go_enter Try.func16, Try.ntmps16
      go_wp2
      go_ret2
      exact ⟨_, rfl, Own.nil _ _ _, Below.refl _ _⟩
    · have e1 : layE l N = 0 := by unfold layE; rw [if_neg hc1, if_neg hc2]
      have e2 : layB l N = sealed' (pad l N.toNat) := by unfold layB; rw [if_neg hc1, if_neg hc2]
      rw [e1, e2]
      clear e1 e2
      obtain ⟨M, rfl⟩ := Int.eq_ofNat_of_zero_le (show 0 ≤ N by omega)
      simp only [Int.toNat_natCast]
      have h4 : 4 < M := by omega
      have h5 : M ≤ 4096 := by omega
      have h6 : l.length ≤ M - 4 := by omega
      clear hc1 hc2
      go_enter Try.func16, Try.ntmps16
      go_wp2_with (with_reducible refine at_slot 21 ?_
                   refine wpList_append_u8 u8 rfl (.tmp 19) (.tmp 20) rfl w.heap.size _ [] _ _ _ l B rfl rfl (Own.nil _ _ _) hr rfl (by simp; omega) (Nat.le_refl _) ?_
                   intro v1 w1 hO1 hg1 hat1
                   rw [List.nil_append] at hO1)
      have hb1 := below_grown (Below.refl w.heap.size w) hg1 (Nat.le_refl _) (Own.nil w 5 w.heap.size) (Nat.le_refl _)
      clear hg1 hat1
      go_loopw [6] (fun v wr => ∃ k : Nat, k ≤ M - 4 - l.length ∧ Own wr 5 w.heap.size v (l ++ List.replicate k 0) ∧ Below w.heap.size w wr) (fun v _ => M - slen v)
      case atStart => exact ⟨0, by omega, by simpa using hO1, hb1⟩
      case round =>
        obtain ⟨k, hk, hO, hbr⟩ := hrel
        clear hO1 hb1
        obtain ⟨A1, c1, rfl, hR, hc1⟩ := hO.form
        have hlen : (l ++ List.replicate k (0 : UInt8)).length = l.length + k := by simp
        have hsn : l ++ List.replicate (k+1) (0 : UInt8) = (l ++ List.replicate k 0) ++ [0] := by rw [List.append_assoc, List.replicate_succ']
        have HS := Lib.hid hsn
        generalize hX : l ++ List.replicate k (0 : UInt8) = X at *
        have HX := Lib.hid hX
        clear hsn hX
        rw [hlen] at hc1 ⊢
        by_cases hlt : l.length + k < M - 4
        · have hR0 : Rd (wr.alloc (.cells #[.int .u8 0] 5)) (wr.heap.size + 1) (some ⟨wr.heap.size, 0, none⟩) [0] := rd_lit _ [0] rfl
          have hOa := hO.alloc (.cells #[.int .u8 0] 5)
          have hba := hbr.alloc hbr.size (.cells #[.int .u8 0] 5)
          have hsa := hba.size
          rw [hlen] at hOa
          have HL := Lib.hid hlen
          clear hO hbr hlen
          go_wp2_with (with_reducible refine at_slot 29 ?_
                       refine wpList_append_u8 u8 rfl (.tmp 27) (.tmp 28) rfl w.heap.size _ X _ 1 1 [0] _ rfl rfl hOa hR0 rfl (by rw [HL.out]; omega) hsa ?_
                       intro v2 w2 hO2 hg2 hat2)
          have hb2 := below_grown hba hg2 hsa hOa (Nat.le_refl _)
          obtain ⟨A2, c2, rfl, _, _⟩ := hO2.form
          have hl2 : (X ++ [0]).length = l.length + (k + 1) := by rw [List.length_append, HL.out]; rfl
          go_roundw
          case rel => exact ⟨k + 1, by omega, by rw [HS.out]; exact hO2, hb2⟩
          case measure => simp only [slen, hl2]; omega
        · have hkM : k = M - 4 - l.length := by omega
          have hD : X = pad l M := by rw [← HX.out, hkM]; rfl
          have hDl : X.length = M - 4 := by rw [hlen]; omega
          have HL := Lib.hid hDl
          have HD := Lib.hid hD
          have hcr := crc_lt X
          have hsr := hbr.size
          have he : l.length + k = X.length := hlen.symm
          rw [he] at hlt ⊢
          have hv0 := be4_vals (crc X)
          rw [show ((crc X : Nat) : Int) / 16777216 % 256 = ((crc X : Nat) : Int) / 16777216 by omega] at hv0
          have HV := Lib.hid hv0
          clear hD hDl hkM hlen he hv0
          go_wp2_with (first
            | (go_at_call 13
               refine (refsum_any A1 _ c1 X _ wr.heap.size rfl (by have := HL.out; omega) hR).mono ?_
               rintro e w2 ⟨rfl, rfl⟩
               have hR0 := rd_lit (w := wr) 5 (be4 (crc X)) HV.out
               have hOa := hO.alloc (.cells #[.int .u8 (((crc X : Nat) : Int) / 16777216), .int .u8 (((crc X : Nat) : Int) / 65536 % 256), .int .u8 (((crc X : Nat) : Int) / 256 % 256), .int .u8 (((crc X : Nat) : Int) % 256)] 5)
               have hba := hbr.alloc hbr.size (.cells #[.int .u8 (((crc X : Nat) : Int) / 16777216), .int .u8 (((crc X : Nat) : Int) / 65536 % 256), .int .u8 (((crc X : Nat) : Int) / 256 % 256), .int .u8 (((crc X : Nat) : Int) % 256)] 5)
               have hsa := hba.size
               clear hO hbr)
            | (with_reducible refine at_slot 45 ?_
               refine wpList_append_u8 u8 rfl (.tmp 32) (.tmp 44) rfl w.heap.size _ X _ 4 4 (be4 (crc X)) _ rfl rfl hOa hR0 rfl (by rw [HL.out]; omega) hsa ?_
               intro v2 w2 hO2 hg2 hat2))
          go_ret2
          refine ⟨v2, rfl, ?_, below_grown hba hg2 hsa hOa (Nat.le_refl _)⟩
          rw [← HD.out]
          exact hO2

theorem wrap_small (n : Int) (h : 0 ≤ n ∧ n ≤ 9223372036854775807) : IntKind.i64.wrap n = n := by rw [IntWalk.i64_left]; exact IntWalk.wrap64_in n ⟨by omega, by omega⟩
theorem sum_eq (n y0 y1 y2 y3 : Nat) (h : n = y0 * 16777216 + y1 * 65536 + y2 * 256 + y3) : ((n : Int) != (y0 : Int) * 16777216 + (y1 : Int) * 65536 + (y2 : Int) * 256 + (y3 : Int)) = false := by
  rw [bne_eq_false_iff_eq]; omega
theorem sum_ne (n y0 y1 y2 y3 : Nat) (h : ¬ n = y0 * 16777216 + y1 * 65536 + y2 * 256 + y3) : ((n : Int) != (y0 : Int) * 16777216 + (y1 : Int) * 65536 + (y2 : Int) * 256 + (y3 : Int)) = true := by
  rw [bne_iff_ne]; omega
theorem add_pos (a : Addr) (n : Nat) (h : 0 < n) : a.add n = ⟨a.block, a.off + n, none⟩ := by unfold Addr.add; rw [if_neg (by omega)]
theorem wrapM (M : Nat) (h : M ≤ 4096) : IntKind.i64.wrap ((M : Int) + 1) = (M : Int) + 1 ∧ IntKind.i64.wrap ((M : Int) + 2) = (M : Int) + 2 ∧ IntKind.i64.wrap ((M : Int) + 3) = (M : Int) + 3 :=
  ⟨wrap_small _ (by omega), wrap_small _ (by omega), wrap_small _ (by omega)⟩
theorem wrapY (y0 y1 y2 y3 : Nat) (h0 : y0 < 256) (h1 : y1 < 256) (h2 : y2 < 256) (h3 : y3 < 256) :
    IntKind.i64.wrap (y0 : Int) = (y0 : Int) ∧ IntKind.i64.wrap (y1 : Int) = (y1 : Int) ∧ IntKind.i64.wrap (y2 : Int) = (y2 : Int) ∧ IntKind.i64.wrap (y3 : Int) = (y3 : Int) ∧
    IntKind.i64.wrap ((y0 : Int) * 16777216) = (y0 : Int) * 16777216 ∧ IntKind.i64.wrap ((y1 : Int) * 65536) = (y1 : Int) * 65536 ∧ IntKind.i64.wrap ((y2 : Int) * 256) = (y2 : Int) * 256 ∧
    IntKind.i64.wrap ((y0 : Int) * 16777216 + (y1 : Int) * 65536) = (y0 : Int) * 16777216 + (y1 : Int) * 65536 ∧
    IntKind.i64.wrap ((y0 : Int) * 16777216 + (y1 : Int) * 65536 + (y2 : Int) * 256) = (y0 : Int) * 16777216 + (y1 : Int) * 65536 + (y2 : Int) * 256 ∧
    IntKind.i64.wrap ((y0 : Int) * 16777216 + (y1 : Int) * 65536 + (y2 : Int) * 256 + (y3 : Int)) = (y0 : Int) * 16777216 + (y1 : Int) * 65536 + (y2 : Int) * 256 + (y3 : Int) := by
  refine ⟨wrap_small _ ?_, wrap_small _ ?_, wrap_small _ ?_, wrap_small _ ?_, wrap_small _ ?_, wrap_small _ ?_, wrap_small _ ?_, wrap_small _ ?_, wrap_small _ ?_, wrap_small _ ?_⟩ <;> omega
set_option maxRecDepth 100000 in
set_option maxHeartbeats 800000 in
theorem reftake_any (A : Option Addr) (n c : Nat) (l : List UInt8) (w : World) (B : Nat) (hB : B ≤ w.heap.size) (hn : l.length = n) (hnc : n ≤ c) (hm : n ≤ 140737488355328) (hr : Rd w B A l) :
    Calls Try.prog 17 #[.slice A n c] w fun e w' => ∃ v, e = .returned (.tuple #[v, .int .i64 (takeE l)]) ∧ Own w' 5 w.heap.size v (takeB l) ∧ Below w.heap.size w w' := by
  subst hn
  by_cases hc1 : l.length < 5 ∨ 4096 < l.length
  · have e1 : takeE l = 4 := by unfold takeE; rw [if_pos hc1]
    have e2 : takeB l = [] := by unfold takeB; rw [if_pos hc1]
    rw [e1, e2]
    clear e1 e2
    by_cases h4 : l.length < 5
    · clear hc1
      go_enter Try.func17, Try.ntmps17
      go_wp2
      go_ret2
      exact ⟨_, rfl, Own.nil _ _ _, Below.refl _ _⟩
    · have h5 : 4096 < l.length := hc1.resolve_left h4
      clear hc1
      go_enter Try.func17, Try.ntmps17
      go_wp2
      go_ret2
      exact ⟨_, rfl, Own.nil _ _ _, Below.refl _ _⟩
  · have h5 : 5 ≤ l.length := by omega
    have h6 : l.length ≤ 4096 := by omega
    have e1 : takeE l = if takeOk l then 0 else 6 := by unfold takeE; rw [if_neg hc1]
    have e2 : takeB l = if takeOk l then l.take (l.length - 4) else [] := by unfold takeB; rw [if_neg hc1]
    rw [e1, e2]
    clear e1 e2 hc1
    obtain ⟨M, hM⟩ : ∃ M, l.length = M + 4 := ⟨l.length - 4, by omega⟩
    have hM1 : 1 ≤ M := by omega
    have hM2 : M ≤ 4092 := by omega
    have hl4 : l.length - 4 = M := by omega
    rw [hl4]
    have ht : (l.take M).length = M := by simp; omega
    have hok : takeOk l = (be4 (crc (l.take M)) == l.drop M) := by unfold takeOk; rw [hl4]
    have hrt := hr.take M
    have hcr := crc_lt (l.take M)
    obtain ⟨ad, rfl, hbl, hc⟩ := hr (by omega)
    have hd : l.drop M = [l[M], l[M+1], l[M+2], l[M+3]] := by
      rw [List.drop_eq_getElem_cons (by omega), List.drop_eq_getElem_cons (by omega), List.drop_eq_getElem_cons (by omega), List.drop_eq_getElem_cons (by omega), List.drop_eq_nil_of_le (by omega)]
    have c0 := hc M (by omega)
    have c1 := hc (M+1) (by omega)
    have c2 := hc (M+2) (by omega)
    have c3 := hc (M+3) (by omega)
    unfold bv at c0 c1 c2 c3
    rw [add_pos ad (M+1) (by omega)] at c1
    rw [add_pos ad (M+2) (by omega)] at c2
    rw [add_pos ad (M+3) (by omega)] at c3
    rw [hd] at hok
    have b0 := l[M].toNat_lt
    have b1 := l[M+1].toNat_lt
    have b2 := l[M+2].toNat_lt
    have b3 := l[M+3].toNat_lt
    have heq : (be4 (crc (l.take M)) == [l[M], l[M+1], l[M+2], l[M+3]]) = decide (crc (l.take M) = l[M].toNat * 16777216 + l[M+1].toNat * 65536 + l[M+2].toNat * 256 + l[M+3].toNat) := by
      rw [Bool.eq_iff_iff, beq_iff_eq, decide_eq_true_eq]
      exact be4_eq _ hcr _ _ _ _
    rw [hok, heq]
    clear hok heq hd hc hr
    generalize l.take M = T at *
    generalize l[M] = x0 at *
    generalize l[M+1] = x1 at *
    generalize l[M+2] = x2 at *
    generalize l[M+3] = x3 at *
    rw [hM]
    rw [hM] at hnc
    clear hM h5 h6 hl4 hm
    have HT := Lib.hid ht
    clear ht
    generalize x0.toNat = y0 at *
    generalize x1.toNat = y1 at *
    generalize x2.toNat = y2 at *
    generalize x3.toNat = y3 at *
    have g0 : (0 : Int) ≤ (M : Int) := by omega
    have g1 : (M : Int) < (M : Int) + 4 := by omega
    have g2 : (M : Int) + 1 < (M : Int) + 4 := by omega
    have g3 : (M : Int) + 2 < (M : Int) + 4 := by omega
    have g4 : (M : Int) + 3 < (M : Int) + 4 := by omega
    have g5 : (0 : Int) ≤ (M : Int) + 1 := by omega
    have g6 : (0 : Int) ≤ (M : Int) + 2 := by omega
    have g7 : (0 : Int) ≤ (M : Int) + 3 := by omega
    have t1 : ((M : Int) + 1).toNat = M + 1 := by omega
    have t2 : ((M : Int) + 2).toNat = M + 2 := by omega
    have t3 : ((M : Int) + 3).toNat = M + 3 := by omega
    obtain ⟨k1, k2, k3⟩ := wrapM M (by omega)
    obtain ⟨u0, u1, u2, u3, m0, m1, m2, s1, s2, s3⟩ := wrapY y0 y1 y2 y3 b0 b1 b2 b3
    by_cases hq : crc T = y0 * 16777216 + y1 * 65536 + y2 * 256 + y3
    · rw [decide_eq_true hq, if_pos rfl, if_pos rfl]
      have hne : (((crc T : Nat) : Int) != (y0 : Int) * 16777216 + (y1 : Int) * 65536 + (y2 : Int) * 256 + (y3 : Int)) = false := sum_eq _ _ _ _ _ hq
      clear hq
      go_enter Try.func17, Try.ntmps17
      go_wp2_with fail
      go_quiet (fail)
      clear g0 g1 g2 g3 g4 g5 g6 g7 t1 t2 t3 k1 k2 k3 u0 u1 u2 u3 m0 m1 m2 s1 s2 s3 c0 c1 c2 c3
      have hbq := below_drewN w.heap.size w nq
      have hrq := hrt.below (hbq.mono hB)
      have hsq := hbq.size
      have hMc : (M : Int) ≤ (c : Int) := by omega
      generalize w.drewN nq = wq at hbq hrq hsq ⊢
      have hOe := own_empty 5 hsq
      have hbe := hbq.alloc hsq (.cells #[] 5)
      have hre := hrq.alloc (by omega) (.cells #[] 5)
      have hse := hbe.size
      go_wp2_with (first
        | (go_at_call 13; refine (refsum_any _ M c T _ B HT.out (by omega) hrq).mono ?_; rintro e w2 ⟨rfl, rfl⟩)
        | (with_reducible refine at_slot 56 ?_
           refine wpList_append_u8 u8 rfl (.tmp 52) (.tmp 55) rfl w.heap.size _ [] _ M c T B rfl rfl hOe hre HT.out (by simp; omega) hse ?_
           intro v2 w2 hO2 hg2 hat2))
      go_ret2
      rw [List.nil_append] at hO2
      exact ⟨v2, rfl, hO2, below_grown hbe hg2 hse hOe (Nat.le_refl _)⟩
    · rw [decide_eq_false hq, if_neg (by decide), if_neg (by decide)]
      have hne : (((crc T : Nat) : Int) != (y0 : Int) * 16777216 + (y1 : Int) * 65536 + (y2 : Int) * 256 + (y3 : Int)) = true := sum_ne _ _ _ _ _ hq
      clear hq
      go_enter Try.func17, Try.ntmps17
      go_wp2_with fail
      go_quiet (fail)
      clear g0 g1 g2 g3 g4 g5 g6 g7 t1 t2 t3 k1 k2 k3 u0 u1 u2 u3 m0 m1 m2 s1 s2 s3 c0 c1 c2 c3
      have hbq := below_drewN w.heap.size w nq
      have hrq := hrt.below (hbq.mono hB)
      have hsq := hbq.size
      have hMc : (M : Int) ≤ (c : Int) := by omega
      generalize w.drewN nq = wq at hbq hrq hsq ⊢
      go_wp2_with (go_at_call 13; refine (refsum_any _ M c T _ B HT.out (by omega) hrq).mono ?_; rintro e w2 ⟨rfl, rfl⟩)
      go_ret2
      exact ⟨_, rfl, Own.nil _ _ _, hbq⟩
end Go.Proofs.Ytndpaehcjaejpaa.Crc
