/- The document's Mac: a contract. -/
import Derived.Test.YtcbihjcnnfohmaaGreatBoxTwo
import Derived.Test.YtcbihjcnnfohmaaGreatShaRefSum
import Derived.Test.YtcbihjcnnfohmaaGreatStrRefX
namespace Go.Proofs.YtcbihjcnnfohmaaGreat.Mac
open Go Go.ChangeShapes Go.WideShapes Go.ChangeAt Go.RowKit Go.Proofs.YtcbihjcnnfohmaaGreat.Aes Go.Proofs.YtcbihjcnnfohmaaGreat.Str Go.Proofs.YtcbihjcnnfohmaaGreat.Sha
set_option linter.unusedVariables false
set_option linter.unusedSimpArgs false
theorem xk_step (c : UInt8) (P : List UInt8) {i : Nat} (h : i < P.length) : (xk c P).take (i + 1) = (xk c P).take i ++ [P[i] ^^^ c] := by
  unfold xk
  rw [List.take_succ_eq_append_getElem (by simpa using h), List.getElem_map]
theorem pad_step (K : List UInt8) (j : Nat) : K ++ List.replicate (j + 1 - K.length) 0 = (K ++ List.replicate (j - K.length) 0) ++ (if K.length ≤ j then [0] else []) := by
  by_cases h : K.length ≤ j
  · rw [if_pos h, List.append_assoc, show j + 1 - K.length = (j - K.length) + 1 by omega, List.replicate_succ']
  · rw [if_neg h, List.append_nil, show j + 1 - K.length = 0 by omega, show j - K.length = 0 by omega]
theorem ownb_form {w : World} {e : TypeId} {base n : Nat} {v : Value} {l : List UInt8} (h : OwnB w e base v l) (hn : l.length = n) : ∃ A c, v = .slice A n c ∧ Rd w w.heap.size A l ∧ n ≤ c := by
  subst hn
  exact h.form
theorem ownb_lt {w : World} {e : TypeId} {base : Nat} {v : Value} {l : List UInt8} (h : OwnB w e base v l) : ∀ b, v.ownBlock = some b → base ≤ b ∧ b < w.heap.size := fun b e => OwnV.lt h b e
/-- behind an append onto a row: what stays -/
theorem app_frame {wr wa w5 : World} {bx : Nat} {v : Value} {e : TypeId} {l : List UInt8} (ho : OwnB wr e bx v l) (ha : Frame (fun b => b < wr.heap.size) wr wa) (hz : wr.heap.size ≤ wa.heap.size) (hg : wa.grownBy w5 v.ownBlock) : Frame (fun b => b < wr.heap.size ∧ v.ownBlock ≠ some b) wr w5 :=
  (ha.mono (T := fun b => b < wr.heap.size ∧ v.ownBlock ≠ some b) (fun _ h => h.1)).trans (Frame.of_grown (S := fun b => b < wr.heap.size ∧ v.ownBlock ≠ some b) hg (fun b hb => ⟨by omega, fun e => hb.2 e.symm⟩)) (fun _ h => h)
set_option maxRecDepth 100000 in
set_option maxHeartbeats 4000000 in
theorem refmac_any (At : Option Addr) (nt ct : Nat) (key : List UInt8) (Ab : Option Addr) (nb cb : Nat) (b : List UInt8) (w : World) (hkl : key.length = nt) (hk30 : nt ≤ 1073741824) (hkr : Rd w w.heap.size At key) (hbl : b.length = nb) (hb30 : nb ≤ 8589934592) (hbr : Rd w w.heap.size Ab b) :
    Calls Tryz.prog 40 #[.slice At nt ct, .slice Ab nb cb] w fun e w' => ∃ v, e = .returned v ∧ OwnB w' 5 w.heap.size v (macL key b) ∧ Below w.heap.size w w' := by
  have hOe := own_empty 5 (Nat.le_refl w.heap.size)
  have hbe := (Below.refl w.heap.size w).alloc (Nat.le_refl _) (.cells #[] 5)
  have hre := hkr.alloc (Nat.le_refl _) (.cells #[] 5)
  have hse := hbe.size
  have HKL := Lib.hid hkl
  have HBL := Lib.hid hbl
  have HBR := Lib.hid hbr
  clear hkl hkr hbl hbr
  go_enter Tryz.func40, Tryz.ntmps40
  by_cases hbig : 64 < nt
  · have HKK := Lib.hid (show kk key = sha key by unfold kk; rw [if_pos (by rw [HKL.out]; exact hbig)])
    have d64 : decide ((64 : Int) < (nt : Int)) = true := decide_eq_true (by omega)
    go_wp2_with (with_reducible refine at_slot 11 ?_
                 refine wpList_append_u8 Go.Proofs.YtcbihjcnnfohmaaGreat.u8 rfl (.tmp 9) (.tmp 10) rfl w.heap.size _ [] _ nt ct key w.heap.size rfl rfl hOe hre HKL.out (by simp; omega) hse ?_
                 intro v2 w2 hO2 hg2 hat2
                 rw [List.nil_append] at hO2
                 obtain ⟨A2, k2, hv2, hr2, hk2⟩ := hO2.form
                 rw [HKL.out] at hv2
                 subst hv2
                 have HB2 := Lib.hid (below_grown hbe hg2 hse hOe (Nat.le_refl _))
                 have HR2 := Lib.hid hr2
                 have HO2 := Lib.hid hO2.b
                 clear hO2 hg2 hat2 hr2 hk2)
    clear hOe hbe hre hse d64
    refine (refsum_any A2 nt k2 key w2 w2.heap.size (Nat.le_refl _) HKL.out (by omega) HR2.out).mono ?_
    rintro e w3 ⟨v3, rfl, hO3, hb3⟩
    have HO3 := Lib.hid (show OwnB w3 5 w.heap.size v3 (kk key) from by rw [HKK.out]; exact OwnV.mono hO3 (fun b e => by have := (OwnV.lt hO3 b e).1; have := HB2.out.size; omega))
    have HB3 := Lib.hid (HB2.out.trans (hb3.mono HB2.out.size))
    clear hO3 hb3
    go_wp2_with fail
    go_loopw [5] (fun kv wr => ∃ j : Nat, (kk key).length ≤ j ∧ j ≤ 64 ∧ lenV kv = j ∧ OwnB wr 5 w.heap.size kv (kk key ++ List.replicate (j - (kk key).length) 0) ∧ Below w.heap.size w wr) (fun kv _ => 64 - lenV kv)
    case atStart =>
      obtain ⟨A, c, hv, _, _⟩ := HO3.out.form
      exact ⟨(kk key).length, Nat.le_refl _, kk_len key, by rw [hv]; rfl, by rw [Nat.sub_self]; simpa using HO3.out, HB3.out⟩
    case round =>
      obtain ⟨j, hj0, hj, hjl, hO, hB⟩ := hrel
      have hpl : (kk key ++ List.replicate (j - (kk key).length) 0).length = j := by rw [List.length_append, List.length_replicate]; omega
      obtain ⟨Ak, ck, hkv, hRk, hck⟩ := ownb_form hO hpl
      subst hkv
      clear hjl HO3 HB3
      have HO := Lib.hid hO
      have HB := Lib.hid hB
      have HPL := Lib.hid hpl
      by_cases hlt : j < 64
      · have HST := Lib.hid (show kk key ++ List.replicate (j + 1 - (kk key).length) 0 = (kk key ++ List.replicate (j - (kk key).length) 0) ++ [0] by rw [pad_step, if_pos hj0])
        have hzr := hB.size
        have ji : (j : Int) < 64 := by omega
        clear hO hB hpl hRk
        generalize kk key ++ List.replicate (j - (kk key).length) 0 = X at *
        go_wp2_with (with_reducible refine at_slot 22 ?_
                     refine wpList_append_v u8.el (by rfl) (.tmp 20) (.tmp 21) rfl w.heap.size _ (bvs X) _ 1 1 (bvs [0]) rfl rfl (HO.out.alloc _) rfl (src_row wr (.int .u8 0) 5) (bvs_one _) (by rw [bvs_length, HPL.out]; omega) (by rw [bvs_length, HPL.out]; omega) (by simp; omega) ?_
                     intro v5 w5 hO5 hg5 hat5
                     rw [← bvs_append, ← HST.out] at hO5
                     have hF5 := app_frame HO.out ((Frame.refl (fun b => b < wr.heap.size) wr).alloc (fun b hb => hb) (.cells #[.int .u8 0] 5)) (by simp) hg5
                     have HB5 := Lib.hid (HB.out.trans (hF5.toBelow (B := w.heap.size) (fun b hb => ⟨by omega, fun e => by have := (ownb_lt HO.out b e).1; omega⟩)))
                     have HO5 := Lib.hid (show OwnB w5 5 w.heap.size v5 (kk key ++ List.replicate (j + 1 - (kk key).length) 0) from hO5)
                     have hl5 : lenV v5 = j + 1 := by
                       obtain ⟨A, c, hv, _, _⟩ := ownb_form (n := j + 1) HO5.out (by rw [HST.out, List.length_append, HPL.out]; rfl)
                       rw [hv]; rfl
                     have HL5 := Lib.hid hl5
                     clear hO5 hg5 hat5 hF5 hl5)
        go_roundw
        case rel => exact ⟨j + 1, by omega, by omega, HL5.out, HO5.out, HB5.out⟩
        case measure => rw [HL5.out]; show 64 - (j + 1) < 64 - j; omega
      · obtain rfl : j = 64 := by omega
        have HP := Lib.hid (show kk key ++ List.replicate (64 - (kk key).length) 0 = padK key from rfl)
        have hRp := hRk
        rw [HP.out] at hRp
        have HRP := Lib.hid hRp
        have HBQ := Lib.hid hB
        have hPl := padK_length key
        have hzq := hB.size
        clear hO hB hpl hRk hRp HO HB HPL hj0 HP
        try rw [show ((64 : Nat) : Int) = 64 from rfl] at *
        obtain ⟨wq, hwq⟩ : ∃ wq : World, wq = wr := ⟨_, rfl⟩
        subst hwq
        have HPK := Lib.hid (show macL key b = sha (xk 92 (padK key) ++ sha (xk 54 (padK key) ++ b)) from rfl)
        generalize padK key = P at *
        go_wp2_with fail
        go_loopw [6, 7, 8] (fun xv yv iv wr => ∃ i : Nat, i ≤ 64 ∧ iv = .int .i64 (i : Int) ∧ OwnB wr 5 wq.heap.size xv ((xk 54 P).take i) ∧ OwnB wr 5 wq.heap.size yv ((xk 92 P).take i) ∧ (∀ b, xv.ownBlock = some b → yv.ownBlock ≠ some b) ∧ Below wq.heap.size wq wr) (fun _ _ iv _ => 64 - (intOf iv).toNat)
        case atStart => exact ⟨0, by omega, rfl, OwnV.nil _ _ _, OwnV.nil _ _ _, fun b e => (by cases e), Below.refl _ _⟩
        case round =>
          obtain ⟨i, hi, rfl, hX, hY, hD, hB⟩ := hrel
          by_cases hlt : i < 64
          · have hxl : ((xk 54 P).take i).length = i := by rw [List.length_take, xk_length]; omega
            have hyl : ((xk 92 P).take i).length = i := by rw [List.length_take, xk_length]; omega
            obtain ⟨Ax, cx, hvx, _, _⟩ := ownb_form hX hxl
            obtain ⟨Ay, cy, hvy, _, _⟩ := ownb_form hY hyl
            subst hvx hvy
            obtain ⟨ad, hA, hab, hac⟩ := rd_some2 HRP.out (by omega)
            subst hA
            have c3 := (hB.cell (p := ad.add i) (by rw [add_block]; exact hab)).trans (hac i (by omega))
            have hiP : i < P.length := by omega
            have HSX := Lib.hid (xk_step 54 P hiP)
            have HSY := Lib.hid (xk_step 92 P hiP)
            rw [List.getD_eq_getElem?_getD, List.getElem?_eq_getElem hiP, Option.getD_some, Aes.bv_int] at c3
            have HX := Lib.hid hX
            have HY := Lib.hid hY
            have HD := Lib.hid hD
            have HB := Lib.hid hB
            have HXL := Lib.hid hxl
            have HYL := Lib.hid hyl
            have hzr := hB.size
            have ii : (i : Int) < 64 := by omega
            clear hX hY hD hB hxl hyl hac
            generalize P[i] = z at *
            clear hiP
            have x54 : bits BinOp.xor IntKind.u8 ((z.toNat : Nat) : Int) 54 = (((z ^^^ 54).toNat : Nat) : Int) := Aes.u8x z 54
            have x92 : bits BinOp.xor IntKind.u8 ((z.toNat : Nat) : Int) 92 = (((z ^^^ 92).toNat : Nat) : Int) := Aes.u8x z 92
            generalize z ^^^ 54 = p at *
            generalize z ^^^ 92 = r at *
            go_wp2_with (first
              | (with_reducible refine at_slot 34 ?_
                 refine wpList_append_v u8.el (by rfl) (.tmp 27) (.tmp 33) rfl wq.heap.size _ (bvs ((xk 54 P).take i)) _ 1 1 (bvs [p]) rfl rfl (HX.out.alloc _) rfl (src_row wr (.int .u8 ((p.toNat : Nat) : Int)) 5) (bvs_one _) (by rw [bvs_length, HXL.out]; omega) (by rw [bvs_length, HXL.out]; omega) (by simp; omega) ?_
                 intro v5 w5 hO5 hg5 hat5
                 rw [← bvs_append, ← HSX.out] at hO5
                 have hF5 := app_frame HX.out ((Frame.refl (fun b => b < wr.heap.size) wr).alloc (fun b hb => hb) (.cells #[.int .u8 ((p.toNat : Nat) : Int)] 5)) (by simp) hg5
                 have hB5 := HB.out.trans (hF5.toBelow (B := wq.heap.size) (fun b hb => ⟨by omega, fun e => by have := (ownb_lt HX.out b e).1; omega⟩))
                 have HX5 := Lib.hid (show OwnB w5 5 wq.heap.size v5 ((xk 54 P).take (i + 1)) from hO5)
                 have HY5 := Lib.hid (show OwnB w5 5 wq.heap.size (.slice Ay i cy) ((xk 92 P).take i) from hF5.own HY.out (fun b e => ⟨(ownb_lt HY.out b e).2, fun e2 => HD.out b e2 e⟩))
                 have HD5 := Lib.hid (fun (b : Nat) (e : v5.ownBlock = some b) => (show Value.ownBlock (.slice Ay i cy) ≠ some b from fun e2 => by
                   rcases hat5 with h | h
                   · exact HD.out b (h.symm.trans e) e2
                   · rw [h] at e; injection e with e; have := (ownb_lt HY.out b e2).2; simp at e; omega))
                 have c5 := (hB5.cell (p := ad.add i) (by rw [add_block]; exact hab)).trans ((HB.out.cell (p := ad.add i) (by rw [add_block]; exact hab)).symm.trans c3)
                 obtain ⟨A5, k5, hv5, _, _⟩ := ownb_form (n := i + 1) HX5.out (by rw [HSX.out, List.length_append, HXL.out]; rfl)
                 subst hv5
                 have HB5 := Lib.hid hB5
                 have hz5 := hB5.size
                 clear hO5 hg5 hat5 hF5 hB5)
              | (with_reducible refine at_slot 42 ?_
                 refine wpList_append_v u8.el (by rfl) (.tmp 35) (.tmp 41) rfl wq.heap.size _ (bvs ((xk 92 P).take i)) _ 1 1 (bvs [r]) rfl rfl (HY5.out.alloc _) rfl (src_row w5 (.int .u8 ((r.toNat : Nat) : Int)) 5) (bvs_one _) (by rw [bvs_length, HYL.out]; omega) (by rw [bvs_length, HYL.out]; omega) (by simp; omega) ?_
                 intro v6 w6 hO6 hg6 hat6
                 rw [← bvs_append, ← HSY.out] at hO6
                 have hF6 := app_frame HY5.out ((Frame.refl (fun b => b < w5.heap.size) w5).alloc (fun b hb => hb) (.cells #[.int .u8 ((r.toNat : Nat) : Int)] 5)) (by simp) hg6
                 have HB6 := Lib.hid (HB5.out.trans (hF6.toBelow (B := wq.heap.size) (fun b hb => ⟨by omega, fun e => by have := (ownb_lt HY5.out b e).1; omega⟩)))
                 have HY6 := Lib.hid (show OwnB w6 5 wq.heap.size v6 ((xk 92 P).take (i + 1)) from hO6)
                 have HX6 := Lib.hid (show OwnB w6 5 wq.heap.size (.slice A5 (i + 1) k5) ((xk 54 P).take (i + 1)) from hF6.own HX5.out (fun b e => ⟨(ownb_lt HX5.out b e).2, fun e2 => HD5.out b e e2⟩))
                 have HD6 := Lib.hid (fun (b : Nat) (e : Value.ownBlock (.slice A5 (i + 1) k5) = some b) => (show v6.ownBlock ≠ some b from fun e2 => by
                   rcases hat6 with h | h
                   · exact HD5.out b e (h.symm.trans e2)
                   · rw [h] at e2; injection e2 with e2; have := (ownb_lt HX5.out b e).2; simp at e2; omega))
                 clear hO6 hg6 hat6 hF6))
            go_roundw
            case rel => exact ⟨i + 1, by omega, by go_num, HX6.out, HY6.out, HD6.out, HB6.out⟩
            case measure => simp [intOf] <;> omega
          · obtain rfl : i = 64 := by omega
            rw [List.take_of_length_le (by rw [xk_length]; omega)] at hX hY
            have hxl : (xk 54 P).length = 64 := by rw [xk_length]; exact hPl
            have hyl : (xk 92 P).length = 64 := by rw [xk_length]; exact hPl
            obtain ⟨Ax, cx, hvx, _, _⟩ := ownb_form hX hxl
            obtain ⟨Ay, cy, hvy, _, _⟩ := ownb_form hY hyl
            subst hvx hvy
            have hzr := hB.size
            have hrb : Rd wr wr.heap.size Ab b := rd_now HBR.out (HBQ.out.trans (hB.mono HBQ.out.size))
            have HX := Lib.hid hX
            have HY := Lib.hid hY
            have HD := Lib.hid hD
            have HB := Lib.hid hB
            have HXL := Lib.hid hxl
            have HYL := Lib.hid hyl
            have HRB := Lib.hid hrb
            clear hX hY hD hB hxl hyl hrb hPl HRP
            generalize xk 54 P = X at *
            generalize xk 92 P = Y at *
            try rw [show ((64 : Nat) : Int) = 64 from rfl] at *
            go_wp2_with (with_reducible refine at_slot 46 ?_
                         refine wpList_append_v u8.el (by rfl) (.tmp 44) (.tmp 45) rfl wq.heap.size _ (bvs X) Ab nb cb (bvs b) rfl rfl HX.out (by rw [bvs_length, HBL.out]) (HRB.out.news nb HBL.out) (bvs_one _) (by rw [bvs_length, HXL.out]; omega) (by rw [bvs_length, HXL.out]; omega) hzr ?_
                         intro v5 w5 hO5 hg5 hat5
                         rw [← bvs_append] at hO5
                         have hF5 := app_frame HX.out (Frame.refl (fun b => b < wr.heap.size) wr) (Nat.le_refl _) hg5
                         have hB5 := HB.out.trans (hF5.toBelow (B := wq.heap.size) (fun b hb => ⟨by omega, fun e => by have := (ownb_lt HX.out b e).1; omega⟩))
                         have HY5 := Lib.hid (show OwnB w5 5 wq.heap.size (.slice Ay 64 cy) Y from hF5.own HY.out (fun b e => ⟨(ownb_lt HY.out b e).2, fun e2 => HD.out b e2 e⟩))
                         obtain ⟨A5, k5, hv5, hr5, _⟩ := ownb_form (n := 64 + nb) (show OwnB w5 5 wq.heap.size v5 (X ++ b) from hO5) (by rw [List.length_append, HXL.out, HBL.out])
                         subst hv5
                         have HR5 := Lib.hid hr5
                         have HB5 := Lib.hid hB5
                         have hz5 := hB5.size
                         clear hO5 hg5 hat5 hF5 hB5 hr5)
            refine (refsum_any A5 (64 + nb) k5 (X ++ b) w5 w5.heap.size (Nat.le_refl _) (by rw [List.length_append, HXL.out, HBL.out]) (by omega) HR5.out).mono ?_
            rintro e w6 ⟨v6, rfl, hO6, hb6⟩
            have HSL := Lib.hid (sha_len (X ++ b))
            have HB6 := Lib.hid (HB5.out.trans (hb6.mono hz5))
            have HY6 := Lib.hid (show OwnB w6 5 wq.heap.size (.slice Ay 64 cy) Y from (Frame.of_below (S := fun k => k < w5.heap.size) hb6 (fun _ h => h)).own HY5.out (fun b e => (ownb_lt HY5.out b e).2))
            generalize sha (X ++ b) = S at *
            obtain ⟨A6, k6, hv6, hr6, _⟩ := ownb_form (n := 32) (show OwnB w6 5 w5.heap.size v6 S from hO6) HSL.out
            subst hv6
            have hz6 := hb6.size
            have HR6 := Lib.hid hr6
            clear hO6 hb6 hr6
            go_wp2_with (with_reducible refine at_slot 48 ?_
                         refine wpList_append_v u8.el (by rfl) (.tmp 43) (.tmp 47) rfl wq.heap.size _ (bvs Y) A6 32 k6 (bvs S) rfl rfl HY6.out (by rw [bvs_length, HSL.out]) (HR6.out.news 32 HSL.out) (bvs_one _) (by rw [bvs_length, HYL.out]; omega) (by rw [bvs_length, HYL.out]; omega) (by omega) ?_
                         intro v7 w7 hO7 hg7 hat7
                         rw [← bvs_append] at hO7
                         have hF7 := app_frame HY6.out (Frame.refl (fun b => b < w6.heap.size) w6) (Nat.le_refl _) hg7
                         have hB7 := HB6.out.trans (hF7.toBelow (B := wq.heap.size) (fun b hb => ⟨by omega, fun e => by have := (ownb_lt HY6.out b e).1; omega⟩))
                         obtain ⟨A7, k7, hv7, hr7, _⟩ := ownb_form (n := 96) (show OwnB w7 5 wq.heap.size v7 (Y ++ S) from hO7) (by rw [List.length_append, HYL.out, HSL.out])
                         subst hv7
                         have HR7 := Lib.hid hr7
                         have HB7 := Lib.hid hB7
                         have hz7 := hB7.size
                         clear hO7 hg7 hat7 hF7 hB7 hr7)
            refine (refsum_any A7 96 k7 (Y ++ S) w7 w7.heap.size (Nat.le_refl _) (by rw [List.length_append, HYL.out, HSL.out]) (by omega) HR7.out).mono ?_
            rintro e w8 ⟨v8, rfl, hO8, hb8⟩
            have HB8 := Lib.hid (HBQ.out.trans ((HB7.out.trans (hb8.mono hz7)).mono HBQ.out.size))
            have HO8 := Lib.hid (show OwnB w8 5 w.heap.size v8 (macL key b) from by rw [HPK.out]; exact OwnV.mono hO8 (fun b e => by have := (OwnV.lt hO8 b e).1; omega))
            clear hO8 hb8
            go_wp2_with fail
            go_ret
            exact ⟨_, rfl, HO8.out, HB8.out⟩
  · have HKK := Lib.hid (show kk key = key by unfold kk; rw [if_neg (by rw [HKL.out]; exact hbig)])
    have d64 : decide ((64 : Int) < (nt : Int)) = false := decide_eq_false (by omega)
    go_wp2_with (with_reducible refine at_slot 11 ?_
                 refine wpList_append_u8 Go.Proofs.YtcbihjcnnfohmaaGreat.u8 rfl (.tmp 9) (.tmp 10) rfl w.heap.size _ [] _ nt ct key w.heap.size rfl rfl hOe hre HKL.out (by simp; omega) hse ?_
                 intro v2 w2 hO2 hg2 hat2
                 rw [List.nil_append] at hO2
                 obtain ⟨A2, k2, hv2, hr2, hk2⟩ := hO2.form
                 rw [HKL.out] at hv2
                 subst hv2
                 have HB2 := Lib.hid (below_grown hbe hg2 hse hOe (Nat.le_refl _))
                 have HR2 := Lib.hid hr2
                 have HO2 := Lib.hid hO2.b
                 clear hO2 hg2 hat2 hr2 hk2)
    clear hOe hbe hre hse d64
    obtain ⟨w3, rfl⟩ : ∃ w3, w3 = w2 := ⟨_, rfl⟩
    obtain ⟨v3, hv3⟩ : ∃ v3, Value.slice A2 nt k2 = v3 := ⟨_, rfl⟩
    have HO3 := Lib.hid (show OwnB w3 5 w.heap.size v3 (kk key) from by rw [HKK.out, ← hv3]; exact HO2.out)
    have HB3 := HB2
    rw [hv3]
    clear hv3
    go_loopw [5] (fun kv wr => ∃ j : Nat, (kk key).length ≤ j ∧ j ≤ 64 ∧ lenV kv = j ∧ OwnB wr 5 w.heap.size kv (kk key ++ List.replicate (j - (kk key).length) 0) ∧ Below w.heap.size w wr) (fun kv _ => 64 - lenV kv)
    case atStart =>
      obtain ⟨A, c, hv, _, _⟩ := HO3.out.form
      exact ⟨(kk key).length, Nat.le_refl _, kk_len key, by rw [hv]; rfl, by rw [Nat.sub_self]; simpa using HO3.out, HB3.out⟩
    case round =>
      obtain ⟨j, hj0, hj, hjl, hO, hB⟩ := hrel
      have hpl : (kk key ++ List.replicate (j - (kk key).length) 0).length = j := by rw [List.length_append, List.length_replicate]; omega
      obtain ⟨Ak, ck, hkv, hRk, hck⟩ := ownb_form hO hpl
      subst hkv
      clear hjl HO3 HB3
      have HO := Lib.hid hO
      have HB := Lib.hid hB
      have HPL := Lib.hid hpl
      by_cases hlt : j < 64
      · have HST := Lib.hid (show kk key ++ List.replicate (j + 1 - (kk key).length) 0 = (kk key ++ List.replicate (j - (kk key).length) 0) ++ [0] by rw [pad_step, if_pos hj0])
        have hzr := hB.size
        have ji : (j : Int) < 64 := by omega
        clear hO hB hpl hRk
        generalize kk key ++ List.replicate (j - (kk key).length) 0 = X at *
        go_wp2_with (with_reducible refine at_slot 22 ?_
                     refine wpList_append_v u8.el (by rfl) (.tmp 20) (.tmp 21) rfl w.heap.size _ (bvs X) _ 1 1 (bvs [0]) rfl rfl (HO.out.alloc _) rfl (src_row wr (.int .u8 0) 5) (bvs_one _) (by rw [bvs_length, HPL.out]; omega) (by rw [bvs_length, HPL.out]; omega) (by simp; omega) ?_
                     intro v5 w5 hO5 hg5 hat5
                     rw [← bvs_append, ← HST.out] at hO5
                     have hF5 := app_frame HO.out ((Frame.refl (fun b => b < wr.heap.size) wr).alloc (fun b hb => hb) (.cells #[.int .u8 0] 5)) (by simp) hg5
                     have HB5 := Lib.hid (HB.out.trans (hF5.toBelow (B := w.heap.size) (fun b hb => ⟨by omega, fun e => by have := (ownb_lt HO.out b e).1; omega⟩)))
                     have HO5 := Lib.hid (show OwnB w5 5 w.heap.size v5 (kk key ++ List.replicate (j + 1 - (kk key).length) 0) from hO5)
                     have hl5 : lenV v5 = j + 1 := by
                       obtain ⟨A, c, hv, _, _⟩ := ownb_form (n := j + 1) HO5.out (by rw [HST.out, List.length_append, HPL.out]; rfl)
                       rw [hv]; rfl
                     have HL5 := Lib.hid hl5
                     clear hO5 hg5 hat5 hF5 hl5)
        go_roundw
        case rel => exact ⟨j + 1, by omega, by omega, HL5.out, HO5.out, HB5.out⟩
        case measure => rw [HL5.out]; show 64 - (j + 1) < 64 - j; omega
      · obtain rfl : j = 64 := by omega
        have HP := Lib.hid (show kk key ++ List.replicate (64 - (kk key).length) 0 = padK key from rfl)
        have hRp := hRk
        rw [HP.out] at hRp
        have HRP := Lib.hid hRp
        have HBQ := Lib.hid hB
        have hPl := padK_length key
        have hzq := hB.size
        clear hO hB hpl hRk hRp HO HB HPL hj0 HP
        try rw [show ((64 : Nat) : Int) = 64 from rfl] at *
        obtain ⟨wq, hwq⟩ : ∃ wq : World, wq = wr := ⟨_, rfl⟩
        subst hwq
        have HPK := Lib.hid (show macL key b = sha (xk 92 (padK key) ++ sha (xk 54 (padK key) ++ b)) from rfl)
        generalize padK key = P at *
        go_wp2_with fail
        go_loopw [6, 7, 8] (fun xv yv iv wr => ∃ i : Nat, i ≤ 64 ∧ iv = .int .i64 (i : Int) ∧ OwnB wr 5 wq.heap.size xv ((xk 54 P).take i) ∧ OwnB wr 5 wq.heap.size yv ((xk 92 P).take i) ∧ (∀ b, xv.ownBlock = some b → yv.ownBlock ≠ some b) ∧ Below wq.heap.size wq wr) (fun _ _ iv _ => 64 - (intOf iv).toNat)
        case atStart => exact ⟨0, by omega, rfl, OwnV.nil _ _ _, OwnV.nil _ _ _, fun b e => (by cases e), Below.refl _ _⟩
        case round =>
          obtain ⟨i, hi, rfl, hX, hY, hD, hB⟩ := hrel
          by_cases hlt : i < 64
          · have hxl : ((xk 54 P).take i).length = i := by rw [List.length_take, xk_length]; omega
            have hyl : ((xk 92 P).take i).length = i := by rw [List.length_take, xk_length]; omega
            obtain ⟨Ax, cx, hvx, _, _⟩ := ownb_form hX hxl
            obtain ⟨Ay, cy, hvy, _, _⟩ := ownb_form hY hyl
            subst hvx hvy
            obtain ⟨ad, hA, hab, hac⟩ := rd_some2 HRP.out (by omega)
            subst hA
            have c3 := (hB.cell (p := ad.add i) (by rw [add_block]; exact hab)).trans (hac i (by omega))
            have hiP : i < P.length := by omega
            have HSX := Lib.hid (xk_step 54 P hiP)
            have HSY := Lib.hid (xk_step 92 P hiP)
            rw [List.getD_eq_getElem?_getD, List.getElem?_eq_getElem hiP, Option.getD_some, Aes.bv_int] at c3
            have HX := Lib.hid hX
            have HY := Lib.hid hY
            have HD := Lib.hid hD
            have HB := Lib.hid hB
            have HXL := Lib.hid hxl
            have HYL := Lib.hid hyl
            have hzr := hB.size
            have ii : (i : Int) < 64 := by omega
            clear hX hY hD hB hxl hyl hac
            generalize P[i] = z at *
            clear hiP
            have x54 : bits BinOp.xor IntKind.u8 ((z.toNat : Nat) : Int) 54 = (((z ^^^ 54).toNat : Nat) : Int) := Aes.u8x z 54
            have x92 : bits BinOp.xor IntKind.u8 ((z.toNat : Nat) : Int) 92 = (((z ^^^ 92).toNat : Nat) : Int) := Aes.u8x z 92
            generalize z ^^^ 54 = p at *
            generalize z ^^^ 92 = r at *
            go_wp2_with (first
              | (with_reducible refine at_slot 34 ?_
                 refine wpList_append_v u8.el (by rfl) (.tmp 27) (.tmp 33) rfl wq.heap.size _ (bvs ((xk 54 P).take i)) _ 1 1 (bvs [p]) rfl rfl (HX.out.alloc _) rfl (src_row wr (.int .u8 ((p.toNat : Nat) : Int)) 5) (bvs_one _) (by rw [bvs_length, HXL.out]; omega) (by rw [bvs_length, HXL.out]; omega) (by simp; omega) ?_
                 intro v5 w5 hO5 hg5 hat5
                 rw [← bvs_append, ← HSX.out] at hO5
                 have hF5 := app_frame HX.out ((Frame.refl (fun b => b < wr.heap.size) wr).alloc (fun b hb => hb) (.cells #[.int .u8 ((p.toNat : Nat) : Int)] 5)) (by simp) hg5
                 have hB5 := HB.out.trans (hF5.toBelow (B := wq.heap.size) (fun b hb => ⟨by omega, fun e => by have := (ownb_lt HX.out b e).1; omega⟩))
                 have HX5 := Lib.hid (show OwnB w5 5 wq.heap.size v5 ((xk 54 P).take (i + 1)) from hO5)
                 have HY5 := Lib.hid (show OwnB w5 5 wq.heap.size (.slice Ay i cy) ((xk 92 P).take i) from hF5.own HY.out (fun b e => ⟨(ownb_lt HY.out b e).2, fun e2 => HD.out b e2 e⟩))
                 have HD5 := Lib.hid (fun (b : Nat) (e : v5.ownBlock = some b) => (show Value.ownBlock (.slice Ay i cy) ≠ some b from fun e2 => by
                   rcases hat5 with h | h
                   · exact HD.out b (h.symm.trans e) e2
                   · rw [h] at e; injection e with e; have := (ownb_lt HY.out b e2).2; simp at e; omega))
                 have c5 := (hB5.cell (p := ad.add i) (by rw [add_block]; exact hab)).trans ((HB.out.cell (p := ad.add i) (by rw [add_block]; exact hab)).symm.trans c3)
                 obtain ⟨A5, k5, hv5, _, _⟩ := ownb_form (n := i + 1) HX5.out (by rw [HSX.out, List.length_append, HXL.out]; rfl)
                 subst hv5
                 have HB5 := Lib.hid hB5
                 have hz5 := hB5.size
                 clear hO5 hg5 hat5 hF5 hB5)
              | (with_reducible refine at_slot 42 ?_
                 refine wpList_append_v u8.el (by rfl) (.tmp 35) (.tmp 41) rfl wq.heap.size _ (bvs ((xk 92 P).take i)) _ 1 1 (bvs [r]) rfl rfl (HY5.out.alloc _) rfl (src_row w5 (.int .u8 ((r.toNat : Nat) : Int)) 5) (bvs_one _) (by rw [bvs_length, HYL.out]; omega) (by rw [bvs_length, HYL.out]; omega) (by simp; omega) ?_
                 intro v6 w6 hO6 hg6 hat6
                 rw [← bvs_append, ← HSY.out] at hO6
                 have hF6 := app_frame HY5.out ((Frame.refl (fun b => b < w5.heap.size) w5).alloc (fun b hb => hb) (.cells #[.int .u8 ((r.toNat : Nat) : Int)] 5)) (by simp) hg6
                 have HB6 := Lib.hid (HB5.out.trans (hF6.toBelow (B := wq.heap.size) (fun b hb => ⟨by omega, fun e => by have := (ownb_lt HY5.out b e).1; omega⟩)))
                 have HY6 := Lib.hid (show OwnB w6 5 wq.heap.size v6 ((xk 92 P).take (i + 1)) from hO6)
                 have HX6 := Lib.hid (show OwnB w6 5 wq.heap.size (.slice A5 (i + 1) k5) ((xk 54 P).take (i + 1)) from hF6.own HX5.out (fun b e => ⟨(ownb_lt HX5.out b e).2, fun e2 => HD5.out b e e2⟩))
                 have HD6 := Lib.hid (fun (b : Nat) (e : Value.ownBlock (.slice A5 (i + 1) k5) = some b) => (show v6.ownBlock ≠ some b from fun e2 => by
                   rcases hat6 with h | h
                   · exact HD5.out b e (h.symm.trans e2)
                   · rw [h] at e2; injection e2 with e2; have := (ownb_lt HX5.out b e).2; simp at e2; omega))
                 clear hO6 hg6 hat6 hF6))
            go_roundw
            case rel => exact ⟨i + 1, by omega, by go_num, HX6.out, HY6.out, HD6.out, HB6.out⟩
            case measure => simp [intOf] <;> omega
          · obtain rfl : i = 64 := by omega
            rw [List.take_of_length_le (by rw [xk_length]; omega)] at hX hY
            have hxl : (xk 54 P).length = 64 := by rw [xk_length]; exact hPl
            have hyl : (xk 92 P).length = 64 := by rw [xk_length]; exact hPl
            obtain ⟨Ax, cx, hvx, _, _⟩ := ownb_form hX hxl
            obtain ⟨Ay, cy, hvy, _, _⟩ := ownb_form hY hyl
            subst hvx hvy
            have hzr := hB.size
            have hrb : Rd wr wr.heap.size Ab b := rd_now HBR.out (HBQ.out.trans (hB.mono HBQ.out.size))
            have HX := Lib.hid hX
            have HY := Lib.hid hY
            have HD := Lib.hid hD
            have HB := Lib.hid hB
            have HXL := Lib.hid hxl
            have HYL := Lib.hid hyl
            have HRB := Lib.hid hrb
            clear hX hY hD hB hxl hyl hrb hPl HRP
            generalize xk 54 P = X at *
            generalize xk 92 P = Y at *
            try rw [show ((64 : Nat) : Int) = 64 from rfl] at *
            go_wp2_with (with_reducible refine at_slot 46 ?_
                         refine wpList_append_v u8.el (by rfl) (.tmp 44) (.tmp 45) rfl wq.heap.size _ (bvs X) Ab nb cb (bvs b) rfl rfl HX.out (by rw [bvs_length, HBL.out]) (HRB.out.news nb HBL.out) (bvs_one _) (by rw [bvs_length, HXL.out]; omega) (by rw [bvs_length, HXL.out]; omega) hzr ?_
                         intro v5 w5 hO5 hg5 hat5
                         rw [← bvs_append] at hO5
                         have hF5 := app_frame HX.out (Frame.refl (fun b => b < wr.heap.size) wr) (Nat.le_refl _) hg5
                         have hB5 := HB.out.trans (hF5.toBelow (B := wq.heap.size) (fun b hb => ⟨by omega, fun e => by have := (ownb_lt HX.out b e).1; omega⟩))
                         have HY5 := Lib.hid (show OwnB w5 5 wq.heap.size (.slice Ay 64 cy) Y from hF5.own HY.out (fun b e => ⟨(ownb_lt HY.out b e).2, fun e2 => HD.out b e2 e⟩))
                         obtain ⟨A5, k5, hv5, hr5, _⟩ := ownb_form (n := 64 + nb) (show OwnB w5 5 wq.heap.size v5 (X ++ b) from hO5) (by rw [List.length_append, HXL.out, HBL.out])
                         subst hv5
                         have HR5 := Lib.hid hr5
                         have HB5 := Lib.hid hB5
                         have hz5 := hB5.size
                         clear hO5 hg5 hat5 hF5 hB5 hr5)
            refine (refsum_any A5 (64 + nb) k5 (X ++ b) w5 w5.heap.size (Nat.le_refl _) (by rw [List.length_append, HXL.out, HBL.out]) (by omega) HR5.out).mono ?_
            rintro e w6 ⟨v6, rfl, hO6, hb6⟩
            have HSL := Lib.hid (sha_len (X ++ b))
            have HB6 := Lib.hid (HB5.out.trans (hb6.mono hz5))
            have HY6 := Lib.hid (show OwnB w6 5 wq.heap.size (.slice Ay 64 cy) Y from (Frame.of_below (S := fun k => k < w5.heap.size) hb6 (fun _ h => h)).own HY5.out (fun b e => (ownb_lt HY5.out b e).2))
            generalize sha (X ++ b) = S at *
            obtain ⟨A6, k6, hv6, hr6, _⟩ := ownb_form (n := 32) (show OwnB w6 5 w5.heap.size v6 S from hO6) HSL.out
            subst hv6
            have hz6 := hb6.size
            have HR6 := Lib.hid hr6
            clear hO6 hb6 hr6
            go_wp2_with (with_reducible refine at_slot 48 ?_
                         refine wpList_append_v u8.el (by rfl) (.tmp 43) (.tmp 47) rfl wq.heap.size _ (bvs Y) A6 32 k6 (bvs S) rfl rfl HY6.out (by rw [bvs_length, HSL.out]) (HR6.out.news 32 HSL.out) (bvs_one _) (by rw [bvs_length, HYL.out]; omega) (by rw [bvs_length, HYL.out]; omega) (by omega) ?_
                         intro v7 w7 hO7 hg7 hat7
                         rw [← bvs_append] at hO7
                         have hF7 := app_frame HY6.out (Frame.refl (fun b => b < w6.heap.size) w6) (Nat.le_refl _) hg7
                         have hB7 := HB6.out.trans (hF7.toBelow (B := wq.heap.size) (fun b hb => ⟨by omega, fun e => by have := (ownb_lt HY6.out b e).1; omega⟩))
                         obtain ⟨A7, k7, hv7, hr7, _⟩ := ownb_form (n := 96) (show OwnB w7 5 wq.heap.size v7 (Y ++ S) from hO7) (by rw [List.length_append, HYL.out, HSL.out])
                         subst hv7
                         have HR7 := Lib.hid hr7
                         have HB7 := Lib.hid hB7
                         have hz7 := hB7.size
                         clear hO7 hg7 hat7 hF7 hB7 hr7)
            refine (refsum_any A7 96 k7 (Y ++ S) w7 w7.heap.size (Nat.le_refl _) (by rw [List.length_append, HYL.out, HSL.out]) (by omega) HR7.out).mono ?_
            rintro e w8 ⟨v8, rfl, hO8, hb8⟩
            have HB8 := Lib.hid (HBQ.out.trans ((HB7.out.trans (hb8.mono hz7)).mono HBQ.out.size))
            have HO8 := Lib.hid (show OwnB w8 5 w.heap.size v8 (macL key b) from by rw [HPK.out]; exact OwnV.mono hO8 (fun b e => by have := (OwnV.lt hO8 b e).1; omega))
            clear hO8 hb8
            go_wp2_with fail
            go_ret
            exact ⟨_, rfl, HO8.out, HB8.out⟩
end Go.Proofs.YtcbihjcnnfohmaaGreat.Mac

/- The document's sealing: tagged, Seal, Size. Contracts. -/
namespace Go.Proofs.YtcbihjcnnfohmaaGreat.Box
open Go Go.ChangeShapes Go.WideShapes Go.ChangeAt Go.RowKit Go.Proofs.YtcbihjcnnfohmaaGreat.Aes Go.Proofs.YtcbihjcnnfohmaaGreat.Str Go.Proofs.YtcbihjcnnfohmaaGreat.Mac
set_option linter.unusedVariables false
set_option linter.unusedSimpArgs false
def TagAt (w : World) (A : Option Addr) (c : Nat) (l : List UInt8) : Prop := Rd w w.heap.size A l ∧ 16 ≤ c
set_option maxRecDepth 100000 in
set_option maxHeartbeats 2000000 in
theorem reftagged_any (At : Option Addr) (nt ct : Nat) (tag : List UInt8) (Aa : Option Addr) (na ca : Nat) (about : List UInt8) (Ab : Option Addr) (nb cb : Nat) (b : List UInt8) (w : World) (htl : tag.length = nt) (ht30 : nt ≤ 1073741824) (htr : Rd w w.heap.size At tag)
    (hal : about.length = na) (ha30 : na ≤ 1073741824) (har : Rd w w.heap.size Aa about) (hbl : b.length = nb) (hb30 : nb ≤ 1073741824) (hbr : Rd w w.heap.size Ab b) :
    Calls Tryz.prog 28 #[.slice At nt ct, .slice Aa na ca, .slice Ab nb cb] w fun e w' => ∃ A c, e = .returned (.slice A 16 c) ∧ TagAt w' A c (tagL tag about b) ∧ Below w.heap.size w w' := by
  have HTL := Lib.hid htl
  have HTR := Lib.hid htr
  have HAL := Lib.hid hal
  have HAR := Lib.hid har
  have HBL := Lib.hid hbl
  have HBR := Lib.hid hbr
  clear htl htr hal har hbl hbr
  go_enter Tryz.func28, Tryz.ntmps28
  go_wp2_with fail
  refine (reight_any na w).mono ?_
  rintro e w1 ⟨v1, rfl, hO1, hb1⟩
  have h8 := b8_len na
  obtain ⟨A1, c1, hv1, _, _⟩ := ownb_form (n := 8) hO1.b h8
  subst hv1
  have hz1 := hb1.size
  have HO1 := Lib.hid hO1.b
  have HB1 := Lib.hid hb1
  have H8 := Lib.hid h8
  have HRA1 := Lib.hid (rd_now HAR.out hb1)
  have HTG := Lib.hid (show tagL tag about b = (macL tag ((be8 na ++ about) ++ b)).take 16 by unfold tagL; rw [HAL.out, List.append_assoc])
  clear hO1 hb1 h8
  generalize be8 na = E at *
  go_wp2_with (first
    | (with_reducible refine at_slot 13 ?_
       refine wpList_append_v u8.el (by rfl) (.tmp 11) (.tmp 12) rfl w.heap.size _ (bvs E) Aa na ca (bvs about) rfl rfl HO1.out (by rw [bvs_length, HAL.out]) (HRA1.out.news na HAL.out) (bvs_one _) (by rw [bvs_length, H8.out]; omega) (by rw [bvs_length, H8.out]; omega) hz1 ?_
       intro v2 w2 hO2 hg2 hat2
       rw [← bvs_append] at hO2
       have hF2 := app_frame HO1.out (Frame.refl (fun b => b < w1.heap.size) w1) (Nat.le_refl _) hg2
       have hB2 := HB1.out.trans (hF2.toBelow (B := w.heap.size) (fun b hb => ⟨by omega, fun e => by have := (ownb_lt HO1.out b e).1; omega⟩))
       have hl2 : (E ++ about).length = 8 + na := by rw [List.length_append, H8.out, HAL.out]
       obtain ⟨A2, c2, hv2, _, _⟩ := ownb_form (n := 8 + na) (show OwnB w2 5 w.heap.size v2 (E ++ about) from hO2) hl2
       subst hv2
       have HO2 := Lib.hid (show OwnB w2 5 w.heap.size (.slice A2 (8 + na) c2) (E ++ about) from hO2)
       have HL2 := Lib.hid hl2
       have HRB2 := Lib.hid (rd_now HBR.out hB2)
       have HB2 := Lib.hid hB2
       have hz2 := hB2.size
       clear hO2 hg2 hat2 hF2 hB2 hl2)
    | (with_reducible refine at_slot 16 ?_
       refine wpList_append_v u8.el (by rfl) (.tmp 14) (.tmp 15) rfl w.heap.size _ (bvs (E ++ about)) Ab nb cb (bvs b) rfl rfl HO2.out (by rw [bvs_length, HBL.out]) (HRB2.out.news nb HBL.out) (bvs_one _) (by rw [bvs_length, HL2.out]; omega) (by rw [bvs_length, HL2.out]; omega) hz2 ?_
       intro v3 w3 hO3 hg3 hat3
       rw [← bvs_append] at hO3
       have hF3 := app_frame HO2.out (Frame.refl (fun b => b < w2.heap.size) w2) (Nat.le_refl _) hg3
       have hB3 := HB2.out.trans (hF3.toBelow (B := w.heap.size) (fun b hb => ⟨by omega, fun e => by have := (ownb_lt HO2.out b e).1; omega⟩))
       have hl3 : ((E ++ about) ++ b).length = 8 + na + nb := by rw [List.length_append, HL2.out, HBL.out]
       obtain ⟨A3, c3, hv3, hr3, _⟩ := ownb_form (n := 8 + na + nb) (show OwnB w3 5 w.heap.size v3 ((E ++ about) ++ b) from hO3) hl3
       subst hv3
       have HL3 := Lib.hid hl3
       have HR3 := Lib.hid hr3
       have HRT3 := Lib.hid (rd_now HTR.out hB3)
       have HB3 := Lib.hid hB3
       have hz3 := hB3.size
       clear hO3 hg3 hat3 hF3 hB3 hl3 hr3))
  refine (refmac_any At nt ct tag A3 (8 + na + nb) c3 ((E ++ about) ++ b) w3 HTL.out ht30 HRT3.out HL3.out (by omega) HR3.out).mono ?_
  rintro e w4 ⟨v4, rfl, hO4, hb4⟩
  have HB4 := Lib.hid (HB3.out.trans (hb4.mono hz3))
  have hml := macL_len tag ((E ++ about) ++ b)
  obtain ⟨A4, c4, hv4, hr4, hc4⟩ := ownb_form (n := 32) hO4 hml
  subst hv4
  obtain ⟨A5, hs5, hr5⟩ := arg_to (c := c4) (k := 16) hr4 hml (by omega) (by omega)
  have hs5' : ∀ w' : World, (Instr.slice 22 (.slice A4 32 c4) none (some (.int .i64 16)) none).run Tryz.prog w' = .ok (.slice A5 16 c4) w' := hs5
  rw [← HTG.out] at hr5
  have HR5 := Lib.hid (show TagAt w4 A5 c4 (tagL tag about b) from ⟨hr5, by omega⟩)
  clear hO4 hb4 hr4 hs5 hr5 hml hc4
  go_wp2_with fail
  go_ret
  exact ⟨_, _, rfl, HR5.out, HB4.out⟩
set_option maxRecDepth 100000 in
set_option maxHeartbeats 2000000 in
theorem refseal_yes (Ae : Option Addr) (ne ce : Nat) (enc : List UInt8) (At : Option Addr) (nt ct : Nat) (tag : List UInt8) (nonce : Nat) (Aa : Option Addr) (na ca : Nat) (about : List UInt8) (Ap : Option Addr) (np cp : Nat) (p : List UInt8) (w : World)
    (hel : enc.length = ne) (hec : ne ≤ ce) (her : Rd w w.heap.size Ae enc) (hk : KeyOk enc) (htl : tag.length = nt) (ht30 : nt ≤ 1073741824) (htr : Rd w w.heap.size At tag) (hal : about.length = na) (ha30 : na ≤ 1073741824) (har : Rd w w.heap.size Aa about) (hp : p.length = np) (hp6 : np ≤ 65536) (hrp : Rd w w.heap.size Ap p) :
    Calls Tryz.prog 10 #[.slice Ae ne ce, .slice At nt ct, .int .i64 (nonce : Int), .slice Aa na ca, .slice Ap np cp] w fun e w' => ∃ v, e = .returned (.tuple #[v, .int .i64 0]) ∧ OwnB w' 5 w.heap.size v (sealL enc tag nonce about p) ∧ Below w.heap.size w w' := by
  have HEL := Lib.hid hel
  have HEC := Lib.hid hec
  have HER := Lib.hid her
  have HK := Lib.hid hk
  have HTL := Lib.hid htl
  have HTR := Lib.hid htr
  have HAL := Lib.hid hal
  have HAR := Lib.hid har
  have HPL := Lib.hid hp
  have HPR := Lib.hid hrp
  have HSL := Lib.hid (show sealL enc tag nonce about p = (be8 nonce ++ xorS enc nonce 0 p) ++ tagL tag about (be8 nonce ++ xorS enc nonce 0 p) by unfold sealL; rw [List.append_assoc])
  clear hel hec her hk htl htr hal har hp hrp
  go_enter Tryz.func10, Tryz.ntmps10
  go_wp2_with fail
  refine (refxor_any Ae ne ce enc Ap np cp p nonce 0 (by omega) w HEL.out HEC.out HER.out HK.out HPL.out hp6 HPR.out).mono ?_
  rintro e w1 ⟨v1, rfl, hO1, hb1⟩
  have hcl : (xorS enc nonce 0 p).length = np := by rw [xorS_length, HPL.out]
  generalize xorS enc nonce 0 p = C at *
  obtain ⟨A1, c1, hv1, hr1, _⟩ := ownb_form hO1 hcl
  subst hv1
  have hz1 := hb1.size
  have HR1 := Lib.hid hr1
  have HB1 := Lib.hid hb1
  have HCL := Lib.hid hcl
  clear hO1 hb1 hcl hr1
  go_wp2_with fail
  refine (reight_any nonce w1).mono ?_
  rintro e w2 ⟨v2, rfl, hO2, hb2⟩
  have h8 := b8_len nonce
  obtain ⟨A2, c2, hv2, _, _⟩ := ownb_form (n := 8) hO2.b h8
  subst hv2
  have hz2 := hb2.size
  have HO2 := Lib.hid (show OwnB w2 5 w.heap.size (.slice A2 8 c2) (be8 nonce) from OwnV.mono hO2.b (fun b e => by have := (OwnV.lt hO2.b b e).1; omega))
  have HR12 := Lib.hid (rd_now HR1.out hb2)
  have HB2 := Lib.hid (HB1.out.trans (hb2.mono hz1))
  have H8 := Lib.hid h8
  clear hO2 hb2 h8
  generalize be8 nonce = E at *
  go_wp2_with (with_reducible refine at_slot 28 ?_
               refine wpList_append_v u8.el (by rfl) (.tmp 26) (.tmp 27) rfl w.heap.size _ (bvs E) A1 np c1 (bvs C) rfl rfl HO2.out (by rw [bvs_length, HCL.out]) (HR12.out.news np HCL.out) (bvs_one _) (by rw [bvs_length, H8.out]; omega) (by rw [bvs_length, H8.out]; omega) (by omega) ?_
               intro v3 w3 hO3 hg3 hat3
               rw [← bvs_append] at hO3
               have hF3 := app_frame HO2.out (Frame.refl (fun b => b < w2.heap.size) w2) (Nat.le_refl _) hg3
               have hB3 := HB2.out.trans (hF3.toBelow (B := w.heap.size) (fun b hb => ⟨by omega, fun e => by have := (ownb_lt HO2.out b e).1; omega⟩))
               have hl3 : (E ++ C).length = 8 + np := by rw [List.length_append, H8.out, HCL.out]
               obtain ⟨A3, c3, hv3, hr3, _⟩ := ownb_form (n := 8 + np) (show OwnB w3 5 w.heap.size v3 (E ++ C) from hO3) hl3
               subst hv3
               have HO3 := Lib.hid (show OwnB w3 5 w.heap.size (.slice A3 (8 + np) c3) (E ++ C) from hO3)
               have HL3 := Lib.hid hl3
               have HR3 := Lib.hid hr3
               have HRT3 := Lib.hid (rd_now HTR.out hB3)
               have HRA3 := Lib.hid (rd_now HAR.out hB3)
               have HB3 := Lib.hid hB3
               have hz3 := hB3.size
               clear hO3 hg3 hat3 hF3 hB3 hl3 hr3)
  generalize E ++ C = O at *
  refine (reftagged_any At nt ct tag Aa na ca about A3 (8 + np) c3 O w3 HTL.out ht30 HRT3.out HAL.out ha30 HRA3.out HL3.out (by omega) HR3.out).mono ?_
  rintro e w4 ⟨A4, c4, rfl, hT4, hb4⟩
  have HO4 := Lib.hid (show OwnB w4 5 w.heap.size (.slice A3 (8 + np) c3) O from (Frame.of_below (S := fun k => k < w3.heap.size) hb4 (fun _ h => h)).own HO3.out (fun b e => (ownb_lt HO3.out b e).2))
  have HB4 := Lib.hid (HB3.out.trans (hb4.mono hz3))
  have hz4 := HB4.out.size
  have htl16 := tagL_len tag about O
  generalize tagL tag about O = TG at *
  have HTG := Lib.hid hT4.1
  have HT16 := Lib.hid htl16
  clear hT4 hb4 htl16
  go_wp2_with (with_reducible refine at_slot 34 ?_
               refine wpList_append_v u8.el (by rfl) (.tmp 29) (.tmp 33) rfl w.heap.size _ (bvs O) A4 16 c4 (bvs TG) rfl rfl HO4.out (by rw [bvs_length, HT16.out]) (HTG.out.news 16 HT16.out) (bvs_one _) (by rw [bvs_length, HL3.out]; omega) (by rw [bvs_length, HL3.out]; omega) hz4 ?_
               intro v5 w5 hO5 hg5 hat5
               rw [← bvs_append, ← HSL.out] at hO5
               have hF5 := app_frame HO4.out (Frame.refl (fun b => b < w4.heap.size) w4) (Nat.le_refl _) hg5
               have HB5 := Lib.hid (HB4.out.trans (hF5.toBelow (B := w.heap.size) (fun b hb => ⟨by omega, fun e => by have := (ownb_lt HO4.out b e).1; omega⟩)))
               have HO5 := Lib.hid (show OwnB w5 5 w.heap.size v5 (sealL enc tag nonce about p) from hO5)
               clear hO5 hg5 hat5 hF5)
  go_ret2
  exact ⟨_, rfl, HO5.out, HB5.out⟩
set_option maxRecDepth 100000 in
set_option maxHeartbeats 1000000 in
theorem refseal_no1 (Ae : Option Addr) (ne ce : Nat) (enc : List UInt8) (At : Option Addr) (nt ct : Nat) (nonce : Int) (Aa : Option Addr) (na ca : Nat) (Ap : Option Addr) (np cp : Nat) (w : World)
    (hel : enc.length = ne) (hec : ne ≤ ce) (her : Rd w w.heap.size Ae enc) (h : ¬ KeyOk enc ∨ nonce < 0) :
    Calls Tryz.prog 10 #[.slice Ae ne ce, .slice At nt ct, .int .i64 nonce, .slice Aa na ca, .slice Ap np cp] w fun e w' => e = .returned (.tuple #[.slice none 0 0, .int .i64 1]) ∧ Below w.heap.size w w' := by
  have HEL := Lib.hid hel
  have HEC := Lib.hid hec
  have HER := Lib.hid her
  have H := Lib.hid h
  clear hel hec her h
  go_enter Tryz.func10, Tryz.ntmps10
  go_wp2_with fail
  refine (refxor_no1 Ae ne ce enc Ap np cp nonce 0 w HEL.out HEC.out HER.out (H.out.elim .inl (fun h => .inr (.inl h)))).mono ?_
  rintro e w1 ⟨rfl, hb1⟩
  have HB1 := Lib.hid hb1
  clear hb1
  go_wp2_with fail
  go_ret2
  exact ⟨rfl, HB1.out⟩
set_option maxRecDepth 100000 in
set_option maxHeartbeats 1000000 in
theorem refseal_no2 (Ae : Option Addr) (ne ce : Nat) (enc : List UInt8) (At : Option Addr) (nt ct : Nat) (nonce : Nat) (Aa : Option Addr) (na ca : Nat) (Ap : Option Addr) (np cp : Nat) (w : World)
    (hel : enc.length = ne) (hec : ne ≤ ce) (her : Rd w w.heap.size Ae enc) (hk : KeyOk enc) (h : 65536 < np) :
    Calls Tryz.prog 10 #[.slice Ae ne ce, .slice At nt ct, .int .i64 (nonce : Int), .slice Aa na ca, .slice Ap np cp] w fun e w' => e = .returned (.tuple #[.slice none 0 0, .int .i64 2]) ∧ Below w.heap.size w w' := by
  have HEL := Lib.hid hel
  have HEC := Lib.hid hec
  have HER := Lib.hid her
  have H := Lib.hid (And.intro hk h)
  clear hel hec her h
  go_enter Tryz.func10, Tryz.ntmps10
  go_wp2_with fail
  refine (refxor_no2 Ae ne ce enc Ap np cp nonce 0 w HEL.out HEC.out HER.out H.out.1 (.inl H.out.2)).mono ?_
  rintro e w1 ⟨rfl, hb1⟩
  have HB1 := Lib.hid hb1
  clear hb1
  go_wp2_with fail
  go_ret2
  exact ⟨rfl, HB1.out⟩
set_option maxRecDepth 100000 in
theorem refsize_any (n : Int) (h0 : -9223372036854775808 ≤ n) (h1 : n ≤ 9223372036854775807) (w : World) :
    Calls Tryz.prog 14 #[.int .i64 n] w fun e w' => e = .returned (.int .i64 (sizeI n)) ∧ w = w' := by
  by_cases hn : n < 0
  · have hs : sizeI n = 0 := by unfold sizeI; rw [if_pos (.inl hn)]
    rw [hs]
    go_enter Tryz.func14, Tryz.ntmps14
    go_wp2
    go_ret
    exact ⟨rfl, rfl⟩
  · by_cases hb : 65536 < n
    · have hs : sizeI n = 0 := by unfold sizeI; rw [if_pos (.inr hb)]
      rw [hs]
      go_enter Tryz.func14, Tryz.ntmps14
      go_wp2
      go_ret
      exact ⟨rfl, rfl⟩
    · have hs : sizeI n = 24 + n := by unfold sizeI; rw [if_neg (by omega)]
      have hw : IntKind.i64.wrap (24 + n) = 24 + n := i64_wraps _ (by omega) (by omega)
      rw [hs]
      go_enter Tryz.func14, Tryz.ntmps14
      go_wp2
      go_ret
      exact ⟨rfl, rfl⟩
end Go.Proofs.YtcbihjcnnfohmaaGreat.Box
