/- The document's Xor of a stream: contract. -/
import Derived.Test.YtcbihjcnnfohmaaGreatStrRef
import Derived.Deep.RegionHeld3
namespace Go.Proofs.YtcbihjcnnfohmaaGreat.Str
open Go Go.ChangeShapes Go.WideShapes Go.ChangeAt Go.RowKit Go.Proofs.YtcbihjcnnfohmaaGreat.Aes
set_option linter.unusedVariables false
set_option linter.unusedSimpArgs false
/-- the pad that is held behind i bytes -/
def Held (w : World) (base : Nat) (v : Value) (l : List UInt8) (nonce a i : Nat) : Prop := 0 < i → ∃ gp, v = .slice (some ⟨gp, 0, none⟩) 16 16 ∧ base ≤ gp ∧ RowV w 5 gp (bvs (padL l nonce ((a + i - 1) / 16)))
theorem sarith {a i s q o : Nat} (hs : a + i = s) (hq : s / 16 = q) (ho : s % 16 = o) (h : s ≤ 1099511700000) : (a : Int) + (i : Int) = (s : Int) ∧ IntKind.i64.wrap ((a : Int) + (i : Int)) = (s : Int) ∧ Int.tmod (s : Int) 16 = (o : Int) ∧ wrap64 ((wrap64 (s : Int)).tdiv 16) = (q : Int) ∧ (wrap64 (s : Int)).tmod 16 = (o : Int) := by
  have a1 : (a : Int) + (i : Int) = (s : Int) := by omega
  have w1 : wrap64 (s : Int) = (s : Int) := IntWalk.wrap64_in (s : Int) ⟨by omega, by omega⟩
  have a4 : Int.tmod (s : Int) 16 = (o : Int) := (Int.tmod_eq_emod_of_nonneg (by omega)).trans (by omega)
  refine ⟨a1, (congrArg _ a1).trans (i64_wraps _ (by omega) (by omega)), a4, ?_, (congrArg (fun x => Int.tmod x 16) w1).trans a4⟩
  have e : (wrap64 (s : Int)).tdiv 16 = (q : Int) := (congrArg (fun x => Int.tdiv x 16) w1).trans ((Int.tdiv_eq_ediv_of_nonneg (by omega)).trans (by omega))
  exact (congrArg wrap64 e).trans (IntWalk.wrap64_in (q : Int) ⟨by omega, by omega⟩)
set_option maxRecDepth 100000 in
set_option maxHeartbeats 4000000 in
theorem refxor_any (A : Option Addr) (L c : Nat) (l : List UInt8) (A2 : Option Addr) (pn pc : Nat) (p : List UInt8) (nonce a : Nat) (ha : a ≤ 1099511627776) (w : World) (hn : l.length = L) (hc : L ≤ c) (hr : Rd w w.heap.size A l) (hk : KeyOk l) (hp : p.length = pn) (hp6 : pn ≤ 65536) (hrp : Rd w w.heap.size A2 p) :
    Calls Tryz.prog 26 #[.slice A L c, .int .i64 (nonce : Int), .int .i64 (a : Int), .slice A2 pn pc] w fun e w' => ∃ v, e = .returned (.tuple #[v, .int .i64 0]) ∧ OwnB w' 5 w.heap.size v (xorS l nonce a p) ∧ Below w.heap.size w w' := by
  have HN := Lib.hid hn
  have HR := Lib.hid hr
  have HK4 := Lib.hid hk.four
  have HK := Lib.hid hk
  have HP := Lib.hid hp
  have HRP := Lib.hid hrp
  have HAA := Lib.hid ha
  have HP6 := Lib.hid hp6
  obtain ⟨nn, hnn⟩ : ∃ nn, l.length / 4 = nn := ⟨_, rfl⟩
  rw [hnn] at HK4
  have b1 : decide ((nonce : Int) < 0) = false := decide_eq_false (by omega)
  have b2 : decide ((a : Int) < 0) = false := decide_eq_false (by omega)
  have b3 : decide ((65536 : Int) < (pn : Int)) = false := decide_eq_false (by omega)
  have b4 : decide ((1099511627776 : Int) < (a : Int)) = false := decide_eq_false (by omega)
  clear hn hr hk hnn ha hp hp6 hrp
  go_enter Tryz.func26, Tryz.ntmps26
  go_wp2_with fail
  refine (refnew_any A L c nn l HK4.out.1 (by rw [← HN.out]; exact HK4.out.2) HN.out hc w HR.out).mono ?_
  rintro e w1 ⟨g, rfl, hX, hb1⟩
  have hz1 := hb1.size
  have HX := Lib.hid hX
  have HB1 := Lib.hid hb1
  clear hX hb1
  go_wp2_with fail
  clear b1 b2 b3 b4
  obtain ⟨X, hX⟩ : ∃ X, xorS l nonce a p = X := ⟨_, rfl⟩
  have HXE := Lib.hid hX
  have HXL := Lib.hid (show X.length = pn by rw [← hX, xorS_length]; exact HP.out)
  clear hX
  go_loopw [12, 13, 14] (fun ov pv iv wr => ∃ i : Nat, i ≤ pn ∧ iv = .int .i64 (i : Int) ∧ OwnB wr 5 w1.heap.size ov (X.take i) ∧ Held wr w1.heap.size pv l nonce a i ∧ (∀ k, ov.ownBlock = some k → pv.ownBlock ≠ some k) ∧ Below w1.heap.size w1 wr) (fun _ _ iv _ => 70000 - (intOf iv).toNat)
  case atStart => exact ⟨0, by omega, rfl, OwnV.nil _ _ _, (fun h => absurd h (by omega)), (fun k hk => by cases hk), Below.refl _ _⟩
  case round =>
    obtain ⟨i, hi, rfl, hO, hH, hD, hB⟩ := hrel
    have hml : (X.take i).length = i := by rw [List.length_take, HXL.out]; omega
    obtain ⟨Ao, co, rfl, _, hco⟩ := OwnB.form hO
    rw [hml] at hO hD hco ⊢
    have hzr := hB.size
    have HO := Lib.hid hO
    have HH := Lib.hid hH
    have HD := Lib.hid hD
    have HB := Lib.hid hB
    have HML := Lib.hid hml
    clear hO hH hD hB hml
    have i6 : i ≤ 65536 := by have := HP6.out; omega
    by_cases hlt : i < pn
    · have hii : (i : Int) < (pn : Int) := by omega
      obtain ⟨s, hs⟩ : ∃ s, a + i = s := ⟨_, rfl⟩
      obtain ⟨q, hq⟩ : ∃ q, s / 16 = q := ⟨_, rfl⟩
      obtain ⟨o, ho⟩ : ∃ o, s % 16 = o := ⟨_, rfl⟩
      have hs4 : s ≤ 1099511700000 := by have := HAA.out; omega
      have HS := Lib.hid hs
      have HQ := Lib.hid hq
      have HOE := Lib.hid ho
      have o16 : o < 16 := by omega
      have o16i : (o : Int) < 16 := by omega
      obtain ⟨a1, a2, a4, a6, a7⟩ := sarith hs hq ho hs4
      have A7E := Lib.hid a7
      have A6E := Lib.hid a6
      have A2E := Lib.hid a2
      have A4E := Lib.hid a4
      have A1E := Lib.hid a1
      clear a1 a2 a4 a6 a7
      obtain ⟨adp, hAp, habp, hacp⟩ := rd_some2 HRP.out (by rw [HP.out]; exact Nat.lt_of_le_of_lt (Nat.zero_le _) hlt)
      subst hAp
      have cp0 := ((HB1.out.trans (HB.out.mono hz1)).cell (p := adp.add i) (by rw [add_block]; exact habp)).trans (hacp i (by rw [HP.out]; exact hlt))
      have hst : X.take (i + 1) = X.take i ++ [p.getD i 0 ^^^ at_ (padL l nonce q) o] := by
        have h0 := xorS_take (key := l) (nonce := nonce) (a := a) (p := p) (i := i) (by rw [HP.out]; exact hlt)
        rw [HXE.out, hs, hq, ho] at h0
        exact h0
      have HST := Lib.hid hst
      have CP0 := Lib.hid cp0
      clear hs hq ho hs4 cp0 hst hacp
      have hap : adp.block < wr.heap.size := by omega
      by_cases hnew : i = 0 ∨ o = 0
      · have a1 := A1E.out
        have t1 : ((i : Int) = 0) ∨ ((¬ (i : Int) = 0) ∧ o = 0) := by omega
        rcases t1 with t1 | ⟨t1, t2⟩
        · have t1' : ((i : Int) == 0) = true := by rw [t1]; rfl
          clear t1 hnew
          go_wp2_with fail
          refine (reight_any nonce wr).mono ?_
          rintro e w2 ⟨v2, rfl, hO2, hb2⟩
          have hz2 := hb2.size
          have HO2 := Lib.hid hO2
          have HB2 := Lib.hid hb2
          clear hO2 hb2
          go_wp2_with fail
          rw [A6E.out]
          refine (reight_any q w2).mono ?_
          rintro e w3 ⟨v3, rfl, hO3, hb3⟩
          have hz3 := hb3.size
          obtain ⟨A3, c3, rfl, hr3, _⟩ := hO3.form
          rw [be8_length]
          have HO3 := Lib.hid (HO2.out.below hb3)
          have HB3 := Lib.hid (HB2.out.trans (hb3.mono hz2))
          have HR3 := Lib.hid hr3
          have hz13 : wr.heap.size ≤ w3.heap.size := by omega
          clear hO3 hb3 hr3
          go_wp2_with (with_reducible refine at_slot 61 ?_
                       refine wpList_append_u8 Go.Proofs.YtcbihjcnnfohmaaGreat.u8 rfl (.tmp 55) (.tmp 60) rfl wr.heap.size _ (be8 nonce) _ 8 c3 (be8 q) _ rfl rfl HO3.out HR3.out (be8_length _) (by rw [be8_length]; omega) hz13 ?_
                       intro v4 w4 hO4 hg4 hat4
                       have hB4 := below_grown HB3.out hg4 hz13 HO3.out (Nat.le_refl _)
                       obtain ⟨A4, c4, hv4, hr4, _⟩ := hO4.form
                       rw [List.length_append, be8_length, be8_length] at hv4
                       subst hv4
                       have HB4 := Lib.hid hB4
                       have HR4 := Lib.hid (show Rd w4 w4.heap.size A4 (cntL nonce q) from hr4)
                       clear hO4 hg4 hat4 hB4 hr4)
          have hX4 := HX.out.frame (Frame.of_below (HB.out.trans (HB4.out.mono hzr)) (fun k hk => hk.2))
          have hz4 := HB4.out.size
          refine (refenc_any g nn l (cntL nonce q) A4 _ w4 (hX4.rk (fun k hk => by omega)) (cntL_length _ _) HR4.out).mono ?_
          rintro e w5 ⟨gv, rfl, hg5, hgl, hb5⟩
          have hz5 := hb5.size
          have hb05 : Below wr.heap.size wr w5 := HB4.out.trans (hb5.mono hz4)
          have HG5 := Lib.hid (show RowV w5 5 gv (bvs (padL l nonce q)) from hg5)
          have hgp : w1.heap.size ≤ gv := by omega
          have HO5 := Lib.hid (HO.out.below hb05 (fun k hk => (HO.out.lt k hk).2))
          have HD5 := Lib.hid (show ∀ k, Value.ownBlock (.slice Ao i co) = some k → Value.ownBlock (.slice (some ⟨gv, 0, none⟩) 16 16) ≠ some k from fun k hk e => by injection e with e; change gv = k at e; have := (HO.out.lt k hk).2; omega)
          have HB5 := Lib.hid (HB.out.trans (hb05.mono hzr))
          have CP5 := Lib.hid ((hb05.cell (p := adp.add i) (by rw [add_block]; omega)).trans CP0.out)
          clear hg5 hgl hb5 hb05 hX4
          clear a1 t1'
          have hx := u8x (p.getD i 0) (at_ (padL l nonce q) o)
          have c2 : w5.cell? ⟨gv, o, none⟩ = some (bv (at_ (padL l nonce q) o)) := by
            have hl : (padL l nonce q)[o]? = some (at_ (padL l nonce q) o) := by
              have : o < (padL l nonce q).length := by rw [padL_length HK.out]; exact o16
              simp [at_, List.getD_eq_getElem?_getD, List.getElem?_eq_getElem this]
            exact HG5.out.cell (by simp [bvs, hl])
          have c1 := CP5.out
          obtain ⟨y, hy⟩ : ∃ y, p.getD i 0 ^^^ at_ (padL l nonce q) o = y := ⟨_, rfl⟩
          have HY := Lib.hid hy
          rw [hy] at hx
          rw [bv_int] at c1 c2
          generalize (p.getD i 0).toNat = x1 at *
          generalize (at_ (padL l nonce q) o).toNat = x2 at *
          have a2 := A2E.out
          have a4 := A4E.out
          clear hy
          go_wp2_with fail
          refine wp_region_held_drew (S := fun W' => W'.cell? (adp.add i) = some (.int .u8 (x1 : Int)) ∧ W'.cell? ⟨gv, o, none⟩ = some (.int .u8 (x2 : Int))) (by kernel_rfl) (⟨c1, c2⟩) (fun hHeld => ?_)
          refine wpAnyH_take (i := 0) (v := ?_) rfl (by kernel_rfl) (by kernel_rfl) (by kernel_rfl) (fun _ _ _ h => h) (Or.inl ⟨by kernel_rfl, ?_⟩) (by assumption) ?_
          rotate_left
          · (intro w hSw; (try dsimp only at hSw); go_simp; first | done | with_reducible rfl)
          (try simp only [Act.put, List.setIfInBounds_toArray, List.set_cons_zero, List.set_cons_succ, List.getElem_toArray, List.getElem_cons_zero, List.getElem_cons_succ])
          refine wpAnyH_take (i := 1) (v := ?_) rfl (by kernel_rfl) (by kernel_rfl) (by kernel_rfl) (fun _ _ _ h => h) (Or.inl ⟨by kernel_rfl, ?_⟩) (by assumption) ?_
          rotate_left
          · (intro w hSw; (try dsimp only at hSw); go_simp; first | done | with_reducible rfl)
          (try simp only [Act.put, List.setIfInBounds_toArray, List.set_cons_zero, List.set_cons_succ, List.getElem_toArray, List.getElem_cons_zero, List.getElem_cons_succ])
          refine wpAnyH_take (i := 2) (v := ?_) rfl (by kernel_rfl) (by kernel_rfl) (by kernel_rfl) (fun _ _ _ h => h) (Or.inl ⟨by kernel_rfl, ?_⟩) (by assumption) ?_
          rotate_left
          · (intro w hSw; (try dsimp only at hSw); go_simp; first | done | with_reducible rfl)
          (try simp only [Act.put, List.setIfInBounds_toArray, List.set_cons_zero, List.set_cons_succ, List.getElem_toArray, List.getElem_cons_zero, List.getElem_cons_succ])
          refine wpAnyH_take (i := 3) (v := ?_) rfl (by kernel_rfl) (by kernel_rfl) (by kernel_rfl) (fun _ _ _ h => h) (Or.inl ⟨by kernel_rfl, ?_⟩) (by assumption) ?_
          rotate_left
          · (intro w hSw; (try dsimp only at hSw); go_simp; first | done | with_reducible rfl)
          (try simp only [Act.put, List.setIfInBounds_toArray, List.set_cons_zero, List.set_cons_succ, List.getElem_toArray, List.getElem_cons_zero, List.getElem_cons_succ])
          refine wpAnyH_take (i := 4) (v := ?_) rfl (by kernel_rfl) (by kernel_rfl) (by kernel_rfl) (fun _ _ _ h => h) (Or.inl ⟨by kernel_rfl, ?_⟩) (by assumption) ?_
          rotate_left
          · (intro w hSw; (try dsimp only at hSw); go_simp; first | done | with_reducible rfl)
          (try simp only [Act.put, List.setIfInBounds_toArray, List.set_cons_zero, List.set_cons_succ, List.getElem_toArray, List.getElem_cons_zero, List.getElem_cons_succ])
          refine wpAnyH_take (i := 5) (v := ?_) rfl (by kernel_rfl) (by kernel_rfl) (by kernel_rfl) (fun _ _ _ h => h) (Or.inl ⟨by kernel_rfl, ?_⟩) (by assumption) ?_
          rotate_left
          · (intro w hSw; (try dsimp only at hSw); go_simp; first | done | with_reducible rfl)
          (try simp only [Act.put, List.setIfInBounds_toArray, List.set_cons_zero, List.set_cons_succ, List.getElem_toArray, List.getElem_cons_zero, List.getElem_cons_succ])
          refine wpAnyH_take (i := 6) (v := ?_) rfl (by kernel_rfl) (by kernel_rfl) (by kernel_rfl) (fun _ _ _ h => h) (Or.inl ⟨by kernel_rfl, ?_⟩) (by assumption) ?_
          rotate_left
          · (intro w hSw; (try dsimp only at hSw); go_simp; first | done | with_reducible rfl)
          (try simp only [Act.put, List.setIfInBounds_toArray, List.set_cons_zero, List.set_cons_succ, List.getElem_toArray, List.getElem_cons_zero, List.getElem_cons_succ])
          refine wpAnyH_take (i := 7) (v := ?_) rfl (by kernel_rfl) (by kernel_rfl) (by kernel_rfl) (fun _ _ _ h => h) (Or.inl ⟨by kernel_rfl, ?_⟩) (by assumption) ?_
          rotate_left
          · (intro w hSw; (try dsimp only at hSw); go_simp; first | done | with_reducible rfl)
          (try simp only [Act.put, List.setIfInBounds_toArray, List.set_cons_zero, List.set_cons_succ, List.getElem_toArray, List.getElem_cons_zero, List.getElem_cons_succ])
          refine wpAnyH_take (i := 8) (v := ?_) rfl (by kernel_rfl) (by kernel_rfl) (by kernel_rfl) (fun _ _ _ h => h) (Or.inl ⟨by kernel_rfl, ?_⟩) (by assumption) ?_
          rotate_left
          · (intro w hSw; (try dsimp only at hSw); go_simp; first | done | with_reducible rfl)
          (try simp only [Act.put, List.setIfInBounds_toArray, List.set_cons_zero, List.set_cons_succ, List.getElem_toArray, List.getElem_cons_zero, List.getElem_cons_succ])
          refine wpAnyH_take (i := 9) (v := ?_) rfl (by kernel_rfl) (by kernel_rfl) (by kernel_rfl) (fun _ _ _ h => h) (Or.inl ⟨by kernel_rfl, ?_⟩) (by assumption) ?_
          rotate_left
          · (intro w hSw; (try dsimp only at hSw); go_simp; first | done | with_reducible rfl)
          (try simp only [Act.put, List.setIfInBounds_toArray, List.set_cons_zero, List.set_cons_succ, List.getElem_toArray, List.getElem_cons_zero, List.getElem_cons_succ])
          refine wpAnyH_take (i := 10) (v := ?_) rfl (by kernel_rfl) (by kernel_rfl) (by kernel_rfl) (fun _ _ _ h => h) (Or.inl ⟨by kernel_rfl, ?_⟩) (by assumption) ?_
          rotate_left
          · (intro w hSw; (try dsimp only at hSw); go_simp; first | done | with_reducible rfl)
          (try simp only [Act.put, List.setIfInBounds_toArray, List.set_cons_zero, List.set_cons_succ, List.getElem_toArray, List.getElem_cons_zero, List.getElem_cons_succ])
          refine wpAnyH_take (i := 11) (v := ?_) rfl (by kernel_rfl) (by kernel_rfl) (by kernel_rfl) (fun _ _ _ h => h) (Or.inl ⟨by kernel_rfl, ?_⟩) (by assumption) ?_
          rotate_left
          · (intro w hSw; (try dsimp only at hSw); go_simp; first | done | with_reducible rfl)
          (try simp only [Act.put, List.setIfInBounds_toArray, List.set_cons_zero, List.set_cons_succ, List.getElem_toArray, List.getElem_cons_zero, List.getElem_cons_succ])
          refine wpAnyH_take (i := 12) (v := ?_) rfl (by kernel_rfl) (by kernel_rfl) (by kernel_rfl) (fun _ _ _ h => h) (Or.inl ⟨by kernel_rfl, ?_⟩) (by assumption) ?_
          rotate_left
          · (intro w hSw; (try dsimp only at hSw); go_simp; first | done | with_reducible rfl)
          (try simp only [Act.put, List.setIfInBounds_toArray, List.set_cons_zero, List.set_cons_succ, List.getElem_toArray, List.getElem_cons_zero, List.getElem_cons_succ])
          refine wpAnyH_ready (rs := [13]) (by kernel_rfl) (by simp) ?_
          refine AllReadyH.cons rfl (fun KK hKK => ?_) AllReadyH.nil
          go_simp
          refine hKK.out _ _ ?_ (fun hHeld => ?_)
          · (exact ⟨cell_new _ c1, cell_new _ c2⟩)
          clear hKK KK
          (try simp only [Act.put, List.setIfInBounds_toArray, List.set_cons_zero, List.set_cons_succ, List.getElem_toArray, List.getElem_cons_zero, List.getElem_cons_succ])
          refine wpAnyH_ready (rs := [14]) (by kernel_rfl) (by simp) ?_
          refine AllReadyH.cons rfl (fun KK hKK => ?_) AllReadyH.nil
          refine step_append_v u8.el (by rfl) (.tmp 65) (.tmp 78) rfl w1.heap.size _ (bvs (X.take i)) _ 1 1 (bvs [y]) rfl rfl (HO5.out.alloc _) rfl (src_row w5 (.int .u8 ((y.toNat : Nat) : Int)) 5) (bvs_one _) (by rw [bvs_length, HML.out]; omega) (by rw [bvs_length, HML.out]; omega) (by simp; omega) ?_
          intro v9 w9 hO9 hg9 hat9
          rw [← bvs_append, ← HY.out, ← HST.out] at hO9
          have hF9 : Frame (fun b => b < w5.heap.size ∧ Value.ownBlock (.slice Ao i co) ≠ some b) w5 w9 := Frame.trans ((Frame.refl (fun b => b < w5.heap.size ∧ Value.ownBlock (.slice Ao i co) ≠ some b) w5).drew.alloc (fun b hb => hb.1) _) (Frame.of_grown (S := fun b => b < w5.heap.size ∧ Value.ownBlock (.slice Ao i co) ≠ some b) hg9 (fun b hb => ⟨by have := hb.1; simp; omega, fun e => hb.2 e.symm⟩)) (fun b hb => hb)
          have hB9 := HB5.out.trans (hF9.toBelow (B := w1.heap.size) (fun b hb => ⟨by omega, fun e => by have := (HO5.out.lt b e).1; omega⟩))
          have hH9 : Held w9 w1.heap.size (.slice (some ⟨gv, 0, none⟩) 16 16) l nonce a (i + 1) := fun _ => ⟨gv, rfl, hgp, by
            rw [show (a + (i + 1) - 1) / 16 = q by have := HS.out; have := HQ.out; omega]
            exact (hF9.block gv ⟨HG5.out.lt, fun e => HD5.out _ e rfl⟩).trans HG5.out⟩
          have hD9 : ∀ k, v9.ownBlock = some k → Value.ownBlock (.slice (some ⟨gv, 0, none⟩) 16 16) ≠ some k := fun k hk => by
            rcases hat9 with h | h
            · exact HD5.out k (h.symm.trans hk)
            · rw [h] at hk; injection hk with hk; simp at hk; subst hk
              intro e; injection e with e; have := HG5.out.lt; change gv = _ at e; omega
          have K1 := Lib.hid (show w9.cell? (adp.add i) = some (.int .u8 (x1 : Int)) from (World.cell?_of_block (a := adp.add i) (by rw [add_block]; exact hF9.block adp.block ⟨by omega, fun e => by have := (HO5.out.lt _ e).1; omega⟩)).trans c1)
          have K2 := Lib.hid (show w9.cell? ⟨gv, o, none⟩ = some (.int .u8 (x2 : Int)) from (World.cell?_of_block (a := ⟨gv, o, none⟩) (hF9.block gv ⟨HG5.out.lt, fun e => HD5.out _ e rfl⟩)).trans c2)
          have HO9 := Lib.hid (show OwnB w9 5 w1.heap.size v9 (X.take (i + 1)) from hO9)
          have HB9 := Lib.hid hB9
          have HH9 := Lib.hid hH9
          have HD9 := Lib.hid hD9
          clear hO9 hg9 hat9 hF9 hB9 hH9 hD9
          refine hKK.out _ _ ?_ (fun hHeld => ?_)
          · (exact ⟨K1.out, K2.out⟩)
          clear hKK KK
          (try simp only [Act.put, List.setIfInBounds_toArray, List.set_cons_zero, List.set_cons_succ, List.getElem_toArray, List.getElem_cons_zero, List.getElem_cons_succ])
          refine wpAnyH_take (i := 15) (v := ?_) rfl (by kernel_rfl) (by kernel_rfl) (by kernel_rfl) (fun _ _ _ h => h) (Or.inl ⟨by kernel_rfl, ?_⟩) (by assumption) ?_
          rotate_left
          · (intro w hSw; (try dsimp only at hSw); go_simp; first | done | with_reducible rfl)
          (try simp only [Act.put, List.setIfInBounds_toArray, List.set_cons_zero, List.set_cons_succ, List.getElem_toArray, List.getElem_cons_zero, List.getElem_cons_succ])
          refine wpAnyH_done (by kernel_rfl) ?_ _
          go_wp2_with fail
          go_roundw
          case rel => exact ⟨i + 1, by omega, by go_num, HO9.out, HH9.out, HD9.out, HB9.out⟩
          case measure => simp [intOf] <;> omega
        · have t1' : ((i : Int) == 0) = false := beq_eq_false_iff_ne.2 t1
          have t2' : ((wrap64 (s : Int)).tmod 16 == 0) = true := by rw [A7E.out, t2]; rfl
          clear t1 hnew t2
          go_wp2_with fail
          refine (reight_any nonce wr).mono ?_
          rintro e w2 ⟨v2, rfl, hO2, hb2⟩
          have hz2 := hb2.size
          have HO2 := Lib.hid hO2
          have HB2 := Lib.hid hb2
          clear hO2 hb2
          go_wp2_with fail
          rw [A6E.out]
          refine (reight_any q w2).mono ?_
          rintro e w3 ⟨v3, rfl, hO3, hb3⟩
          have hz3 := hb3.size
          obtain ⟨A3, c3, rfl, hr3, _⟩ := hO3.form
          rw [be8_length]
          have HO3 := Lib.hid (HO2.out.below hb3)
          have HB3 := Lib.hid (HB2.out.trans (hb3.mono hz2))
          have HR3 := Lib.hid hr3
          have hz13 : wr.heap.size ≤ w3.heap.size := by omega
          clear hO3 hb3 hr3
          go_wp2_with (with_reducible refine at_slot 61 ?_
                       refine wpList_append_u8 Go.Proofs.YtcbihjcnnfohmaaGreat.u8 rfl (.tmp 55) (.tmp 60) rfl wr.heap.size _ (be8 nonce) _ 8 c3 (be8 q) _ rfl rfl HO3.out HR3.out (be8_length _) (by rw [be8_length]; omega) hz13 ?_
                       intro v4 w4 hO4 hg4 hat4
                       have hB4 := below_grown HB3.out hg4 hz13 HO3.out (Nat.le_refl _)
                       obtain ⟨A4, c4, hv4, hr4, _⟩ := hO4.form
                       rw [List.length_append, be8_length, be8_length] at hv4
                       subst hv4
                       have HB4 := Lib.hid hB4
                       have HR4 := Lib.hid (show Rd w4 w4.heap.size A4 (cntL nonce q) from hr4)
                       clear hO4 hg4 hat4 hB4 hr4)
          have hX4 := HX.out.frame (Frame.of_below (HB.out.trans (HB4.out.mono hzr)) (fun k hk => hk.2))
          have hz4 := HB4.out.size
          refine (refenc_any g nn l (cntL nonce q) A4 _ w4 (hX4.rk (fun k hk => by omega)) (cntL_length _ _) HR4.out).mono ?_
          rintro e w5 ⟨gv, rfl, hg5, hgl, hb5⟩
          have hz5 := hb5.size
          have hb05 : Below wr.heap.size wr w5 := HB4.out.trans (hb5.mono hz4)
          have HG5 := Lib.hid (show RowV w5 5 gv (bvs (padL l nonce q)) from hg5)
          have hgp : w1.heap.size ≤ gv := by omega
          have HO5 := Lib.hid (HO.out.below hb05 (fun k hk => (HO.out.lt k hk).2))
          have HD5 := Lib.hid (show ∀ k, Value.ownBlock (.slice Ao i co) = some k → Value.ownBlock (.slice (some ⟨gv, 0, none⟩) 16 16) ≠ some k from fun k hk e => by injection e with e; change gv = k at e; have := (HO.out.lt k hk).2; omega)
          have HB5 := Lib.hid (HB.out.trans (hb05.mono hzr))
          have CP5 := Lib.hid ((hb05.cell (p := adp.add i) (by rw [add_block]; omega)).trans CP0.out)
          clear hg5 hgl hb5 hb05 hX4
          clear a1 t1' t2'
          have hx := u8x (p.getD i 0) (at_ (padL l nonce q) o)
          have c2 : w5.cell? ⟨gv, o, none⟩ = some (bv (at_ (padL l nonce q) o)) := by
            have hl : (padL l nonce q)[o]? = some (at_ (padL l nonce q) o) := by
              have : o < (padL l nonce q).length := by rw [padL_length HK.out]; exact o16
              simp [at_, List.getD_eq_getElem?_getD, List.getElem?_eq_getElem this]
            exact HG5.out.cell (by simp [bvs, hl])
          have c1 := CP5.out
          obtain ⟨y, hy⟩ : ∃ y, p.getD i 0 ^^^ at_ (padL l nonce q) o = y := ⟨_, rfl⟩
          have HY := Lib.hid hy
          rw [hy] at hx
          rw [bv_int] at c1 c2
          generalize (p.getD i 0).toNat = x1 at *
          generalize (at_ (padL l nonce q) o).toNat = x2 at *
          have a2 := A2E.out
          have a4 := A4E.out
          clear hy
          go_wp2_with fail
          refine wp_region_held_drew (S := fun W' => W'.cell? (adp.add i) = some (.int .u8 (x1 : Int)) ∧ W'.cell? ⟨gv, o, none⟩ = some (.int .u8 (x2 : Int))) (by kernel_rfl) (⟨c1, c2⟩) (fun hHeld => ?_)
          refine wpAnyH_take (i := 0) (v := ?_) rfl (by kernel_rfl) (by kernel_rfl) (by kernel_rfl) (fun _ _ _ h => h) (Or.inl ⟨by kernel_rfl, ?_⟩) (by assumption) ?_
          rotate_left
          · (intro w hSw; (try dsimp only at hSw); go_simp; first | done | with_reducible rfl)
          (try simp only [Act.put, List.setIfInBounds_toArray, List.set_cons_zero, List.set_cons_succ, List.getElem_toArray, List.getElem_cons_zero, List.getElem_cons_succ])
          refine wpAnyH_take (i := 1) (v := ?_) rfl (by kernel_rfl) (by kernel_rfl) (by kernel_rfl) (fun _ _ _ h => h) (Or.inl ⟨by kernel_rfl, ?_⟩) (by assumption) ?_
          rotate_left
          · (intro w hSw; (try dsimp only at hSw); go_simp; first | done | with_reducible rfl)
          (try simp only [Act.put, List.setIfInBounds_toArray, List.set_cons_zero, List.set_cons_succ, List.getElem_toArray, List.getElem_cons_zero, List.getElem_cons_succ])
          refine wpAnyH_take (i := 2) (v := ?_) rfl (by kernel_rfl) (by kernel_rfl) (by kernel_rfl) (fun _ _ _ h => h) (Or.inl ⟨by kernel_rfl, ?_⟩) (by assumption) ?_
          rotate_left
          · (intro w hSw; (try dsimp only at hSw); go_simp; first | done | with_reducible rfl)
          (try simp only [Act.put, List.setIfInBounds_toArray, List.set_cons_zero, List.set_cons_succ, List.getElem_toArray, List.getElem_cons_zero, List.getElem_cons_succ])
          refine wpAnyH_take (i := 3) (v := ?_) rfl (by kernel_rfl) (by kernel_rfl) (by kernel_rfl) (fun _ _ _ h => h) (Or.inl ⟨by kernel_rfl, ?_⟩) (by assumption) ?_
          rotate_left
          · (intro w hSw; (try dsimp only at hSw); go_simp; first | done | with_reducible rfl)
          (try simp only [Act.put, List.setIfInBounds_toArray, List.set_cons_zero, List.set_cons_succ, List.getElem_toArray, List.getElem_cons_zero, List.getElem_cons_succ])
          refine wpAnyH_take (i := 4) (v := ?_) rfl (by kernel_rfl) (by kernel_rfl) (by kernel_rfl) (fun _ _ _ h => h) (Or.inl ⟨by kernel_rfl, ?_⟩) (by assumption) ?_
          rotate_left
          · (intro w hSw; (try dsimp only at hSw); go_simp; first | done | with_reducible rfl)
          (try simp only [Act.put, List.setIfInBounds_toArray, List.set_cons_zero, List.set_cons_succ, List.getElem_toArray, List.getElem_cons_zero, List.getElem_cons_succ])
          refine wpAnyH_take (i := 5) (v := ?_) rfl (by kernel_rfl) (by kernel_rfl) (by kernel_rfl) (fun _ _ _ h => h) (Or.inl ⟨by kernel_rfl, ?_⟩) (by assumption) ?_
          rotate_left
          · (intro w hSw; (try dsimp only at hSw); go_simp; first | done | with_reducible rfl)
          (try simp only [Act.put, List.setIfInBounds_toArray, List.set_cons_zero, List.set_cons_succ, List.getElem_toArray, List.getElem_cons_zero, List.getElem_cons_succ])
          refine wpAnyH_take (i := 6) (v := ?_) rfl (by kernel_rfl) (by kernel_rfl) (by kernel_rfl) (fun _ _ _ h => h) (Or.inl ⟨by kernel_rfl, ?_⟩) (by assumption) ?_
          rotate_left
          · (intro w hSw; (try dsimp only at hSw); go_simp; first | done | with_reducible rfl)
          (try simp only [Act.put, List.setIfInBounds_toArray, List.set_cons_zero, List.set_cons_succ, List.getElem_toArray, List.getElem_cons_zero, List.getElem_cons_succ])
          refine wpAnyH_take (i := 7) (v := ?_) rfl (by kernel_rfl) (by kernel_rfl) (by kernel_rfl) (fun _ _ _ h => h) (Or.inl ⟨by kernel_rfl, ?_⟩) (by assumption) ?_
          rotate_left
          · (intro w hSw; (try dsimp only at hSw); go_simp; first | done | with_reducible rfl)
          (try simp only [Act.put, List.setIfInBounds_toArray, List.set_cons_zero, List.set_cons_succ, List.getElem_toArray, List.getElem_cons_zero, List.getElem_cons_succ])
          refine wpAnyH_take (i := 8) (v := ?_) rfl (by kernel_rfl) (by kernel_rfl) (by kernel_rfl) (fun _ _ _ h => h) (Or.inl ⟨by kernel_rfl, ?_⟩) (by assumption) ?_
          rotate_left
          · (intro w hSw; (try dsimp only at hSw); go_simp; first | done | with_reducible rfl)
          (try simp only [Act.put, List.setIfInBounds_toArray, List.set_cons_zero, List.set_cons_succ, List.getElem_toArray, List.getElem_cons_zero, List.getElem_cons_succ])
          refine wpAnyH_take (i := 9) (v := ?_) rfl (by kernel_rfl) (by kernel_rfl) (by kernel_rfl) (fun _ _ _ h => h) (Or.inl ⟨by kernel_rfl, ?_⟩) (by assumption) ?_
          rotate_left
          · (intro w hSw; (try dsimp only at hSw); go_simp; first | done | with_reducible rfl)
          (try simp only [Act.put, List.setIfInBounds_toArray, List.set_cons_zero, List.set_cons_succ, List.getElem_toArray, List.getElem_cons_zero, List.getElem_cons_succ])
          refine wpAnyH_take (i := 10) (v := ?_) rfl (by kernel_rfl) (by kernel_rfl) (by kernel_rfl) (fun _ _ _ h => h) (Or.inl ⟨by kernel_rfl, ?_⟩) (by assumption) ?_
          rotate_left
          · (intro w hSw; (try dsimp only at hSw); go_simp; first | done | with_reducible rfl)
          (try simp only [Act.put, List.setIfInBounds_toArray, List.set_cons_zero, List.set_cons_succ, List.getElem_toArray, List.getElem_cons_zero, List.getElem_cons_succ])
          refine wpAnyH_take (i := 11) (v := ?_) rfl (by kernel_rfl) (by kernel_rfl) (by kernel_rfl) (fun _ _ _ h => h) (Or.inl ⟨by kernel_rfl, ?_⟩) (by assumption) ?_
          rotate_left
          · (intro w hSw; (try dsimp only at hSw); go_simp; first | done | with_reducible rfl)
          (try simp only [Act.put, List.setIfInBounds_toArray, List.set_cons_zero, List.set_cons_succ, List.getElem_toArray, List.getElem_cons_zero, List.getElem_cons_succ])
          refine wpAnyH_take (i := 12) (v := ?_) rfl (by kernel_rfl) (by kernel_rfl) (by kernel_rfl) (fun _ _ _ h => h) (Or.inl ⟨by kernel_rfl, ?_⟩) (by assumption) ?_
          rotate_left
          · (intro w hSw; (try dsimp only at hSw); go_simp; first | done | with_reducible rfl)
          (try simp only [Act.put, List.setIfInBounds_toArray, List.set_cons_zero, List.set_cons_succ, List.getElem_toArray, List.getElem_cons_zero, List.getElem_cons_succ])
          refine wpAnyH_ready (rs := [13]) (by kernel_rfl) (by simp) ?_
          refine AllReadyH.cons rfl (fun KK hKK => ?_) AllReadyH.nil
          go_simp
          refine hKK.out _ _ ?_ (fun hHeld => ?_)
          · (exact ⟨cell_new _ c1, cell_new _ c2⟩)
          clear hKK KK
          (try simp only [Act.put, List.setIfInBounds_toArray, List.set_cons_zero, List.set_cons_succ, List.getElem_toArray, List.getElem_cons_zero, List.getElem_cons_succ])
          refine wpAnyH_ready (rs := [14]) (by kernel_rfl) (by simp) ?_
          refine AllReadyH.cons rfl (fun KK hKK => ?_) AllReadyH.nil
          refine step_append_v u8.el (by rfl) (.tmp 65) (.tmp 78) rfl w1.heap.size _ (bvs (X.take i)) _ 1 1 (bvs [y]) rfl rfl (HO5.out.alloc _) rfl (src_row w5 (.int .u8 ((y.toNat : Nat) : Int)) 5) (bvs_one _) (by rw [bvs_length, HML.out]; omega) (by rw [bvs_length, HML.out]; omega) (by simp; omega) ?_
          intro v9 w9 hO9 hg9 hat9
          rw [← bvs_append, ← HY.out, ← HST.out] at hO9
          have hF9 : Frame (fun b => b < w5.heap.size ∧ Value.ownBlock (.slice Ao i co) ≠ some b) w5 w9 := Frame.trans ((Frame.refl (fun b => b < w5.heap.size ∧ Value.ownBlock (.slice Ao i co) ≠ some b) w5).drew.alloc (fun b hb => hb.1) _) (Frame.of_grown (S := fun b => b < w5.heap.size ∧ Value.ownBlock (.slice Ao i co) ≠ some b) hg9 (fun b hb => ⟨by have := hb.1; simp; omega, fun e => hb.2 e.symm⟩)) (fun b hb => hb)
          have hB9 := HB5.out.trans (hF9.toBelow (B := w1.heap.size) (fun b hb => ⟨by omega, fun e => by have := (HO5.out.lt b e).1; omega⟩))
          have hH9 : Held w9 w1.heap.size (.slice (some ⟨gv, 0, none⟩) 16 16) l nonce a (i + 1) := fun _ => ⟨gv, rfl, hgp, by
            rw [show (a + (i + 1) - 1) / 16 = q by have := HS.out; have := HQ.out; omega]
            exact (hF9.block gv ⟨HG5.out.lt, fun e => HD5.out _ e rfl⟩).trans HG5.out⟩
          have hD9 : ∀ k, v9.ownBlock = some k → Value.ownBlock (.slice (some ⟨gv, 0, none⟩) 16 16) ≠ some k := fun k hk => by
            rcases hat9 with h | h
            · exact HD5.out k (h.symm.trans hk)
            · rw [h] at hk; injection hk with hk; simp at hk; subst hk
              intro e; injection e with e; have := HG5.out.lt; change gv = _ at e; omega
          have K1 := Lib.hid (show w9.cell? (adp.add i) = some (.int .u8 (x1 : Int)) from (World.cell?_of_block (a := adp.add i) (by rw [add_block]; exact hF9.block adp.block ⟨by omega, fun e => by have := (HO5.out.lt _ e).1; omega⟩)).trans c1)
          have K2 := Lib.hid (show w9.cell? ⟨gv, o, none⟩ = some (.int .u8 (x2 : Int)) from (World.cell?_of_block (a := ⟨gv, o, none⟩) (hF9.block gv ⟨HG5.out.lt, fun e => HD5.out _ e rfl⟩)).trans c2)
          have HO9 := Lib.hid (show OwnB w9 5 w1.heap.size v9 (X.take (i + 1)) from hO9)
          have HB9 := Lib.hid hB9
          have HH9 := Lib.hid hH9
          have HD9 := Lib.hid hD9
          clear hO9 hg9 hat9 hF9 hB9 hH9 hD9
          refine hKK.out _ _ ?_ (fun hHeld => ?_)
          · (exact ⟨K1.out, K2.out⟩)
          clear hKK KK
          (try simp only [Act.put, List.setIfInBounds_toArray, List.set_cons_zero, List.set_cons_succ, List.getElem_toArray, List.getElem_cons_zero, List.getElem_cons_succ])
          refine wpAnyH_take (i := 15) (v := ?_) rfl (by kernel_rfl) (by kernel_rfl) (by kernel_rfl) (fun _ _ _ h => h) (Or.inl ⟨by kernel_rfl, ?_⟩) (by assumption) ?_
          rotate_left
          · (intro w hSw; (try dsimp only at hSw); go_simp; first | done | with_reducible rfl)
          (try simp only [Act.put, List.setIfInBounds_toArray, List.set_cons_zero, List.set_cons_succ, List.getElem_toArray, List.getElem_cons_zero, List.getElem_cons_succ])
          refine wpAnyH_done (by kernel_rfl) ?_ _
          go_wp2_with fail
          go_roundw
          case rel => exact ⟨i + 1, by omega, by go_num, HO9.out, HH9.out, HD9.out, HB9.out⟩
          case measure => simp [intOf] <;> omega
      · have a1 := A1E.out
        have t1' : ((i : Int) == 0) = false := beq_eq_false_iff_ne.2 (by omega)
        have t2' : ((wrap64 (s : Int)).tmod 16 == 0) = false := by rw [A7E.out]; exact beq_eq_false_iff_ne.2 (by omega)
        obtain ⟨gp, hpv, hgp, hrow⟩ := HH.out (by omega)
        subst hpv
        rw [show (a + i - 1) / 16 = q by have := HS.out; have := HQ.out; have := HOE.out; omega] at hrow
        have HG5 := Lib.hid hrow
        clear hnew hrow
        go_wp2_with fail
        clear a1 t1' t2'
        have hx := u8x (p.getD i 0) (at_ (padL l nonce q) o)
        have c2 : wr.cell? ⟨gp, o, none⟩ = some (bv (at_ (padL l nonce q) o)) := by
          have hl : (padL l nonce q)[o]? = some (at_ (padL l nonce q) o) := by
            have : o < (padL l nonce q).length := by rw [padL_length HK.out]; exact o16
            simp [at_, List.getD_eq_getElem?_getD, List.getElem?_eq_getElem this]
          exact HG5.out.cell (by simp [bvs, hl])
        have c1 := CP0.out
        obtain ⟨y, hy⟩ : ∃ y, p.getD i 0 ^^^ at_ (padL l nonce q) o = y := ⟨_, rfl⟩
        have HY := Lib.hid hy
        rw [hy] at hx
        rw [bv_int] at c1 c2
        generalize (p.getD i 0).toNat = x1 at *
        generalize (at_ (padL l nonce q) o).toNat = x2 at *
        have a2 := A2E.out
        have a4 := A4E.out
        clear hy
        go_wp2_with fail
        refine wp_region_held_drew (S := fun W' => W'.cell? (adp.add i) = some (.int .u8 (x1 : Int)) ∧ W'.cell? ⟨gp, o, none⟩ = some (.int .u8 (x2 : Int))) (by kernel_rfl) (⟨c1, c2⟩) (fun hHeld => ?_)
        refine wpAnyH_take (i := 0) (v := ?_) rfl (by kernel_rfl) (by kernel_rfl) (by kernel_rfl) (fun _ _ _ h => h) (Or.inl ⟨by kernel_rfl, ?_⟩) (by assumption) ?_
        rotate_left
        · (intro w hSw; (try dsimp only at hSw); go_simp; first | done | with_reducible rfl)
        (try simp only [Act.put, List.setIfInBounds_toArray, List.set_cons_zero, List.set_cons_succ, List.getElem_toArray, List.getElem_cons_zero, List.getElem_cons_succ])
        refine wpAnyH_take (i := 1) (v := ?_) rfl (by kernel_rfl) (by kernel_rfl) (by kernel_rfl) (fun _ _ _ h => h) (Or.inl ⟨by kernel_rfl, ?_⟩) (by assumption) ?_
        rotate_left
        · (intro w hSw; (try dsimp only at hSw); go_simp; first | done | with_reducible rfl)
        (try simp only [Act.put, List.setIfInBounds_toArray, List.set_cons_zero, List.set_cons_succ, List.getElem_toArray, List.getElem_cons_zero, List.getElem_cons_succ])
        refine wpAnyH_take (i := 2) (v := ?_) rfl (by kernel_rfl) (by kernel_rfl) (by kernel_rfl) (fun _ _ _ h => h) (Or.inl ⟨by kernel_rfl, ?_⟩) (by assumption) ?_
        rotate_left
        · (intro w hSw; (try dsimp only at hSw); go_simp; first | done | with_reducible rfl)
        (try simp only [Act.put, List.setIfInBounds_toArray, List.set_cons_zero, List.set_cons_succ, List.getElem_toArray, List.getElem_cons_zero, List.getElem_cons_succ])
        refine wpAnyH_take (i := 3) (v := ?_) rfl (by kernel_rfl) (by kernel_rfl) (by kernel_rfl) (fun _ _ _ h => h) (Or.inl ⟨by kernel_rfl, ?_⟩) (by assumption) ?_
        rotate_left
        · (intro w hSw; (try dsimp only at hSw); go_simp; first | done | with_reducible rfl)
        (try simp only [Act.put, List.setIfInBounds_toArray, List.set_cons_zero, List.set_cons_succ, List.getElem_toArray, List.getElem_cons_zero, List.getElem_cons_succ])
        refine wpAnyH_take (i := 4) (v := ?_) rfl (by kernel_rfl) (by kernel_rfl) (by kernel_rfl) (fun _ _ _ h => h) (Or.inl ⟨by kernel_rfl, ?_⟩) (by assumption) ?_
        rotate_left
        · (intro w hSw; (try dsimp only at hSw); go_simp; first | done | with_reducible rfl)
        (try simp only [Act.put, List.setIfInBounds_toArray, List.set_cons_zero, List.set_cons_succ, List.getElem_toArray, List.getElem_cons_zero, List.getElem_cons_succ])
        refine wpAnyH_take (i := 5) (v := ?_) rfl (by kernel_rfl) (by kernel_rfl) (by kernel_rfl) (fun _ _ _ h => h) (Or.inl ⟨by kernel_rfl, ?_⟩) (by assumption) ?_
        rotate_left
        · (intro w hSw; (try dsimp only at hSw); go_simp; first | done | with_reducible rfl)
        (try simp only [Act.put, List.setIfInBounds_toArray, List.set_cons_zero, List.set_cons_succ, List.getElem_toArray, List.getElem_cons_zero, List.getElem_cons_succ])
        refine wpAnyH_take (i := 6) (v := ?_) rfl (by kernel_rfl) (by kernel_rfl) (by kernel_rfl) (fun _ _ _ h => h) (Or.inl ⟨by kernel_rfl, ?_⟩) (by assumption) ?_
        rotate_left
        · (intro w hSw; (try dsimp only at hSw); go_simp; first | done | with_reducible rfl)
        (try simp only [Act.put, List.setIfInBounds_toArray, List.set_cons_zero, List.set_cons_succ, List.getElem_toArray, List.getElem_cons_zero, List.getElem_cons_succ])
        refine wpAnyH_take (i := 7) (v := ?_) rfl (by kernel_rfl) (by kernel_rfl) (by kernel_rfl) (fun _ _ _ h => h) (Or.inl ⟨by kernel_rfl, ?_⟩) (by assumption) ?_
        rotate_left
        · (intro w hSw; (try dsimp only at hSw); go_simp; first | done | with_reducible rfl)
        (try simp only [Act.put, List.setIfInBounds_toArray, List.set_cons_zero, List.set_cons_succ, List.getElem_toArray, List.getElem_cons_zero, List.getElem_cons_succ])
        refine wpAnyH_take (i := 8) (v := ?_) rfl (by kernel_rfl) (by kernel_rfl) (by kernel_rfl) (fun _ _ _ h => h) (Or.inl ⟨by kernel_rfl, ?_⟩) (by assumption) ?_
        rotate_left
        · (intro w hSw; (try dsimp only at hSw); go_simp; first | done | with_reducible rfl)
        (try simp only [Act.put, List.setIfInBounds_toArray, List.set_cons_zero, List.set_cons_succ, List.getElem_toArray, List.getElem_cons_zero, List.getElem_cons_succ])
        refine wpAnyH_take (i := 9) (v := ?_) rfl (by kernel_rfl) (by kernel_rfl) (by kernel_rfl) (fun _ _ _ h => h) (Or.inl ⟨by kernel_rfl, ?_⟩) (by assumption) ?_
        rotate_left
        · (intro w hSw; (try dsimp only at hSw); go_simp; first | done | with_reducible rfl)
        (try simp only [Act.put, List.setIfInBounds_toArray, List.set_cons_zero, List.set_cons_succ, List.getElem_toArray, List.getElem_cons_zero, List.getElem_cons_succ])
        refine wpAnyH_take (i := 10) (v := ?_) rfl (by kernel_rfl) (by kernel_rfl) (by kernel_rfl) (fun _ _ _ h => h) (Or.inl ⟨by kernel_rfl, ?_⟩) (by assumption) ?_
        rotate_left
        · (intro w hSw; (try dsimp only at hSw); go_simp; first | done | with_reducible rfl)
        (try simp only [Act.put, List.setIfInBounds_toArray, List.set_cons_zero, List.set_cons_succ, List.getElem_toArray, List.getElem_cons_zero, List.getElem_cons_succ])
        refine wpAnyH_take (i := 11) (v := ?_) rfl (by kernel_rfl) (by kernel_rfl) (by kernel_rfl) (fun _ _ _ h => h) (Or.inl ⟨by kernel_rfl, ?_⟩) (by assumption) ?_
        rotate_left
        · (intro w hSw; (try dsimp only at hSw); go_simp; first | done | with_reducible rfl)
        (try simp only [Act.put, List.setIfInBounds_toArray, List.set_cons_zero, List.set_cons_succ, List.getElem_toArray, List.getElem_cons_zero, List.getElem_cons_succ])
        refine wpAnyH_take (i := 12) (v := ?_) rfl (by kernel_rfl) (by kernel_rfl) (by kernel_rfl) (fun _ _ _ h => h) (Or.inl ⟨by kernel_rfl, ?_⟩) (by assumption) ?_
        rotate_left
        · (intro w hSw; (try dsimp only at hSw); go_simp; first | done | with_reducible rfl)
        (try simp only [Act.put, List.setIfInBounds_toArray, List.set_cons_zero, List.set_cons_succ, List.getElem_toArray, List.getElem_cons_zero, List.getElem_cons_succ])
        refine wpAnyH_ready (rs := [13]) (by kernel_rfl) (by simp) ?_
        refine AllReadyH.cons rfl (fun KK hKK => ?_) AllReadyH.nil
        go_simp
        refine hKK.out _ _ ?_ (fun hHeld => ?_)
        · (exact ⟨cell_new _ c1, cell_new _ c2⟩)
        clear hKK KK
        (try simp only [Act.put, List.setIfInBounds_toArray, List.set_cons_zero, List.set_cons_succ, List.getElem_toArray, List.getElem_cons_zero, List.getElem_cons_succ])
        refine wpAnyH_ready (rs := [14]) (by kernel_rfl) (by simp) ?_
        refine AllReadyH.cons rfl (fun KK hKK => ?_) AllReadyH.nil
        refine step_append_v u8.el (by rfl) (.tmp 65) (.tmp 78) rfl w1.heap.size _ (bvs (X.take i)) _ 1 1 (bvs [y]) rfl rfl (HO.out.alloc _) rfl (src_row wr (.int .u8 ((y.toNat : Nat) : Int)) 5) (bvs_one _) (by rw [bvs_length, HML.out]; omega) (by rw [bvs_length, HML.out]; omega) (by simp; omega) ?_
        intro v9 w9 hO9 hg9 hat9
        rw [← bvs_append, ← HY.out, ← HST.out] at hO9
        have hF9 : Frame (fun b => b < wr.heap.size ∧ Value.ownBlock (.slice Ao i co) ≠ some b) wr w9 := Frame.trans ((Frame.refl (fun b => b < wr.heap.size ∧ Value.ownBlock (.slice Ao i co) ≠ some b) wr).drew.alloc (fun b hb => hb.1) _) (Frame.of_grown (S := fun b => b < wr.heap.size ∧ Value.ownBlock (.slice Ao i co) ≠ some b) hg9 (fun b hb => ⟨by have := hb.1; simp; omega, fun e => hb.2 e.symm⟩)) (fun b hb => hb)
        have hB9 := HB.out.trans (hF9.toBelow (B := w1.heap.size) (fun b hb => ⟨by omega, fun e => by have := (HO.out.lt b e).1; omega⟩))
        have hH9 : Held w9 w1.heap.size (.slice (some ⟨gp, 0, none⟩) 16 16) l nonce a (i + 1) := fun _ => ⟨gp, rfl, hgp, by
          rw [show (a + (i + 1) - 1) / 16 = q by have := HS.out; have := HQ.out; omega]
          exact (hF9.block gp ⟨HG5.out.lt, fun e => HD.out _ e rfl⟩).trans HG5.out⟩
        have hD9 : ∀ k, v9.ownBlock = some k → Value.ownBlock (.slice (some ⟨gp, 0, none⟩) 16 16) ≠ some k := fun k hk => by
          rcases hat9 with h | h
          · exact HD.out k (h.symm.trans hk)
          · rw [h] at hk; injection hk with hk; simp at hk; subst hk
            intro e; injection e with e; have := HG5.out.lt; change gp = _ at e; omega
        have K1 := Lib.hid (show w9.cell? (adp.add i) = some (.int .u8 (x1 : Int)) from (World.cell?_of_block (a := adp.add i) (by rw [add_block]; exact hF9.block adp.block ⟨by omega, fun e => by have := (HO.out.lt _ e).1; omega⟩)).trans c1)
        have K2 := Lib.hid (show w9.cell? ⟨gp, o, none⟩ = some (.int .u8 (x2 : Int)) from (World.cell?_of_block (a := ⟨gp, o, none⟩) (hF9.block gp ⟨HG5.out.lt, fun e => HD.out _ e rfl⟩)).trans c2)
        have HO9 := Lib.hid (show OwnB w9 5 w1.heap.size v9 (X.take (i + 1)) from hO9)
        have HB9 := Lib.hid hB9
        have HH9 := Lib.hid hH9
        have HD9 := Lib.hid hD9
        clear hO9 hg9 hat9 hF9 hB9 hH9 hD9
        refine hKK.out _ _ ?_ (fun hHeld => ?_)
        · (exact ⟨K1.out, K2.out⟩)
        clear hKK KK
        (try simp only [Act.put, List.setIfInBounds_toArray, List.set_cons_zero, List.set_cons_succ, List.getElem_toArray, List.getElem_cons_zero, List.getElem_cons_succ])
        refine wpAnyH_take (i := 15) (v := ?_) rfl (by kernel_rfl) (by kernel_rfl) (by kernel_rfl) (fun _ _ _ h => h) (Or.inl ⟨by kernel_rfl, ?_⟩) (by assumption) ?_
        rotate_left
        · (intro w hSw; (try dsimp only at hSw); go_simp; first | done | with_reducible rfl)
        (try simp only [Act.put, List.setIfInBounds_toArray, List.set_cons_zero, List.set_cons_succ, List.getElem_toArray, List.getElem_cons_zero, List.getElem_cons_succ])
        refine wpAnyH_done (by kernel_rfl) ?_ _
        go_wp2_with fail
        go_roundw
        case rel => exact ⟨i + 1, by omega, by go_num, HO9.out, HH9.out, HD9.out, HB9.out⟩
        case measure => simp [intOf] <;> omega
    · have hie : i = pn := by omega
      subst hie
      have hO := HO.out
      rw [List.take_of_length_le (by rw [HXL.out]; exact Nat.le_refl _)] at hO
      have HOE := Lib.hid (hO.mono (base' := w.heap.size) (fun k hk => by have := (hO.lt k hk).1; omega))
      clear hO
      go_wp2_with fail
      go_ret2
      exact ⟨_, rfl, (by rw [HXE.out]; exact HOE.out), HB1.out.trans (HB.out.mono hz1)⟩
end Go.Proofs.YtcbihjcnnfohmaaGreat.Str
