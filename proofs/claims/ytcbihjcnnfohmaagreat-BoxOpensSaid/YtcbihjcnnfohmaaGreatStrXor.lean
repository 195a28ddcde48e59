/- The pad's blocks, and bytes under it: contracts of Pad and Xor. -/
import Derived.Test.YtcbihjcnnfohmaaGreatStrBlk
namespace Go.Proofs.YtcbihjcnnfohmaaGreat.Str
open Go Go.ChangeShapes Go.WideShapes Go.ChangeAt Go.RowKit Go.Proofs.YtcbihjcnnfohmaaGreat.Aes
set_option linter.unusedVariables false
set_option linter.unusedSimpArgs false

/-- the pad -/
def padL (key : Blk) (nonce b : Nat) : Blk := enc key (cntL nonce b)
theorem padL_length {key : Blk} (hk : KeyOk key) (nonce b : Nat) : (padL key nonce b).length = 16 := enc_length hk (cntL_length _ _)
/-- bytes under it -/
def xorS (key : Blk) (nonce at_0 : Nat) (p : List UInt8) : List UInt8 := (List.range p.length).map fun i => p.getD i 0 ^^^ at_ (padL key nonce ((at_0 + i) / 16)) ((at_0 + i) % 16)
theorem xorS_length (key : Blk) (nonce a : Nat) (p : List UInt8) : (xorS key nonce a p).length = p.length := by simp [xorS]
theorem xorS_take {key : Blk} {nonce a : Nat} {p : List UInt8} {i : Nat} (hi : i < p.length) : (xorS key nonce a p).take (i+1) = (xorS key nonce a p).take i ++ [p.getD i 0 ^^^ at_ (padL key nonce ((a + i) / 16)) ((a + i) % 16)] := by
  rw [List.take_succ_eq_append_getElem (by rw [xorS_length]; exact hi)]
  simp [xorS]
/-! ### Xor -/
theorem slice_from (g L c o k : Nat) (ho : o + k = L) (hk : 0 < k) (hL : L ≤ c) (w : World) : (Instr.slice 22 (.slice (some ⟨g, 0, none⟩) L c) (some (.int .i64 (o : Int))) none none).run Tryz.prog w = .ok (.slice (some ⟨g, o, none⟩) k (c - o)) w := by
  have hu : Tryz.prog.underlying 22 = some (.slice (Tryz.prog.elem 22)) := by kernel_rfl
  have hz : (sizeOf (Tryz.prog.elem 22)).run Tryz.prog w = .ok 1 w := by kernel_rfl
  rw [run_slice_l w _ _ _ _ hu .i64 (o : Int) (by omega) (by omega), hz, Result.andThen_ok, sliced]
  rw [if_neg (by omega), Option.map_some, addr_add, Int.toNat_natCast, Nat.mul_one, Nat.zero_add, show L - o = k by omega]
theorem slice_to (g o L c k : Nat) (hk : 0 < k) (hL : k ≤ c) (w : World) : (Instr.slice 22 (.slice (some ⟨g, o, none⟩) L c) none (some (.int .i64 (k : Int))) none).run Tryz.prog w = .ok (.slice (some ⟨g, o, none⟩) k c) w := by
  have hu : Tryz.prog.underlying 22 = some (.slice (Tryz.prog.elem 22)) := by kernel_rfl
  have hz : (sizeOf (Tryz.prog.elem 22)).run Tryz.prog w = .ok 1 w := by kernel_rfl
  rw [run_slice_h w _ _ _ _ hu .i64 (k : Int) (by omega) (by omega), hz, Result.andThen_ok, sliced]
  rw [if_neg (by omega), Option.map_some, addr_add, Int.toNat_natCast]
  simp
theorem own_g {w : World} {e : TypeId} {base : Nat} {v : Value} {l : List UInt8} (h : Own w e base v l) {n : Nat} (hn : l.length = n) (h0 : 0 < n) : ∃ g c, v = .slice (some ⟨g, 0, none⟩) n c ∧ n ≤ c ∧ base ≤ g ∧ g < w.heap.size := by
  subst hn
  obtain ⟨g, c, hv, h1, h2, _⟩ := h.at_ (i := 0) h0
  obtain ⟨A, c', hv', _, hc⟩ := h.form
  rw [hv] at hv'
  injection hv' with e1 e2 e3
  subst e3
  exact ⟨g, c, hv, hc, h1, h2⟩
theorem rd_some2 {w : World} {B : Nat} {A : Option Addr} {l : List UInt8} (h : Rd w B A l) (h0 : 0 < l.length) : ∃ ad, A = some ad ∧ ad.block < B ∧ ∀ k, k < l.length → w.cell? (ad.add k) = some (bv (l.getD k 0)) := by
  obtain ⟨ad, e, hb, hc⟩ := h h0
  exact ⟨ad, e, hb, fun k hk => by rw [hc k hk]; simp [List.getD_eq_getElem?_getD, hk]⟩
def lenV : Value → Nat
  | .slice _ k _ => k
  | _ => 0
theorem own_zero {w : World} {base : Nat} (hb : base ≤ w.heap.size) (n : Nat) (hn : n ≤ 1048576) : Own (w.alloc (.cells (bvs (List.replicate n 0)).toArray 5)) 5 base (.slice (some ⟨w.heap.size, 0, none⟩) 0 n) [] := by
  have h : Row (w.alloc (.cells (bvs (List.replicate n 0)).toArray 5)) 5 w.heap.size ([] ++ List.replicate n 0) := Row.new w _ _
  exact h.toOwn hb rfl (by simp) (by omega)
set_option maxRecDepth 100000 in
set_option maxHeartbeats 4000000 in
theorem xor_yes (A : Option Addr) (n c : Nat) (l : List UInt8) (A2 : Option Addr) (pn2 pc : Nat) (p : List UInt8) (nonce a : Nat) (hnc : nonce < 9223372036854775808) (ha : a ≤ 1099511627776) (w : World) (hn : l.length = n) (hr : Rd w w.heap.size A l) (hk : KeyOk l) (hp : p.length = pn2) (hp6 : pn2 ≤ 65536) (hrp : Rd w w.heap.size A2 p) :
    Calls Tryz.prog 22 #[.slice A n c, .int .i64 (nonce : Int), .int .i64 (a : Int), .slice A2 pn2 pc] w fun e w' => ∃ v, e = .returned (.tuple #[v, .int .i64 0]) ∧ Own w' 5 w.heap.size v (xorS l nonce a p) ∧ Below w.heap.size w w' := by
  have HK := Lib.hid hk
  have HN := Lib.hid hn
  have HR := Lib.hid hr
  have HNC := Lib.hid hnc
  have HAA := Lib.hid ha
  have HP := Lib.hid hp
  have HRP := Lib.hid hrp
  have b1 : decide ((65536 : Int) < (pn2 : Int)) = false := decide_eq_false (by omega)
  have b2 : decide ((1099511627776 : Int) < (a : Int)) = false := decide_eq_false (by omega)
  have a0 : (0 : Int) ≤ (a : Int) := by omega
  have b3 : decide ((a : Int) < 0) = false := decide_eq_false (by omega)
  clear hr hk hn hnc ha hp hrp
  go_enter Tryz.func22, Tryz.ntmps22
  go_wp2_with fail
  refine (blocks_yes A n c l nonce HNC.out _ w.heap.size (Nat.le_refl _) HN.out HR.out HK.out).mono ?_
  rintro e w1 ⟨g, pk, pn, B1, rfl, hst, hpk, hpn, hb1⟩
  have hz1 := hb1.size
  have HST := Lib.hid hst
  have HB1 := Lib.hid hb1
  clear hst hb1
  obtain ⟨Z, hZ⟩ : ∃ Z, List.replicate pn2 (0 : UInt8) = Z := ⟨_, rfl⟩
  have hO0 := own_zero hz1 pn2 (by omega)
  have hS0 := HST.out.frame ((Frame.refl (fun k => k < w1.heap.size) w1).alloc (fun k hk => hk) (.cells (bvs (List.replicate pn2 0)).toArray 5)) (fun k hk => (HST.out.key.lt k hk).2) HST.out.kl HST.out.nl
  have hB0 := HB1.out.alloc hz1 (.cells (bvs (List.replicate pn2 0)).toArray 5)
  rw [hZ] at hO0 hS0 hB0
  have HZ := Lib.hid hZ
  have HO0 := Lib.hid hO0
  have HS0 := Lib.hid hS0
  have HB0 := Lib.hid hB0
  have hgl : ¬ B1 w1.heap.size := fun h => by have := (HST.out.key.lt _ h).2; omega
  have hkl := HST.out.kl
  have hnl := HST.out.nl
  clear hZ hO0 hS0 hB0
  go_wp2_with (with_reducible refine at_slot 35 ?_
               refine wpList_make_u8 Go.Proofs.YtcbihjcnnfohmaaGreat.u8 rfl _ _ rfl .i64 .i64 _ _ 0 pn2 rfl rfl rfl rfl (by omega) (by omega) ?_
               rw [HZ.out])
  clear b1 b2 b3
  obtain ⟨X, hX⟩ : ∃ X, xorS l nonce a p = X := ⟨_, rfl⟩
  have HXE := Lib.hid hX
  have hXl : X.length = pn2 := by rw [← hX, xorS_length]; exact HP.out
  have HXL := Lib.hid hXl
  clear hX hXl
  go_loopw [2, 12] (fun av ov wr => ∃ (m atc : Nat) (B : Nat → Prop), m ≤ pn2 ∧ Hid (m < pn2 → atc = a + m) ∧ av = .int .i64 (atc : Int) ∧ Own wr 5 w.heap.size ov (X.take m) ∧ Strm wr w.heap.size B g pk pn l nonce ∧ (∀ k, ov.ownBlock = some k → ¬ B k ∧ k ≠ pk ∧ k ≠ pn) ∧ Below w.heap.size w wr ∧ w.heap.size ≤ wr.heap.size) (fun _ ov _ => pn2 - lenV ov)
  case atStart => exact ⟨0, a, B1, by omega, Lib.hid (fun _ => rfl), rfl, HO0.out, HS0.out, (fun k hk => by injection hk with hk; change w1.heap.size = k at hk; subst hk; exact ⟨hgl, by omega, by omega⟩), HB0.out, by simp; omega⟩
  case round =>
    obtain ⟨m, atc, B, hm, HAT, rfl, hO, hS, hD, hW, hsz⟩ := hrel
    clear HO0 HS0 HB0
    have hml : (X.take m).length = m := by rw [List.length_take, HXL.out]; omega
    obtain ⟨Ao, co, rfl, _, hco⟩ := hO.form
    rw [hml] at hO hD ⊢
    have HO := Lib.hid hO
    have HS := Lib.hid hS
    have HD := Lib.hid hD
    have HW := Lib.hid hW
    have HML := Lib.hid hml
    clear hO hS hD hW hml
    by_cases hlt : m < pn2
    · have hmi : (m : Int) < (pn2 : Int) := by omega
      have hat := HAT.out hlt
      obtain ⟨q, hq⟩ : ∃ q, atc / 16 = q := ⟨_, rfl⟩
      obtain ⟨o, ho⟩ : ∃ o, atc % 16 = o := ⟨_, rfl⟩
      have HQB := Lib.hid (show q < 9223372036854775808 by have := HAA.out; omega)
      have ho16 : o < 16 := by omega
      obtain ⟨L1, hL1⟩ : ∃ L1, o + L1 = 16 := ⟨16 - o, by omega⟩
      obtain ⟨d, hd⟩ : ∃ d, m + d = pn2 := ⟨pn2 - m, by omega⟩
      obtain ⟨k, hk⟩ : ∃ k, min L1 d = k := ⟨_, rfl⟩
      have hk1 : 0 < k := by omega
      have hkL : k ≤ L1 := by omega
      have HQ := Lib.hid hq
      have HOE := Lib.hid ho
      have HATE := Lib.hid hat
      have HL1 := Lib.hid hL1
      have HDD := Lib.hid hd
      have HKE := Lib.hid hk
      have hb41 : atc ≤ 1099511700000 := by have := HAA.out; omega
      have HQW := Lib.hid (show wrap64 ((atc : Int) / 16) = (q : Int) by rw [IntWalk.wrap64_in _ ⟨by omega, by omega⟩]; omega)
      have HOW := Lib.hid (show (atc : Int) % 16 = (o : Int) by omega)
      have HSW := Lib.hid (show wrap64 ((atc : Int) + (L1 : Int)) = ((atc + L1 : Nat) : Int) by rw [IntWalk.wrap64_in _ ⟨by omega, by omega⟩]; push_cast; rfl)
      have d1 : (pn2 : Int) - (m : Int) = (d : Int) := by omega
      clear hat hq ho hL1 hd hk hb41
      go_wp2_with fail
      rw [HQW.out]
      refine (at_any w.heap.size B g pk pn l nonce q HNC.out HQB.out _ HS.out hsz).mono ?_
      rintro e w5 ⟨v, B5, rfl, hO5, hS5, hF5, hB5, hv5⟩
      obtain ⟨E, hE⟩ : ∃ E, enc l (cntL nonce q) = E := ⟨_, rfl⟩
      have hEl : E.length = 16 := by rw [← hE]; exact padL_length HK.out nonce q
      rw [hE] at hO5
      obtain ⟨gv, cv, hcv, hve, hgv, hgvl⟩ : ∃ g c, 16 ≤ c ∧ v = .slice (some ⟨g, 0, none⟩) 16 c ∧ wr.heap.size ≤ g ∧ g < w5.heap.size := by
        obtain ⟨g', c', h1, h2, h3, h4⟩ := own_g hO5 hEl (by omega)
        exact ⟨g', c', h2, h1, h3, h4⟩
      subst hve
      have hsl1 := slice_from gv 16 cv o L1 (by have := HL1.out; omega) (by have := HL1.out; omega) hcv
      rw [← HOW.out] at hsl1
      obtain ⟨ho5, hd5⟩ := own_step HO.out (fun k hk => (HD.out k hk).1) hF5 hB5
      have hgb5 : gv ≠ pk ∧ gv ≠ pn := ⟨by have := HS.out.kl; omega, by have := HS.out.nl; omega⟩
      have hog : ∀ b, Value.ownBlock (.slice Ao m co) = some b → b ≠ gv := fun b hb => by have := (HO.out.lt b hb).2; omega
      have hW5 := HW.out.trans (off_below HS.out.key hF5 (Nat.le_refl _) hsz)
      have hsz5 := Nat.le_trans hsz hF5.size
      have hB5g : ¬ B5 gv := hv5 gv rfl
      have HO5 := Lib.hid hO5
      have HS5 := Lib.hid hS5
      have HP5 := Lib.hid ho5
      have HD5 := Lib.hid (show ∀ b, Value.ownBlock (.slice Ao m co) = some b → ¬ B5 b ∧ b ≠ pk ∧ b ≠ pn from fun b hb => ⟨hd5 b hb, (HD.out b hb).2⟩)
      have HOG := Lib.hid hog
      have HW5 := Lib.hid hW5
      have HEE := Lib.hid hE
      have HEL := Lib.hid hEl
      clear hO5 hS5 hF5 hB5 hv5 ho5 hd5 hog hW5 hE hEl HO HS HD HW
      by_cases hdl : d < L1
      · have hke : k = d := by have := HKE.out; omega
        subst hke
        have hcd : k ≤ cv - o := by have := HL1.out; omega
        go_wp2_with fail
        have hP0 : ∀ i, i < 16 → w5.cell? ⟨gv, i, none⟩ = some (bv (at_ E i)) := fun i hi => by
          have h1 := (HO5.out.at_g (i := i) (by rw [HEL.out]; exact hi)).2.2.1
          rw [h1]; simp [at_, List.getD_eq_getElem?_getD, List.getElem?_eq_getElem (show i < E.length by rw [HEL.out]; exact hi)]
        have HP0 := Lib.hid hP0
        clear hP0
        go_loopw [12, 59] (fun ov jv wi => ∃ j : Nat, j ≤ k ∧ jv = .int .i64 (j : Int) ∧ Own wi 5 w.heap.size ov (X.take (m + j)) ∧ Strm wi w.heap.size B5 g pk pn l nonce ∧ (∀ b, ov.ownBlock = some b → ¬ B5 b ∧ b ≠ pk ∧ b ≠ pn ∧ b ≠ gv) ∧ (∀ i, i < 16 → wi.cell? ⟨gv, i, none⟩ = some (bv (at_ E i))) ∧ gv < wi.heap.size ∧ Below w.heap.size w wi ∧ w.heap.size ≤ wi.heap.size) (fun _ jv _ => k - (intOf jv).toNat)
        case atStart => exact ⟨0, by omega, rfl, HP5.out, HS5.out, (fun b hb => ⟨(HD5.out b hb).1, (HD5.out b hb).2.1, (HD5.out b hb).2.2, HOG.out b hb⟩), HP0.out, hgvl, HW5.out, hsz5⟩
        case round =>
          obtain ⟨j, hj, rfl, hO, hS, hD, hP, hgl5, hW, hsz⟩ := hrel
          clear HP0 HO5 HP5 HS5 HD5 HOG HW5 hgvl hsz5
          obtain ⟨M, hM⟩ : ∃ M, m + j = M := ⟨_, rfl⟩
          rw [hM] at hO
          have hMl : (X.take M).length = M := by rw [List.length_take, HXL.out]; have := HDD.out; omega
          obtain ⟨Ai, ci, rfl, _, hci⟩ := hO.form
          rw [hMl] at hO hD ⊢
          have HO := Lib.hid hO
          have HS := Lib.hid hS
          have HD := Lib.hid hD
          have HP2 := Lib.hid hP
          have HW := Lib.hid hW
          have HM := Lib.hid hM
          have HMLE := Lib.hid hMl
          clear hO hS hD hP hW hM hMl
          by_cases hjk : j < k
          · have hMn : M < pn2 := by have := HM.out; have := HDD.out; omega
            have hMi : (M : Int) < (pn2 : Int) := by omega
            have hoj : o + j < 16 := by have := HL1.out; omega
            obtain ⟨ad, hA2, hab, hac⟩ := rd_some2 HRP.out (by rw [HP.out]; omega)
            subst hA2
            have c2 := (HW.out.cell (p := ad.add M) (by rw [add_block]; exact hab)).trans (hac M (by rw [HP.out]; exact hMn))
            have c1 := HP2.out (o + j) hoj
            have hx := u8x (at_ E (o + j)) (p.getD M 0)
            have hst : X.take (M + 1) = X.take M ++ [at_ E (o + j) ^^^ p.getD M 0] := by
              have h0 := xorS_take (key := l) (nonce := nonce) (a := a) (p := p) (i := M) (by rw [HP.out]; exact hMn)
              have e1 : (a + M) / 16 = q := by have := HQ.out; have := HOE.out; have := HATE.out; have := HM.out; omega
              have e2 : (a + M) % 16 = o + j := by have := HQ.out; have := HOE.out; have := HATE.out; have := HM.out; omega
              rw [HXE.out, e1, e2, UInt8.xor_comm] at h0
              rw [h0, ← HEE.out]; rfl
            obtain ⟨y, hy⟩ : ∃ y, at_ E (o + j) ^^^ p.getD M 0 = y := ⟨_, rfl⟩
            rw [hy] at hx hst
            have hoa := HO.out.alloc (.cells #[.int .u8 ((y.toNat : Nat) : Int)] 5)
            have hsa : w.heap.size ≤ (wr.alloc (.cells #[.int .u8 ((y.toNat : Nat) : Int)] 5)).heap.size := by simp; omega
            have hrd : Rd (wr.alloc (.cells #[.int .u8 ((y.toNat : Nat) : Int)] 5)) (wr.heap.size + 1) (some ⟨wr.heap.size, 0, none⟩) [y] := rd_lit (w := wr) 5 [y] rfl
            rw [bv_int] at c1 c2
            have HST := Lib.hid hst
            have HOA := Lib.hid hoa
            have HRD := Lib.hid hrd
            clear hst hy hoa hrd hac
            generalize (at_ E (o + j)).toNat = x1 at *
            generalize (p.getD M 0).toNat = x2 at *
            have jk : (j : Int) < (k : Int) := by omega
            go_wp2_with (with_reducible refine at_slot 72 ?_
                         refine wpList_append_u8 Go.Proofs.YtcbihjcnnfohmaaGreat.u8 rfl (.tmp 63) (.tmp 71) rfl w.heap.size _ (X.take M) _ 1 1 [y] _ rfl rfl HOA.out HRD.out rfl (by rw [HMLE.out]; omega) hsa ?_
                         intro v2 w2 hO2 hg2 hat2
                         rw [← HST.out] at hO2
                         have hF : Frame (fun b => b < wr.heap.size ∧ Value.ownBlock (.slice Ai M ci) ≠ some b) wr w2 := Frame.trans ((Frame.refl (fun b => b < wr.heap.size ∧ Value.ownBlock (.slice Ai M ci) ≠ some b) wr).alloc (fun b hb => hb.1) (.cells #[.int .u8 ((y.toNat : Nat) : Int)] 5)) (Frame.of_grown (S := fun b => b < wr.heap.size ∧ Value.ownBlock (.slice Ai M ci) ≠ some b) hg2 (fun b hb => ⟨by have := hb.1; simp; omega, fun e => hb.2 e.symm⟩)) (fun b hb => hb)
                         have hS2 := HS.out.frame hF (fun b hb => ⟨(HS.out.key.lt b hb).2, fun e => (HD.out b e).1 hb⟩) ⟨HS.out.kl, fun e => (HD.out _ e).2.1 rfl⟩ ⟨HS.out.nl, fun e => (HD.out _ e).2.2.1 rfl⟩
                         have hP2 : ∀ i, i < 16 → w2.cell? ⟨gv, i, none⟩ = some (bv (at_ E i)) := fun i hi => (World.cell?_of_block (a := ⟨gv, i, none⟩) (hF.block gv ⟨hgl5, fun e => (HD.out _ e).2.2.2 rfl⟩)).trans (HP2.out i hi)
                         have hW2 := HW.out.trans (hF.toBelow (B := w.heap.size) (fun b hb => ⟨by omega, fun e => by have := (HO.out.lt b e).1; omega⟩))
                         have hD2 : ∀ b, v2.ownBlock = some b → ¬ B5 b ∧ b ≠ pk ∧ b ≠ pn ∧ b ≠ gv := fun b hb => by
                           rcases hat2 with h | h
                           · exact HD.out b (h.symm.trans hb)
                           · rw [h] at hb; injection hb with hb; simp at hb; subst hb
                             exact ⟨fun h' => by have := (HS.out.key.lt _ h').2; omega, by have := HS.out.kl; omega, by have := HS.out.nl; omega, by omega⟩
                         have hgl6 : gv < w2.heap.size := Nat.lt_of_lt_of_le hgl5 hF.size
                         have hsz6 : w.heap.size ≤ w2.heap.size := Nat.le_trans hsz hF.size
                         have HO2 := Lib.hid hO2
                         have HS2 := Lib.hid hS2
                         have HPP2 := Lib.hid hP2
                         have HW2 := Lib.hid hW2
                         have HD2 := Lib.hid hD2
                         clear hO2 hg2 hat2 hF hS2 hP2 hW2 hD2)
            go_roundw
            case rel => exact ⟨j + 1, by omega, by go_num, (by rw [show m + (j + 1) = M + 1 by have := HM.out; omega]; exact HO2.out), HS2.out, HD2.out, HPP2.out, hgl6, HW2.out, hsz6⟩
            case measure => simp [intOf] <;> omega
          · have ejk : j = k := by omega
            have HSW2 := HSW
            have hlv : lenV (.slice Ai M ci) = M := rfl
            have hjk2 : ¬ (j : Int) < (k : Int) := by omega
            have HMK := Lib.hid (show M = m + k by have := HM.out; omega)
            subst ejk
            clear hjk2
            go_wp2_with fail
            go_roundw
            case rel => exact ⟨M, atc + L1, B5, (by have := HMK.out; have := HDD.out; omega), Lib.hid (fun h => by have := HMK.out; have := HATE.out; have := HDD.out; omega), (by rw [HSW2.out]), HO.out, HS.out, (fun b hb => ⟨(HD.out b hb).1, (HD.out b hb).2.1, (HD.out b hb).2.2.1⟩), HW.out, hsz⟩
            case measure => (have := HMK.out; show pn2 - M < pn2 - m; omega)
      · have hke : k = L1 := by have := HKE.out; omega
        subst hke
        have hcd : k ≤ cv - o := by have := HL1.out; omega
        go_wp2_with fail
        have hP0 : ∀ i, i < 16 → w5.cell? ⟨gv, i, none⟩ = some (bv (at_ E i)) := fun i hi => by
          have h1 := (HO5.out.at_g (i := i) (by rw [HEL.out]; exact hi)).2.2.1
          rw [h1]; simp [at_, List.getD_eq_getElem?_getD, List.getElem?_eq_getElem (show i < E.length by rw [HEL.out]; exact hi)]
        have HP0 := Lib.hid hP0
        clear hP0
        go_loopw [12, 59] (fun ov jv wi => ∃ j : Nat, j ≤ k ∧ jv = .int .i64 (j : Int) ∧ Own wi 5 w.heap.size ov (X.take (m + j)) ∧ Strm wi w.heap.size B5 g pk pn l nonce ∧ (∀ b, ov.ownBlock = some b → ¬ B5 b ∧ b ≠ pk ∧ b ≠ pn ∧ b ≠ gv) ∧ (∀ i, i < 16 → wi.cell? ⟨gv, i, none⟩ = some (bv (at_ E i))) ∧ gv < wi.heap.size ∧ Below w.heap.size w wi ∧ w.heap.size ≤ wi.heap.size) (fun _ jv _ => k - (intOf jv).toNat)
        case atStart => exact ⟨0, by omega, rfl, HP5.out, HS5.out, (fun b hb => ⟨(HD5.out b hb).1, (HD5.out b hb).2.1, (HD5.out b hb).2.2, HOG.out b hb⟩), HP0.out, hgvl, HW5.out, hsz5⟩
        case round =>
          obtain ⟨j, hj, rfl, hO, hS, hD, hP, hgl5, hW, hsz⟩ := hrel
          clear HP0 HO5 HP5 HS5 HD5 HOG HW5 hgvl hsz5
          obtain ⟨M, hM⟩ : ∃ M, m + j = M := ⟨_, rfl⟩
          rw [hM] at hO
          have hMl : (X.take M).length = M := by rw [List.length_take, HXL.out]; have := HDD.out; omega
          obtain ⟨Ai, ci, rfl, _, hci⟩ := hO.form
          rw [hMl] at hO hD ⊢
          have HO := Lib.hid hO
          have HS := Lib.hid hS
          have HD := Lib.hid hD
          have HP2 := Lib.hid hP
          have HW := Lib.hid hW
          have HM := Lib.hid hM
          have HMLE := Lib.hid hMl
          clear hO hS hD hP hW hM hMl
          by_cases hjk : j < k
          · have hMn : M < pn2 := by have := HM.out; have := HDD.out; omega
            have hMi : (M : Int) < (pn2 : Int) := by omega
            have hoj : o + j < 16 := by have := HL1.out; omega
            obtain ⟨ad, hA2, hab, hac⟩ := rd_some2 HRP.out (by rw [HP.out]; omega)
            subst hA2
            have c2 := (HW.out.cell (p := ad.add M) (by rw [add_block]; exact hab)).trans (hac M (by rw [HP.out]; exact hMn))
            have c1 := HP2.out (o + j) hoj
            have hx := u8x (at_ E (o + j)) (p.getD M 0)
            have hst : X.take (M + 1) = X.take M ++ [at_ E (o + j) ^^^ p.getD M 0] := by
              have h0 := xorS_take (key := l) (nonce := nonce) (a := a) (p := p) (i := M) (by rw [HP.out]; exact hMn)
              have e1 : (a + M) / 16 = q := by have := HQ.out; have := HOE.out; have := HATE.out; have := HM.out; omega
              have e2 : (a + M) % 16 = o + j := by have := HQ.out; have := HOE.out; have := HATE.out; have := HM.out; omega
              rw [HXE.out, e1, e2, UInt8.xor_comm] at h0
              rw [h0, ← HEE.out]; rfl
            obtain ⟨y, hy⟩ : ∃ y, at_ E (o + j) ^^^ p.getD M 0 = y := ⟨_, rfl⟩
            rw [hy] at hx hst
            have hoa := HO.out.alloc (.cells #[.int .u8 ((y.toNat : Nat) : Int)] 5)
            have hsa : w.heap.size ≤ (wr.alloc (.cells #[.int .u8 ((y.toNat : Nat) : Int)] 5)).heap.size := by simp; omega
            have hrd : Rd (wr.alloc (.cells #[.int .u8 ((y.toNat : Nat) : Int)] 5)) (wr.heap.size + 1) (some ⟨wr.heap.size, 0, none⟩) [y] := rd_lit (w := wr) 5 [y] rfl
            rw [bv_int] at c1 c2
            have HST := Lib.hid hst
            have HOA := Lib.hid hoa
            have HRD := Lib.hid hrd
            clear hst hy hoa hrd hac
            generalize (at_ E (o + j)).toNat = x1 at *
            generalize (p.getD M 0).toNat = x2 at *
            have jk : (j : Int) < (k : Int) := by omega
            go_wp2_with (with_reducible refine at_slot 72 ?_
                         refine wpList_append_u8 Go.Proofs.YtcbihjcnnfohmaaGreat.u8 rfl (.tmp 63) (.tmp 71) rfl w.heap.size _ (X.take M) _ 1 1 [y] _ rfl rfl HOA.out HRD.out rfl (by rw [HMLE.out]; omega) hsa ?_
                         intro v2 w2 hO2 hg2 hat2
                         rw [← HST.out] at hO2
                         have hF : Frame (fun b => b < wr.heap.size ∧ Value.ownBlock (.slice Ai M ci) ≠ some b) wr w2 := Frame.trans ((Frame.refl (fun b => b < wr.heap.size ∧ Value.ownBlock (.slice Ai M ci) ≠ some b) wr).alloc (fun b hb => hb.1) (.cells #[.int .u8 ((y.toNat : Nat) : Int)] 5)) (Frame.of_grown (S := fun b => b < wr.heap.size ∧ Value.ownBlock (.slice Ai M ci) ≠ some b) hg2 (fun b hb => ⟨by have := hb.1; simp; omega, fun e => hb.2 e.symm⟩)) (fun b hb => hb)
                         have hS2 := HS.out.frame hF (fun b hb => ⟨(HS.out.key.lt b hb).2, fun e => (HD.out b e).1 hb⟩) ⟨HS.out.kl, fun e => (HD.out _ e).2.1 rfl⟩ ⟨HS.out.nl, fun e => (HD.out _ e).2.2.1 rfl⟩
                         have hP2 : ∀ i, i < 16 → w2.cell? ⟨gv, i, none⟩ = some (bv (at_ E i)) := fun i hi => (World.cell?_of_block (a := ⟨gv, i, none⟩) (hF.block gv ⟨hgl5, fun e => (HD.out _ e).2.2.2 rfl⟩)).trans (HP2.out i hi)
                         have hW2 := HW.out.trans (hF.toBelow (B := w.heap.size) (fun b hb => ⟨by omega, fun e => by have := (HO.out.lt b e).1; omega⟩))
                         have hD2 : ∀ b, v2.ownBlock = some b → ¬ B5 b ∧ b ≠ pk ∧ b ≠ pn ∧ b ≠ gv := fun b hb => by
                           rcases hat2 with h | h
                           · exact HD.out b (h.symm.trans hb)
                           · rw [h] at hb; injection hb with hb; simp at hb; subst hb
                             exact ⟨fun h' => by have := (HS.out.key.lt _ h').2; omega, by have := HS.out.kl; omega, by have := HS.out.nl; omega, by omega⟩
                         have hgl6 : gv < w2.heap.size := Nat.lt_of_lt_of_le hgl5 hF.size
                         have hsz6 : w.heap.size ≤ w2.heap.size := Nat.le_trans hsz hF.size
                         have HO2 := Lib.hid hO2
                         have HS2 := Lib.hid hS2
                         have HPP2 := Lib.hid hP2
                         have HW2 := Lib.hid hW2
                         have HD2 := Lib.hid hD2
                         clear hO2 hg2 hat2 hF hS2 hP2 hW2 hD2)
            go_roundw
            case rel => exact ⟨j + 1, by omega, by go_num, (by rw [show m + (j + 1) = M + 1 by have := HM.out; omega]; exact HO2.out), HS2.out, HD2.out, HPP2.out, hgl6, HW2.out, hsz6⟩
            case measure => simp [intOf] <;> omega
          · have ejk : j = k := by omega
            have HSW2 := HSW
            have hlv : lenV (.slice Ai M ci) = M := rfl
            have hjk2 : ¬ (j : Int) < (k : Int) := by omega
            have HMK := Lib.hid (show M = m + k by have := HM.out; omega)
            subst ejk
            clear hjk2
            go_wp2_with fail
            go_roundw
            case rel => exact ⟨M, atc + j, B5, (by have := HMK.out; have := HDD.out; omega), Lib.hid (fun h => by have := HMK.out; have := HATE.out; have := HDD.out; omega), (by rw [HSW2.out]), HO.out, HS.out, (fun b hb => ⟨(HD.out b hb).1, (HD.out b hb).2.1, (HD.out b hb).2.2.1⟩), HW.out, hsz⟩
            case measure => (have := HMK.out; show pn2 - M < pn2 - m; omega)
    · have e1 : m = pn2 := by omega
      subst e1
      have hx := HO.out
      rw [List.take_of_length_le (by rw [HXL.out]; exact Nat.le_refl _)] at hx
      have HX2 := Lib.hid hx
      clear hx HO
      go_wp2_with fail
      go_ret2
      exact ⟨_, rfl, (by rw [HXE.out]; exact HX2.out), HW.out⟩
end Go.Proofs.YtcbihjcnnfohmaaGreat.Str
