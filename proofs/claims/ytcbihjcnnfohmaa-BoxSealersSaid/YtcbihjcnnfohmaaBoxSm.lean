/- The small case; what is short enough: contracts. -/
import Derived.Test.YtcbihjcnnfohmaaBoxO
import Derived.Test.YtcbihjcnnfohmaaBoxVal
import Derived.Test.YtcbihjcnnfohmaaStrSmall
namespace Go.Proofs.Ytcbihjcnnfohmaa.Box
open Go Go.ChangeShapes Go.WideShapes Go.ChangeAt Go.RowKit Go.Proofs.Ytcbihjcnnfohmaa.Aes Go.Proofs.Ytcbihjcnnfohmaa.Str Go.Proofs.Ytcbihjcnnfohmaa.Mac
set_option linter.unusedVariables false
set_option linter.unusedSimpArgs false
theorem lit1 (W : World) (x : UInt8) : ∃ Wm : World, (convert 22 22 (.slice (some ⟨W.heap.size, 0, none⟩) 1 1)).run Try.prog (W.alloc (.cells #[.int .u8 ((x.toNat : Nat) : Int)] 5)) = .ok (.slice (some ⟨W.heap.size, 0, none⟩) 1 1) Wm ∧ Rd Wm Wm.heap.size (some ⟨W.heap.size, 0, none⟩) [x] ∧ Below W.heap.size W Wm ∧ Wm.heap.size = W.heap.size + 1 := by
  refine ⟨W.alloc (.cells (bvs [x]).toArray 5 (1, 2)), ?_, ?_, (Below.refl _ _).alloc (Nat.le_refl _) _, alloc_size _ _⟩
  · exact Lib.run_convert_bytes_const (P := Try.prog) W 22 5 #[.int .u8 ((x.toNat : Nat) : Int)] 1 1 Try.underlying22 Try.underlying5
  · rw [alloc_size]; exact marked_rd W _ [x] _
theorem lit3 (W : World) (x y z : UInt8) : ∃ Wm : World, (convert 22 22 (.slice (some ⟨W.heap.size, 0, none⟩) 3 3)).run Try.prog (W.alloc (.cells #[.int .u8 ((x.toNat : Nat) : Int), .int .u8 ((y.toNat : Nat) : Int), .int .u8 ((z.toNat : Nat) : Int)] 5)) = .ok (.slice (some ⟨W.heap.size, 0, none⟩) 3 3) Wm ∧ Rd Wm Wm.heap.size (some ⟨W.heap.size, 0, none⟩) [x, y, z] ∧ Below W.heap.size W Wm ∧ Wm.heap.size = W.heap.size + 1 := by
  refine ⟨W.alloc (.cells (bvs [x, y, z]).toArray 5 (3, 4)), ?_, ?_, (Below.refl _ _).alloc (Nat.le_refl _) _, alloc_size _ _⟩
  · exact Lib.run_convert_bytes_const (P := Try.prog) W 22 5 #[.int .u8 ((x.toNat : Nat) : Int), .int .u8 ((y.toNat : Nat) : Int), .int .u8 ((z.toNat : Nat) : Int)] 3 3 Try.underlying22 Try.underlying5
  · rw [alloc_size]; exact marked_rd W _ [x, y, z] _
theorem cnt5 : cntL 5 0 = [0, 0, 0, 0, 0, 0, 0, 5, 0, 0, 0, 0, 0, 0, 0, 0] := by decide
theorem padK_K0 : padK K0 = List.replicate 64 0 := by
  unfold padK kk
  rw [if_neg (by decide)]
  rfl
theorem xk_rep (c : UInt8) : xk c (List.replicate 64 0) = List.replicate 64 c := by
  unfold xk
  rw [List.map_replicate, UInt8.zero_xor]
set_option maxRecDepth 100000 in
theorem sealed_c : xorS K0 5 0 abc = [237, 111, 2] := by
  have hv : (padL K0 5 0).take 3 = [140, 13, 97] := by
    unfold padL
    rw [cnt5, show K0 = List.replicate 16 0 from rfl]
    exact val5
  have hl := padL_length K0_ok 5 0
  have e : ∀ i, i < 3 → (xorS K0 5 0 abc)[i]? = some (abc.getD i 0 ^^^ at_ (padL K0 5 0) i) := fun i hi => by
    have := xorS_get (key := K0) (nonce := 5) (a := 0) (p := abc) (i := i) hi
    rw [Nat.zero_add, Nat.div_eq_of_lt (by omega), Nat.mod_eq_of_lt (by omega)] at this
    exact this
  have hx : (xorS K0 5 0 abc).length = 3 := by rw [xorS_length]; rfl
  generalize xorS K0 5 0 abc = X at *
  generalize padL K0 5 0 = P at *
  rw [three hl] at hv
  injection hv with h0 hv
  injection hv with h1 hv
  injection hv with h2 _
  match X, hx, e with
  | [a, b, c], _, e =>
    have e0 := e 0 (by omega)
    have e1 := e 1 (by omega)
    have e2 := e 2 (by omega)
    rw [h0] at e0
    rw [h1] at e1
    rw [h2] at e2
    simp only [List.getElem?_cons_zero, List.getElem?_cons_succ, Option.some.injEq] at e0 e1 e2
    rw [e0, e1, e2]
    rfl
theorem be5 : be8 5 = [0, 0, 0, 0, 0, 0, 0, 5] := by decide
theorem be1 : be8 1 = [0, 0, 0, 0, 0, 0, 0, 1] := by decide
theorem tag_hm (a : UInt8) (b : List UInt8) : tagL K0 [a] b = (hm [a] b).take 16 := by
  unfold tagL macL hm
  rw [padK_K0, xk_rep, xk_rep, show ([a] : List UInt8).length = 1 from rfl, be1]
theorem small_ne : tagL K0 [121] (bodyL (sealL K0 K0 5 [120] abc)) ≠ endL (sealL K0 K0 5 [120] abc) := by
  rw [(body_seal _ _ _ _ _).1, (body_seal _ _ _ _ _).2, sealed_c, be5, tag_hm, tag_hm]
  exact hm_ne
set_option maxRecDepth 100000 in
set_option maxHeartbeats 2000000 in
theorem small_any (w : World) : Calls Try.prog 33 #[] w fun e w' => e = .returned (.bool true) ∧ Below w.heap.size w w' := by
  have hb0 : Below w.heap.size w (w.alloc (.cells (bvs K0).toArray 5)) := (Below.refl _ _).alloc (Nat.le_refl _) _
  have hk0 : Rd (w.alloc (.cells (bvs K0).toArray 5)) (w.heap.size + 1) (some ⟨w.heap.size, 0, none⟩) K0 := by
    have := (Row.new w 5 K0).rd
    simpa using this
  have HKN := Lib.hid (show (List.replicate 16 (0 : UInt8)) = K0 from rfl)
  obtain ⟨W0, hW0⟩ : ∃ W0 : World, w.alloc (.cells (bvs K0).toArray 5) = W0 := ⟨_, rfl⟩
  have HW0 := Lib.hid hW0
  have hzw : w.heap.size + 1 = W0.heap.size := by rw [← hW0, alloc_size]
  rw [hW0] at hb0 hk0
  obtain ⟨Wx, kx, hrx, hbx, hzx⟩ := lit1 W0 120
  have kx' : (convert 22 22 (.slice (some ⟨W0.heap.size, 0, none⟩) 1 1)).run Try.prog (W0.alloc (.cells #[.int .u8 120] 5)) = .ok (.slice (some ⟨W0.heap.size, 0, none⟩) 1 1) Wx := kx
  obtain ⟨Wm, km, hrm, hbm, hzm⟩ := lit3 Wx 97 98 99
  have km' : (convert 22 22 (.slice (some ⟨Wx.heap.size, 0, none⟩) 3 3)).run Try.prog (Wx.alloc (.cells #[.int .u8 97, .int .u8 98, .int .u8 99] 5)) = .ok (.slice (some ⟨Wx.heap.size, 0, none⟩) 3 3) Wm := km
  have HB0 := Lib.hid (hb0.trans ((hbx.mono (by omega)).trans (hbm.mono (by omega : w.heap.size ≤ Wx.heap.size))))
  have HK := Lib.hid (((hk0.below (hbx.mono (by omega))).below (hbm.mono (by omega))).more (by omega : w.heap.size + 1 ≤ Wm.heap.size))
  have HX := Lib.hid ((hrx.below hbm).more (by omega : Wx.heap.size ≤ Wm.heap.size))
  have HM := Lib.hid hrm
  have HZ := Lib.hid (show w.heap.size ≤ Wm.heap.size by omega)
  clear hb0 hk0 hW0 hzw kx hrx hbx hzx km hrm hbm hzm
  go_enter Try.func33, Try.ntmps33
  go_wp2_with (with_reducible refine at_slot 10 ?_
               refine wpList_make_u8 Go.Proofs.Ytcbihjcnnfohmaa.u8 rfl _ _ rfl .i64 .i64 _ _ 16 16 rfl rfl rfl rfl (by omega) (by omega) ?_
               rw [HKN.out, HW0.out])
  refine (seal_yes (some ⟨w.heap.size, 0, none⟩) 16 16 K0 (some ⟨w.heap.size, 0, none⟩) 16 16 K0 5 (some ⟨W0.heap.size, 0, none⟩) 1 1 [120] (some ⟨Wx.heap.size, 0, none⟩) 3 3 abc Wm rfl HK.out K0_ok rfl (by omega) HK.out (by omega) rfl (by omega) (Nat.le_refl _) (by omega) HX.out rfl (by omega) HM.out).mono ?_
  rintro e w1 ⟨g1, m1, rfl, hm1, hO1, hb1⟩
  obtain rfl : m1 = 27 := hm1
  obtain ⟨A1, c1, hv1, hr1, _⟩ := hO1.form
  injection hv1 with hv1 q1 q2
  subst hv1
  clear q1 q2
  have HR1 := Lib.hid hr1
  have HB1 := Lib.hid (HB0.out.trans (hb1.mono HZ.out))
  have HK1 := Lib.hid (rd_now HK.out hb1)
  have hz1 := hb1.size
  obtain ⟨Wy, ky, hry, hby, hzy⟩ := lit1 w1 120
  have ky' : (convert 22 22 (.slice (some ⟨w1.heap.size, 0, none⟩) 1 1)).run Try.prog (w1.alloc (.cells #[.int .u8 120] 5)) = .ok (.slice (some ⟨w1.heap.size, 0, none⟩) 1 1) Wy := ky
  have HBY := Lib.hid (HB1.out.trans (hby.mono HB1.out.size))
  have HKY := Lib.hid (rd_now HK1.out hby)
  have HRY := Lib.hid (rd_now HR1.out hby)
  have HY := Lib.hid hry
  clear hO1 hr1 hb1 ky hry hby hzy kx' km'
  go_wp2_with fail
  refine (open_yes (some ⟨w.heap.size, 0, none⟩) 16 16 K0 (some ⟨w.heap.size, 0, none⟩) 16 16 K0 (some ⟨w1.heap.size, 0, none⟩) 1 1 [120] (some ⟨g1, 0, none⟩) 27 27 (sealL K0 K0 5 [120] abc) Wy rfl HKY.out K0_ok rfl (by omega) HKY.out rfl (by omega) (Nat.le_refl _) (by omega) HY.out (sealL_len _ _ _ _ _) (by omega) (by omega) (Nat.le_refl _) (by omega) HRY.out (opens_seal (by omega))).mono ?_
  rw [(num_seal (enc := K0) (tag := K0) (nonce := 5) (about := [120]) (p := abc) (by omega)).1, (num_seal (enc := K0) (tag := K0) (nonce := 5) (about := [120]) (p := abc) (by omega)).2, xorS_twice]
  rintro e w2 ⟨v2, rfl, hO2, hb2⟩
  obtain ⟨A2, c2, hv2, _, hcc2⟩ := hO2.form
  rw [show abc.length = 3 from rfl] at hv2 hcc2
  subst hv2
  have HO2 := Lib.hid hO2
  have HB2 := Lib.hid (HBY.out.trans (hb2.mono HBY.out.size))
  have HK2 := Lib.hid (rd_now HKY.out hb2)
  have HR2 := Lib.hid (rd_now HRY.out hb2)
  obtain ⟨Wz, kz, hrz, hbz, hzz⟩ := lit1 w2 121
  have kz' : (convert 22 22 (.slice (some ⟨w2.heap.size, 0, none⟩) 1 1)).run Try.prog (w2.alloc (.cells #[.int .u8 121] 5)) = .ok (.slice (some ⟨w2.heap.size, 0, none⟩) 1 1) Wz := kz
  have HBZ := Lib.hid (HB2.out.trans (hbz.mono HB2.out.size))
  have HKZ := Lib.hid (rd_now HK2.out hbz)
  have HRZ := Lib.hid (rd_now HR2.out hbz)
  have HOZ := Lib.hid (HO2.out.below hbz)
  have HZ2 := Lib.hid hrz
  clear hO2 hb2 kz hrz hbz hzz ky'
  rw [show (((5 : Nat) : Int)) = 5 from rfl]
  go_wp2_with fail
  refine (open_tag (some ⟨w.heap.size, 0, none⟩) 16 16 K0 (some ⟨w.heap.size, 0, none⟩) 16 16 K0 (some ⟨w2.heap.size, 0, none⟩) 1 1 [121] (some ⟨g1, 0, none⟩) 27 27 (sealL K0 K0 5 [120] abc) Wz rfl HKZ.out K0_ok rfl (by omega) HKZ.out rfl (by omega) (Nat.le_refl _) (by omega) HZ2.out (sealL_len _ _ _ _ _) (by omega) (by omega) (Nat.le_refl _) (by omega) HRZ.out small_ne).mono ?_
  rintro e w3 ⟨rfl, hb3⟩
  have HB3 := Lib.hid (HBZ.out.trans (hb3.mono HBZ.out.size))
  have s2 := own_str (HOZ.out.below hb3)
  have s2' : (convert 22 9 (.slice A2 3 c2)).run Try.prog w3 = .ok (.string { data := #[97, 98, 99] }) w3 := s2
  have hsz := size_any 3 (by omega) (by omega)
  have HSZ := Lib.hid hsz
  clear hb3 s2 kz' hsz
  go_wp2_with (go_at_call 37
               refine (HSZ.out _).mono ?_
               rintro e w' ⟨rfl, rfl⟩
               rw [show sizeI 3 = 27 from rfl])
  go_ret
  exact ⟨rfl, HB3.out⟩
theorem fits_any (b n c : Nat) (ps : List Part) (w : World) (hn : ps.length = n) (hnm : n ≤ 1048576) (hcell : ∀ j (hj : j < ps.length), w.cell? ⟨b, j, none⟩ = some ps[j].val) (r : Bool) (hr : r = decide (∀ p ∈ ps, p.n ≤ 1024)) :
    Calls Try.prog 34 #[.slice (some ⟨b, 0, none⟩) n c] w fun e w' => e = .returned (.bool r) ∧ w = w' := by
  have HN := Lib.hid hn
  have HC := Lib.hid hcell
  have HR := Lib.hid hr
  clear hn hcell hr
  go_enter Try.func34, Try.ntmps34
  go_wp2_with fail
  go_loop [3] (fun iv => ∃ i : Nat, i ≤ n ∧ iv = .int .i64 (i : Int) ∧ ∀ j (hj : j < ps.length), j < i → ps[j].n ≤ 1024) (fun iv => 2000000 - (intOf iv).toNat)
  case atStart => exact ⟨0, by omega, rfl, fun j hj h => by omega⟩
  case round =>
    obtain ⟨i, hi, rfl, ha⟩ := hrel
    have HA := Lib.hid ha
    clear ha
    by_cases hlt : i < n
    · have hip : i < ps.length := by rw [HN.out]; exact hlt
      have x0 := HC.out i hip
      have hii : (i : Int) < (n : Int) := by omega
      by_cases hbig : 1024 < ps[i].n
      · have hrf : r = false := by
          rw [HR.out]
          exact decide_eq_false (fun h => by have := h ps[i] (List.getElem_mem hip); omega)
        have HRF := Lib.hid hrf
        clear hrf
        generalize ps[i] = p at *
        obtain ⟨pA, pn, pc, pl⟩ := p
        simp only [Part.val] at x0 hbig
        have d1 : decide ((1024 : Int) < (pn : Int)) = true := decide_eq_true (by omega)
        clear hbig
        go_wp2_with fail
        go_ret
        exact ⟨by rw [HRF.out]; rfl, rfl⟩
      · have HA2 := Lib.hid (show ∀ j (hj : j < ps.length), j < i + 1 → ps[j].n ≤ 1024 from fun j hj h => by
          rcases Nat.lt_or_ge j i with h1 | h1
          · exact HA.out j hj h1
          · obtain rfl : j = i := by omega
            omega)
        generalize ps[i] = p at *
        obtain ⟨pA, pn, pc, pl⟩ := p
        simp only [Part.val] at x0 hbig
        have d1 : decide ((1024 : Int) < (pn : Int)) = false := decide_eq_false (by omega)
        clear hbig
        go_wp2_with fail
        go_round
        case rel => exact ⟨i + 1, by omega, by go_num, HA2.out⟩
        case measure => simp [intOf] <;> omega
    · have hin : i = n := by omega
      subst hin
      have hrt : r = true := by
        rw [HR.out]
        refine decide_eq_true (fun p hp => ?_)
        obtain ⟨j, hj, rfl⟩ := List.getElem_of_mem hp
        exact HA.out j hj (by rw [← HN.out]; exact hj)
      have HRT := Lib.hid hrt
      clear hrt
      go_wp2_with fail
      go_ret
      exact ⟨by rw [HRT.out]; rfl, rfl⟩
theorem lits_cell {w : World} (T : TypeId) (ps : List Part) : ∀ j (hj : j < ps.length), (w.alloc (.cells (ps.map Part.val).toArray T)).cell? ⟨w.heap.size, j, none⟩ = some ps[j].val := fun j hj => by
  rw [cell_of_row _ _ j _ T (0, 0) (heap_alloc_new w _)]
  simp [hj]
end Go.Proofs.Ytcbihjcnnfohmaa.Box
