/- The document's mixing, and its byte maps: contracts. -/
import Derived.Test.YtcbihjcnnfohmaaAesRefA
import Derived.BigQuiet
namespace Go.Proofs.Ytcbihjcnnfohmaa.Aes
open Go Go.ChangeShapes Go.WideShapes Go.ChangeAt Go.RowKit Go.Proofs.Ytcbihjcnnfohmaa.Fld
set_option linter.unusedVariables false
set_option linter.unusedSimpArgs false

def acc (F : Nat → Nat) (s : Blk) (i : Nat) : Nat → UInt8
  | 0 => 0
  | k+1 => acc F s i k ^^^ tm (F k) (at_ s (i / 4 * 4 + (i + k) % 4))
def mixF (F : Nat → Nat) (s : Blk) : Blk := (List.range 16).map fun i => acc F s i 4
theorem mixF_length (F s) : (mixF F s).length = 16 := by simp [mixF]
theorem mixF_at {F : Nat → Nat} {s : Blk} {i : Nat} (hi : i < 16) : at_ (mixF F s) i = acc F s i 4 := by
  have : (mixF F s)[i]? = some (acc F s i 4) := by
    unfold mixF; rw [List.getElem?_map, List.getElem?_range hi]; rfl
  show (mixF F s).getD i 0 = _
  rw [List.getD_eq_getElem?_getD, this]; rfl
theorem self_at (i : Nat) : i / 4 * 4 + (i + 0) % 4 = i := by omega
theorem mixF_mix {F : Nat → Nat} (h0 : F 0 = 2) (h1 : F 1 = 3) (h2 : F 2 = 1) (h3 : F 3 = 1) (s : Blk) : mixF F s = mixL s := by
  unfold mixF mixL colL
  apply List.map_congr_left
  intro i _
  rw [← m_ref]
  show (((0 ^^^ tm (F 0) (at_ s (i / 4 * 4 + (i + 0) % 4))) ^^^ tm (F 1) (at_ s (i / 4 * 4 + (i + 1) % 4))) ^^^ tm (F 2) (at_ s (i / 4 * 4 + (i + 2) % 4))) ^^^ tm (F 3) (at_ s (i / 4 * 4 + (i + 3) % 4)) = _
  rw [h0, h1, h2, h3, self_at, UInt8.zero_xor]; ac_rfl
theorem mixF_unmix {F : Nat → Nat} (h0 : F 0 = 14) (h1 : F 1 = 11) (h2 : F 2 = 13) (h3 : F 3 = 9) (s : Blk) : mixF F s = unmixL s := by
  unfold mixF unmixL colL
  apply List.map_congr_left
  intro i _
  show (((0 ^^^ tm (F 0) (at_ s (i / 4 * 4 + (i + 0) % 4))) ^^^ tm (F 1) (at_ s (i / 4 * 4 + (i + 1) % 4))) ^^^ tm (F 2) (at_ s (i / 4 * 4 + (i + 2) % 4))) ^^^ tm (F 3) (at_ s (i / 4 * 4 + (i + 3) % 4)) = m3 _ _ _ _
  unfold m3
  rw [h0, h1, h2, h3, self_at, UInt8.zero_xor]; ac_rfl
theorem mix_idx {c q r p k : Nat} (hq : q = 4 * c) (hp : p = q + r) (hc : c < 4) (hr : r < 4) (hk : k < 4) : ∃ u v j : Nat, j = p / 4 * 4 + (p + k) % 4 ∧ j < 16 ∧ Hid (IntKind.i64.wrap (4 * (c : Int)) = (q : Int) ∧ IntKind.i64.wrap ((r : Int) + (k : Int)) = (u : Int) ∧ ((u : Int).tmod 4 = (v : Int)) ∧ IntKind.i64.wrap ((q : Int) + (v : Int)) = (j : Int)) := by
  refine ⟨r + k, (r + k) % 4, q + (r + k) % 4, by omega, by omega, Lib.hid ⟨?_, ?_, ?_, ?_⟩⟩
  · rw [IntWalk.i64_in _ (by omega)]; omega
  · rw [IntWalk.i64_in _ (by omega)]; push_cast; rfl
  · rw [Int.tmod_eq_emod_of_nonneg (by omega)]; push_cast; rfl
  · rw [IntWalk.i64_in _ (by omega)]; push_cast; rfl
set_option maxRecDepth 100000 in
set_option maxHeartbeats 2000000 in
theorem refmix_any (A1 : Option Addr) (ad2 : Addr) (c1 c2 : Nat) (F : Nat → Nat) (hF : ∀ k, k < 4 → F k < 16) (s : Blk) (hs : s.length = 16) (w : World) (hr1 : Rd w w.heap.size A1 s) (hb2 : ad2.block < w.heap.size) (hc2 : ∀ k, k < 4 → w.cell? (ad2.add k) = some (.int .i64 (F k : Int))) :
    Calls Try.prog 55 #[.slice A1 16 c1, .slice (some ad2) 4 c2] w fun e w' => e = .returned (.slice (some ⟨w.heap.size, 0, none⟩) 16 16) ∧ RowV w' 5 w.heap.size (bvs (mixF F s)) ∧ Below w.heap.size w w' := by
  have hll := mixF_length F s
  obtain ⟨ad1, rfl, hb1, hc1⟩ := rd_some hr1 (by omega)
  have H1 := Lib.hid hc1
  have H2 := Lib.hid hc2
  have HF := Lib.hid hF
  clear hr1 hc1 hc2 hF
  go_enter Try.func55, Try.ntmps55
  go_wp2_with (with_reducible refine at_slot 10 ?_
               refine wpList_make_u8 Go.Proofs.Ytcbihjcnnfohmaa.u8 rfl _ _ rfl .i64 .i64 _ _ 16 16 rfl rfl rfl rfl (by omega) (by omega) ?_)
  have hg0 : RowV (w.alloc (.cells (bvs (List.replicate 16 0)).toArray 5)) 5 w.heap.size (bvs (upto 0 (mixF F s) Z16)) := heap_alloc_new w _
  have hw0 : Below w.heap.size w (w.alloc (.cells (bvs (List.replicate 16 0)).toArray 5)) := (Below.refl _ _).alloc (Nat.le_refl _) _
  go_loopw [6] (fun i wr => ∃ c q : Nat, q = 4 * c ∧ c ≤ 4 ∧ i = .int .i64 (c : Int) ∧ RowV wr 5 w.heap.size (bvs (upto q (mixF F s) Z16)) ∧ Below w.heap.size w wr) (fun i _ => 4 - (intOf i).toNat)
  case atStart => exact ⟨0, 0, rfl, by omega, rfl, hg0, hw0⟩
  case round =>
    obtain ⟨c, q, hq, hc4, rfl, hgr, hwr⟩ := hrel
    clear hg0 hw0
    have HG := Lib.hid hgr
    have HW := Lib.hid hwr
    have HQ := Lib.hid hq
    clear hgr hwr
    by_cases hlt : c < 4
    · clear hq
      have hlti : (c : Int) < 4 := by omega
      go_wp2_with fail
      obtain ⟨wo, hwo⟩ : ∃ wo : World, wo = wr := ⟨_, rfl⟩
      subst hwo
      go_loopw [7] (fun i wi => ∃ r p : Nat, p = q + r ∧ r ≤ 4 ∧ i = .int .i64 (r : Int) ∧ RowV wi 5 w.heap.size (bvs (upto p (mixF F s) Z16)) ∧ Below w.heap.size w wi) (fun i _ => 4 - (intOf i).toNat)
      case atStart => exact ⟨0, q, rfl, by omega, rfl, HG.out, HW.out⟩
      case round =>
        obtain ⟨r, p, hp, hr4, rfl, hgr, hwr⟩ := hrel
        clear HG HW
        have HG := Lib.hid hgr
        have HW := Lib.hid hwr
        have HP := Lib.hid hp
        clear hgr hwr
        by_cases hltr : r < 4
        · have hp16 : p < 16 := by have := HQ.out; omega
          have hq12 : q ≤ 12 := by have := HQ.out; omega
          have hltri : (r : Int) < 4 := by omega
          clear hp
          go_wp2_with fail
          obtain ⟨wo2, hwo2⟩ : ∃ wo2 : World, wo2 = wr := ⟨_, rfl⟩
          subst hwo2
          go_loopw [8, 9] (fun x i wi => ∃ k : Nat, k ≤ 4 ∧ i = .int .i64 (k : Int) ∧ x = .int .u8 ((acc F s p k).toNat : Int) ∧ RowV wi 5 w.heap.size (bvs (upto p (mixF F s) Z16)) ∧ Below w.heap.size w wi) (fun _ i _ => 4 - (intOf i).toNat)
          case atStart => exact ⟨0, by omega, rfl, rfl, HG.out, HW.out⟩
          case round =>
            obtain ⟨k, hk4, rfl, rfl, hgr, hwr⟩ := hrel
            clear HG HW
            by_cases hltk : k < 4
            · obtain ⟨u, v, j, hj, hj16, HE⟩ := mix_idx HQ.out HP.out hlt hltr hltk
              have c1' := (hwr.cell (p := ad1.add j) (by rw [add_block]; exact hb1)).trans (H1.out j (by omega))
              change wr.cell? (ad1.add j) = some (bv (at_ s j)) at c1'
              have c2' := (hwr.cell (p := ad2.add k) (by rw [add_block]; exact hb2)).trans (H2.out k hltk)
              have htm : ∀ w : World, Calls Try.prog 74 #[.int .i64 (F k : Int), .int .u8 ((at_ s j).toNat : Int)] w fun e w' => e = .returned (.int .u8 ((tm (F k) (at_ s j)).toNat : Int)) ∧ w' = w := fun w => (times_any (F k) (HF.out k hltk) (at_ s j) w).mono (fun _ _ h => ⟨h.1, h.2.symm⟩)
              have hx := u8x (acc F s p k) (tm (F k) (at_ s j))
              rw [show acc F s p k ^^^ tm (F k) (at_ s j) = acc F s p (k+1) by rw [acc, hj]] at hx
              rw [bv_int] at c1'
              have HTM := Lib.hid htm
              have HG := Lib.hid hgr
              have HW := Lib.hid hwr
              have j16 : (j : Int) < 16 := by omega
              have k4 : (k : Int) < 4 := by omega
              clear htm hgr hwr hj
              obtain ⟨z1, hz1⟩ : ∃ z1, (acc F s p (k+1)).toNat = z1 := ⟨_, rfl⟩
              rw [hz1] at hx
              have HZ1 := Lib.hid hz1
              clear hz1
              generalize (acc F s p k).toNat = z0 at *
              generalize (tm (F k) (at_ s j)).toNat = z2 at *
              generalize (at_ s j).toNat = z3 at *
              generalize F k = f at *
              obtain ⟨e1, e2, e3, e4⟩ := HE.out
              go_wp2_with fail
              go_quiet ((with_reducible exact Calls.quiet_of_same (HTM.out _)))
              clear e1 e2 e3 e4 hx c1' c2'
              go_wp2_with fail
              go_roundw
              case rel => exact ⟨k + 1, by omega, by go_num, by rw [HZ1.out], HG.out, HW.out.trans (below_drewN _ _ _)⟩
              case measure => simp [intOf]; omega
            · have e4 : k = 4 := by omega
              subst e4
              have c0 := hgr.cell (upto_get hll Z16_len hp16)
              have f0 := hgr.frozen p
              have hset := hgr.set p (bv (at_ (mixF F s) p))
              rw [upto_set hll Z16_len hp16, mixF_at hp16] at hset
              rw [bv_int] at c0 hset
              have HSET := Lib.hid hset
              have HWS := Lib.hid (below_setCell_ hwr (p := ⟨w.heap.size, p, none⟩) (Nat.le_refl _) (.int .u8 ((acc F s p 4).toNat : Int)))
              have p16 : (p : Int) < 16 := by omega
              have s1 : 4 * (c : Int) = (q : Int) := by have := HQ.out; omega
              have s2 : (q : Int) + (r : Int) = (p : Int) := by have := HP.out; omega
              clear hset hgr hwr
              generalize (acc F s p 4).toNat = z at *
              generalize (at_ Z16 p).toNat = o at *
              go_wp2_with fail
              clear s1 s2
              go_roundw
              case rel => exact ⟨r + 1, p + 1, (by have := HP.out; omega), by omega, by go_num, HSET.out, HWS.out⟩
              case measure => simp [intOf] <;> omega
        · have e4 : r = 4 := by omega
          subst e4
          clear hp
          go_wp2_with fail
          go_roundw
          case rel => exact ⟨c + 1, p, (by have := HP.out; have := HQ.out; omega), by omega, by go_num, HG.out, HW.out⟩
          case measure => simp [intOf] <;> omega
    · have e4 : c = 4 := by omega
      have e16 : q = 16 := by omega
      subst e4
      subst e16
      have hg := HG.out
      rw [upto_all hll Z16_len] at hg
      have HG2 := Lib.hid hg
      clear hg hq HG
      go_wp2_with fail
      go_ret
      exact ⟨rfl, HG2.out, HW.out⟩

/-! ### the byte maps -/
def Z256 : List UInt8 := List.replicate 256 0
theorem Z256_len : Z256.length = 256 := List.length_replicate
theorem rowv_own {w : World} {g : Nat} {l : List UInt8} (h : RowV w 5 g (bvs l)) (hl : l.length ≤ 4096) : Own w 5 g (.slice (some ⟨g, 0, none⟩) l.length l.length) l := by
  have h' : Row w 5 g (l ++ []) := by rw [List.append_nil]; exact h
  exact h'.toOwn (Nat.le_refl _) rfl (by simp) (by omega)
set_option maxRecDepth 100000 in
set_option maxHeartbeats 1000000 in
theorem back_any (A1 : Option Addr) (c1 : Nat) (w : World) (hr1 : Rd w w.heap.size A1 sbs) :
    Calls Try.prog 45 #[.slice A1 256 c1] w fun e w' => e = .returned (.slice (some ⟨w.heap.size, 0, none⟩) 256 256) ∧ RowV w' 5 w.heap.size (bvs uss) ∧ Below w.heap.size w w' := by
  obtain ⟨ad1, rfl, hb1, hc1⟩ := rd_some hr1 (by rw [sbs_length]; omega)
  have H1 := Lib.hid hc1
  clear hr1 hc1
  go_enter Try.func45, Try.ntmps45
  obtain ⟨Z, hZ⟩ : ∃ Z, List.replicate 256 (0 : UInt8) = Z := ⟨_, rfl⟩
  go_wp2_with (with_reducible refine at_slot 5 ?_
               refine wpList_make_u8 Go.Proofs.Ytcbihjcnnfohmaa.u8 rfl _ _ rfl .i64 .i64 _ _ 256 256 rfl rfl rfl rfl (by omega) (by omega) ?_
               rw [hZ])
  have hg0 : RowV (w.alloc (.cells (bvs Z).toArray 5)) 5 w.heap.size (bvs (ux 0)) := by
    have : ux 0 = Z := hZ
    rw [this]; exact heap_alloc_new w _
  have hw0 : Below w.heap.size w (w.alloc (.cells (bvs Z).toArray 5)) := (Below.refl _ _).alloc (Nat.le_refl _) _
  go_loopw [4] (fun i wr => ∃ t : Nat, t ≤ 256 ∧ i = .int .i64 (t : Int) ∧ RowV wr 5 w.heap.size (bvs (ux t)) ∧ Below w.heap.size w wr) (fun i _ => 256 - (intOf i).toNat)
  case atStart => exact ⟨0, by omega, rfl, hg0, hw0⟩
  case round =>
    obtain ⟨t, ht, rfl, hgr, hwr⟩ := hrel
    clear hg0 hw0
    by_cases hlt : t < 256
    · have hbl := box_lt t hlt
      have c1 := (hwr.cell (p := ad1.add t) (by rw [add_block]; exact hb1)).trans (H1.out t (by rw [sbs_length]; exact hlt))
      rw [show sbs.getD t 0 = UInt8.ofNat (box t) by unfold sbs; simp [List.getD_eq_getElem?_getD, hlt]] at c1
      obtain ⟨x, hx⟩ := at256 (ux_length t) hbl
      have c0 := hgr.cell (i := box t) (v := bv x) (by unfold bvs; rw [List.getElem?_map, hx]; rfl)
      have f0 := hgr.frozen (box t)
      have hset := hgr.set (box t) (bv (UInt8.ofNat t))
      rw [bvs_set, show (ux t).set (box t) (UInt8.ofNat t) = ux (t+1) from rfl] at hset
      rw [bv_int, nat8 hbl] at c1
      rw [bv_int, nat8 hlt] at hset
      rw [bv_int] at c0
      have tw : IntKind.u8.wrap (t : Int) = (t : Int) := IntWalk.u8_in _ (by omega)
      have hq : ((box t : Nat) : Int) < 256 := by omega
      have t256 : (t : Int) < 256 := by omega
      have HSET := Lib.hid hset
      have HWS := Lib.hid (below_setCell_ hwr (p := ⟨w.heap.size, box t, none⟩) (Nat.le_refl _) (.int .u8 (t : Int)))
      clear hset hgr hwr hx
      generalize box t = q at *
      generalize x.toNat = y at *
      go_wp2_with fail
      go_roundw
      case rel => exact ⟨t + 1, by omega, by go_num, HSET.out, HWS.out⟩
      case measure => simp [intOf]; omega
    · have e16 : t = 256 := by omega
      subst e16
      rw [ux_all] at hgr
      have HG := Lib.hid hgr
      have HW := Lib.hid hwr
      clear hgr hwr
      go_wp2_with fail
      go_ret
      exact ⟨rfl, HG.out, HW.out⟩
end Go.Proofs.Ytcbihjcnnfohmaa.Aes
