/- The document's map of all bytes, along the powers of 3: contract. -/
import Derived.Test.YtcbihjcnnfohmaaAesRefB
namespace Go.Proofs.Ytcbihjcnnfohmaa.Aes
open Go Go.ChangeShapes Go.WideShapes Go.ChangeAt Go.RowKit Go.Proofs.Ytcbihjcnnfohmaa.Fld
set_option linter.unusedVariables false
set_option linter.unusedSimpArgs false
def tab8 (k : Nat) : List UInt8 := (tab k).1.map UInt8.ofNat
theorem tab8_length (k : Nat) : (tab8 k).length = 256 := by unfold tab8; rw [List.length_map, (tab_size k).1]
theorem tab8_succ (k : Nat) : tab8 (k+1) = (tab8 k).set (tab k).2.1 (UInt8.ofNat (refaff (tab k).2.2)) := by
  unfold tab8; rw [tab, List.map_set]
theorem refaff_lt (i : Nat) (h : i < 256) : refaff i < 256 := by rw [refaff_eq i h]; exact aff_lt i h
theorem lftc (i n : Nat) (hi : i < 256) (hn : n < 8) (w : World) : Calls Try.prog 66 #[.int .u8 (i : Int), .int .i64 (n : Int)] w fun e w' => e = .returned (.int .u8 ((lft n i 8 : Nat) : Int)) ∧ w = w' :=
  (left_any (i : Int) (n : Int) (by omega) (by omega) (by omega) (by omega) w).mono (fun _ _ h => ⟨by rw [h.1]; simp only [Int.toNat_natCast], h.2⟩)
theorem mulc (a b : Nat) (ha : a < 256) (hb : b < 256) (w : World) : Calls Try.prog 67 #[.int .u8 (a : Int), .int .u8 (b : Int)] w fun e w' => e = .returned (.int .u8 ((gm a b : Nat) : Int)) ∧ w = w' :=
  (refmul_any (a : Int) (b : Int) (by omega) (by omega) (by omega) (by omega) w).mono (fun _ _ h => ⟨by rw [h.1]; simp only [Int.toNat_natCast], h.2⟩)
set_option maxRecDepth 100000 in
set_option maxHeartbeats 2000000 in
theorem boxes_any (w : World) :
    Calls Try.prog 43 #[] w fun e w' => e = .returned (.slice (some ⟨w.heap.size, 0, none⟩) 256 256) ∧ RowV w' 5 w.heap.size (bvs sbs) ∧ Below w.heap.size w w' := by
  go_enter Try.func43, Try.ntmps43
  obtain ⟨Z, hZ⟩ : ∃ Z, List.replicate 256 (0 : UInt8) = Z := ⟨_, rfl⟩
  have hZl : Z.length = 256 := by rw [← hZ]; exact List.length_replicate
  have hgz : RowV (w.alloc (.cells (bvs Z).toArray 5)) 5 w.heap.size (bvs Z) := heap_alloc_new w _
  obtain ⟨z0, hz0⟩ := at256 hZl (show 0 < 256 by omega)
  have c00 := hgz.cell (i := 0) (v := bv z0) (by unfold bvs; rw [List.getElem?_map, hz0]; rfl)
  have f00 := hgz.frozen 0
  have hg0 : RowV (w.alloc (.cells ((bvs Z).set 0 (.int .u8 99)).toArray 5)) 5 w.heap.size (bvs (tab8 0)) := by
    have : bvs (tab8 0) = (bvs Z).set 0 (.int .u8 99) := by rw [show tab8 0 = Z.set 0 99 by rw [← hZ]; rfl, ← bvs_set]; rfl
    rw [this]; exact heap_alloc_new w _
  have hw0 : Below w.heap.size w (w.alloc (.cells ((bvs Z).set 0 (.int .u8 99)).toArray 5)) := (Below.refl _ _).alloc (Nat.le_refl _) _
  have HG0 := Lib.hid hg0
  have HW0 := Lib.hid hw0
  have HZ := Lib.hid hZ
  rw [bv_int] at c00
  generalize z0.toNat = y0 at *
  clear hg0 hw0 hgz hz0 hZl hZ
  go_wp2_with (with_reducible refine at_slot 5 ?_
               refine wpList_make_u8 Go.Proofs.Ytcbihjcnnfohmaa.u8 rfl _ _ rfl .i64 .i64 _ _ 256 256 rfl rfl rfl rfl (by omega) (by omega) ?_
               rw [HZ.out])
  clear c00 f00
  go_loopw [2, 3, 4] (fun xv iv k wr => ∃ (t x i : Nat), (tab t).2.1 = x ∧ (tab t).2.2 = i ∧ t ≤ 255 ∧ k = .int .i64 (t : Int) ∧ xv = .int .u8 (x : Int) ∧ iv = .int .u8 (i : Int) ∧ RowV wr 5 w.heap.size (bvs (tab8 t)) ∧ Below w.heap.size w wr) (fun _ _ k _ => 255 - (intOf k).toNat)
  case atStart => exact ⟨0, 1, 1, rfl, rfl, by omega, rfl, rfl, rfl, HG0.out, HW0.out⟩
  case round =>
    obtain ⟨t, x, i, hxt, hit, ht, rfl, rfl, rfl, hgr, hwr⟩ := hrel
    clear HG0 HW0
    by_cases hlt : t < 255
    · have hx : x < 256 := by rw [← hxt]; exact (tab_size t).2.1
      have hi : i < 256 := by rw [← hit]; exact (tab_size t).2.2
      have l1 := lft_lt 1 i 8
      have l2 := lft_lt 2 i 8
      have l3 := lft_lt 3 i 8
      have l4 := lft_lt 4 i 8
      have x1 := u8_xor_nat _ _ hi l1
      have x2 := u8_xor_nat _ _ (xor_lt hi l1) l2
      have x3 := u8_xor_nat _ _ (xor_lt (xor_lt hi l1) l2) l3
      have x4 := u8_xor_nat _ _ (xor_lt (xor_lt (xor_lt hi l1) l2) l3) l4
      have x5 : bits BinOp.xor IntKind.u8 ((i ^^^ lft 1 i 8 ^^^ lft 2 i 8 ^^^ lft 3 i 8 ^^^ lft 4 i 8 : Nat) : Int) 99 = ((i ^^^ lft 1 i 8 ^^^ lft 2 i 8 ^^^ lft 3 i 8 ^^^ lft 4 i 8 ^^^ 99 : Nat) : Int) := u8_xor_nat _ 99 (xor_lt (xor_lt (xor_lt (xor_lt hi l1) l2) l3) l4) (by omega)
      have hra := refaff_lt i hi
      obtain ⟨ra, hre⟩ : ∃ ra, refaff i = ra := ⟨_, rfl⟩
      rw [show i ^^^ lft 1 i 8 ^^^ lft 2 i 8 ^^^ lft 3 i 8 ^^^ lft 4 i 8 ^^^ 99 = ra from hre] at x5
      rw [hre] at hra
      obtain ⟨z0, hz0⟩ := at256 (tab8_length t) hx
      have c0 := hgr.cell (i := x) (v := bv z0) (by unfold bvs; rw [List.getElem?_map, hz0]; rfl)
      have f0 := hgr.frozen x
      have hset := hgr.set x (bv (UInt8.ofNat ra))
      rw [bvs_set, show (tab8 t).set x (UInt8.ofNat ra) = tab8 (t+1) by rw [tab8_succ, hxt, hit, hre]] at hset
      rw [bv_int, nat8 hra] at hset
      rw [bv_int] at c0
      have h1 := fun w => lftc i 1 hi (by omega) w
      have h2 := fun w => lftc i 2 hi (by omega) w
      have h3 := fun w => lftc i 3 hi (by omega) w
      have h4 := fun w => lftc i 4 hi (by omega) w
      have m3 := fun w => mulc x 3 hx (by omega) w
      have m246 := fun w => mulc i 246 hi (by omega) w
      have hxn : (tab (t+1)).2.1 = gm x 3 := by rw [← hxt]; rfl
      have hin : (tab (t+1)).2.2 = gm i 246 := by rw [← hit]; rfl
      have x256 : (x : Int) < 256 := by omega
      have HSET := Lib.hid hset
      have HWS := Lib.hid (below_setCell_ hwr (p := ⟨w.heap.size, x, none⟩) (Nat.le_refl _) (.int .u8 (ra : Int)))
      have H1 := Lib.hid h1
      have H2 := Lib.hid h2
      have H3 := Lib.hid h3
      have H4 := Lib.hid h4
      have M3 := Lib.hid m3
      have M246 := Lib.hid m246
      have HXN := Lib.hid hxn
      have HIN := Lib.hid hin
      clear hset hgr hwr hz0 h1 h2 h3 h4 m3 m246 hxn hin hxt hit hre l1 l2 l3 l4
      generalize i ^^^ lft 1 i 8 ^^^ lft 2 i 8 ^^^ lft 3 i 8 ^^^ lft 4 i 8 = y4 at *
      generalize i ^^^ lft 1 i 8 ^^^ lft 2 i 8 ^^^ lft 3 i 8 = y3 at *
      generalize i ^^^ lft 1 i 8 ^^^ lft 2 i 8 = y2 at *
      generalize i ^^^ lft 1 i 8 = y1 at *
      generalize lft 1 i 8 = k1 at *
      generalize lft 2 i 8 = k2 at *
      generalize lft 3 i 8 = k3 at *
      generalize lft 4 i 8 = k4 at *
      generalize gm x 3 = nx at *
      generalize gm i 246 = ni at *
      generalize z0.toNat = o at *
      go_wp2_with fail
      refine (H1.out _).mono ?_
      rintro e w1 ⟨rfl, rfl⟩
      go_wp2_with fail
      refine (H2.out _).mono ?_
      rintro e w1 ⟨rfl, rfl⟩
      go_wp2_with fail
      refine (H3.out _).mono ?_
      rintro e w1 ⟨rfl, rfl⟩
      go_wp2_with fail
      refine (H4.out _).mono ?_
      rintro e w1 ⟨rfl, rfl⟩
      go_wp2_with fail
      refine (M3.out _).mono ?_
      rintro e w1 ⟨rfl, rfl⟩
      go_wp2_with fail
      refine (M246.out _).mono ?_
      rintro e w1 ⟨rfl, rfl⟩
      go_wp2_with fail
      go_roundw
      case rel => exact ⟨t + 1, nx, ni, HXN.out, HIN.out, by omega, by go_num, rfl, rfl, HSET.out, HWS.out⟩
      case measure => simp [intOf]; omega
    · have e16 : t = 255 := by omega
      subst e16
      rw [show tab8 255 = sbs from tab_all] at hgr
      have HG := Lib.hid hgr
      have HW := Lib.hid hwr
      clear hgr hwr hxt hit
      go_wp2_with fail
      go_ret
      exact ⟨rfl, HG.out, HW.out⟩
end Go.Proofs.Ytcbihjcnnfohmaa.Aes
