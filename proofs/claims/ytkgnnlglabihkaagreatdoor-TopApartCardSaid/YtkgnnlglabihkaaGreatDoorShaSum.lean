/- The digest so far: what Sum answers. -/
import Derived.Test.YtkgnnlglabihkaaGreatDoorShaWrite
import Derived.Deep.RegionHeld3
namespace Go.Proofs.YtkgnnlglabihkaaGreatDoor.Sha
open Go Go.ChangeShapes Go.WideShapes Go.ChangeAt Go.RowKit
set_option linter.unusedVariables false
set_option linter.unusedSimpArgs false

theorem be8_eight (n : Nat) : be8 n = [UInt8.ofNat (n / 72057594037927936), UInt8.ofNat (n / 281474976710656), UInt8.ofNat (n / 1099511627776), UInt8.ofNat (n / 4294967296), UInt8.ofNat (n / 16777216), UInt8.ofNat (n / 65536), UInt8.ofNat (n / 256), UInt8.ofNat n] := by
  unfold be8 be4
  have key : ∀ a b : Nat, a % 256 = b % 256 → UInt8.ofNat a = UInt8.ofNat b := by
    intro a b h
    apply UInt8.toNat_inj.1
    rw [UInt8.toNat_ofNat', UInt8.toNat_ofNat']
    exact h
  simp only [List.cons_append, List.nil_append, List.cons.injEq, and_true]
  refine ⟨key _ _ ?_, key _ _ ?_, key _ _ ?_, trivial, key _ _ ?_, key _ _ ?_, key _ _ ?_, key _ _ ?_⟩ <;> omega
theorem bv_ofNat (n : Nat) : bv (UInt8.ofNat n) = .int .u8 (((n % 256 : Nat) : Int)) := by simp [bv]
theorem byte_cell (m : Nat) (E : Int) (h : ((m % 256 : Nat) : Int) = E) : (bvs [UInt8.ofNat m]).toArray = #[.int .u8 E] := by
  simp only [bvs, List.map_cons, List.map_nil, bv_ofNat, h]
theorem be4_cells (n : Nat) (h : n < 4294967296) : (bvs (be4 n)).toArray = #[.int .u8 ((n : Int) / 16777216), .int .u8 ((n : Int) / 65536 % 256), .int .u8 ((n : Int) / 256 % 256), .int .u8 ((n : Int) % 256)] := by
  simp only [bvs, be4, List.map_cons, List.map_nil, bv_ofNat]
  rw [show ((n / 16777216 % 256 : Nat) : Int) = (n : Int) / 16777216 by omega, show ((n / 65536 % 256 : Nat) : Int) = (n : Int) / 65536 % 256 by omega, show ((n / 256 % 256 : Nat) : Int) = (n : Int) / 256 % 256 by omega, show ((n % 256 : Nat) : Int) = (n : Int) % 256 by omega]
theorem own_rds {w : World} {e : TypeId} {base n c : Nat} {A : Option Addr} {l : List UInt8} (h : Own w e base (.slice A n c) l) : RdS w (fun k => base ≤ k ∧ k < w.heap.size) A l := fun h0 => by
  obtain ⟨g, c', hv, hb, hg, _⟩ := h.at_ (i := 0) h0
  injection hv with hv1 hv2 hv3
  subst hv1
  refine ⟨_, rfl, ⟨hb, hg⟩, fun j hj => ?_⟩
  obtain ⟨g', c'', hv', _, _, hc, _⟩ := h.at_ (i := j) hj
  injection hv' with hv1 _ _
  injection hv1 with hv1
  injection hv1 with hv1
  subst hv1
  rw [add_zero_block]
  exact hc
theorem own_len {w : World} {e : TypeId} {base n c : Nat} {A : Option Addr} {l : List UInt8} (h : Own w e base (.slice A n c) l) : l.length = n ∧ n ≤ c ∧ c ≤ 9223372036854775807 := by
  obtain ⟨A', c', hv, h1, h2, _⟩ := h.b.len
  injection hv with hv1 hv2 hv3
  subst hv2 hv3
  rw [bvs_length] at *
  exact ⟨rfl, h1, h2⟩
theorem pad_zero (n : Nat) (h : 0 < n) : (List.replicate n (0 : UInt8)).set 0 128 = 128 :: List.replicate (n - 1) 0 := by
  obtain ⟨m, rfl⟩ : ∃ m, n = m + 1 := ⟨n - 1, by omega⟩
  rfl
theorem padded_len (l : List UInt8) : (padded l).length % 64 = 0 := by
  unfold padded noughts be8 be4
  simp only [List.length_append, List.length_cons, List.length_replicate, List.length_nil]
  omega

set_option maxRecDepth 100000 in
set_option maxHeartbeats 4000000 in
theorem hsum_any (g base : Nat) (rv : Value) (L : List UInt8) (w : World) (hH : Hst w base g rv L (L.length / 64) L.length) (hsz : L.length ≤ 35184372088832) :
    Calls Tryz.prog 72 #[.pointer (some ⟨g, 0, none⟩)] w fun e w' => ∃ v, e = .returned v ∧ Own w' 5 w.heap.size v (sha L) ∧ Below w.heap.size w w' := by
  have h8 := blocks_eight (L.length / 64) hw_eight L
  obtain ⟨a0, a1, a2, a3, a4, a5, a6, a7, e8, l0, l1, l2, l3, l4, l5, l6, l7⟩ := h8.parts
  obtain ⟨A1, c1, rfl, hRd, hnc⟩ := hH.own.form
  have hrow := hH.row
  rw [e8] at hrow
  have d0 : w.cell? ⟨g, 0, none⟩ = some (.int .u32 (a0 : Int)) := hrow.cell rfl
  have d1 : w.cell? ⟨g, 1, none⟩ = some (.int .u32 (a1 : Int)) := hrow.cell rfl
  have d2 : w.cell? ⟨g, 2, none⟩ = some (.int .u32 (a2 : Int)) := hrow.cell rfl
  have d3 : w.cell? ⟨g, 3, none⟩ = some (.int .u32 (a3 : Int)) := hrow.cell rfl
  have d4 : w.cell? ⟨g, 4, none⟩ = some (.int .u32 (a4 : Int)) := hrow.cell rfl
  have d5 : w.cell? ⟨g, 5, none⟩ = some (.int .u32 (a5 : Int)) := hrow.cell rfl
  have d6 : w.cell? ⟨g, 6, none⟩ = some (.int .u32 (a6 : Int)) := hrow.cell rfl
  have d7 : w.cell? ⟨g, 7, none⟩ = some (.int .u32 (a7 : Int)) := hrow.cell rfl
  have d8 := hH.rest
  have d9 := hH.count
  generalize hRe : L.drop (64 * (L.length / 64)) = R at *
  have hRl : R.length = L.length % 64 := by rw [← hRe, List.length_drop]; omega
  have hgl := hH.row.lt
  have hgne : ¬ w.heap.size = g := by omega
  have hgne' : ¬ g = w.heap.size := by omega
  have HRD := Lib.hid (fun W (hb : Below w.heap.size w W) => (hRd.below hb).more hb.size)
  have HRE := Lib.hid hRe
  have HE8 := Lib.hid e8
  have HH := Lib.hid hH
  have HRW := Lib.hid hrow
  have HRL := Lib.hid hRl
  clear hRe e8 hH hrow hRl hRd
  go_enter Tryz.func72, Tryz.ntmps72
  go_wp2_with fail
  go_region_held3 (fun w' => w'.cell? ⟨g, 0, none⟩ = some (.int .u32 (a0 : Int)) ∧ w'.cell? ⟨g, 1, none⟩ = some (.int .u32 (a1 : Int)) ∧ w'.cell? ⟨g, 2, none⟩ = some (.int .u32 (a2 : Int)) ∧ w'.cell? ⟨g, 3, none⟩ = some (.int .u32 (a3 : Int)) ∧
      w'.cell? ⟨g, 4, none⟩ = some (.int .u32 (a4 : Int)) ∧ w'.cell? ⟨g, 5, none⟩ = some (.int .u32 (a5 : Int)) ∧ w'.cell? ⟨g, 6, none⟩ = some (.int .u32 (a6 : Int)) ∧ w'.cell? ⟨g, 7, none⟩ = some (.int .u32 (a7 : Int)) ∧ w'.cell? ⟨g, 8, none⟩ = some (.slice A1 R.length c1)) (first | go_keep)
    (first
      | (go_at_call 88
         refine (sclone_any A1 R.length c1 R w.drew w.heap.size (Nat.le_refl _) rfl (by have := HRL.out; omega) (HRD.out _ (Below.refl _ _).drew)).mono ?_
         rintro e w7 ⟨v7, rfl, hO7, hb7⟩
         obtain ⟨A7, c7, rfl, _, _⟩ := hO7.form
         have hbw : Below w.heap.size w w7 := (Below.refl _ _).drew.trans (hb7.mono (by simp))
         have hz7 := hbw.size
         obtain ⟨hcs, hfs⟩ := bcell hbw)
      | (go_at_call 88
         refine (sclone_any A1 R.length c1 R (w.alloc (.cells #[.int .u32 0, .int .u32 0, .int .u32 0, .int .u32 0, .int .u32 0, .int .u32 0, .int .u32 0, .int .u32 0, .slice none 0 0, .int .i64 0] 156)).drew (w.heap.size + 1) (by simp) rfl (by have := HRL.out; omega) ((HRD.out _ ((Below.refl _ _).alloc (Nat.le_refl _) _).drew).more (by simp))).mono ?_
         rintro e w7 ⟨v7, rfl, hO7, hb7⟩
         obtain ⟨A7, c7, rfl, _, _⟩ := hO7.form
         have hbw : Below w.heap.size w w7 := (((Below.refl _ _).alloc (Nat.le_refl _) _).drew).trans (hb7.mono (by simp))
         have hrow7 : RowV w7 156 w.heap.size [.int .u32 0, .int .u32 0, .int .u32 0, .int .u32 0, .int .u32 0, .int .u32 0, .int .u32 0, .int .u32 0, .slice none 0 0, .int .i64 0] := RowV.below (B := w.heap.size + 1) (w := (w.alloc (.cells #[.int .u32 0, .int .u32 0, .int .u32 0, .int .u32 0, .int .u32 0, .int .u32 0, .int .u32 0, .int .u32 0, .slice none 0 0, .int .i64 0] 156)).drew) (heap_alloc_new w _) (hb7.mono (by simp)) (Nat.lt_succ_self _)
         have hz7 := hbw.size
         have z0 : w7.cell? ⟨w.heap.size, 0, none⟩ = some (.int .u32 0) := hrow7.cell rfl
         have y0 := hrow7.frozen 0
         have z1 : w7.cell? ⟨w.heap.size, 1, none⟩ = some (.int .u32 0) := hrow7.cell rfl
         have y1 := hrow7.frozen 1
         have z2 : w7.cell? ⟨w.heap.size, 2, none⟩ = some (.int .u32 0) := hrow7.cell rfl
         have y2 := hrow7.frozen 2
         have z3 : w7.cell? ⟨w.heap.size, 3, none⟩ = some (.int .u32 0) := hrow7.cell rfl
         have y3 := hrow7.frozen 3
         have z4 : w7.cell? ⟨w.heap.size, 4, none⟩ = some (.int .u32 0) := hrow7.cell rfl
         have y4 := hrow7.frozen 4
         have z5 : w7.cell? ⟨w.heap.size, 5, none⟩ = some (.int .u32 0) := hrow7.cell rfl
         have y5 := hrow7.frozen 5
         have z6 : w7.cell? ⟨w.heap.size, 6, none⟩ = some (.int .u32 0) := hrow7.cell rfl
         have y6 := hrow7.frozen 6
         have z7 : w7.cell? ⟨w.heap.size, 7, none⟩ = some (.int .u32 0) := hrow7.cell rfl
         have y7 := hrow7.frozen 7
         have z8 : w7.cell? ⟨w.heap.size, 8, none⟩ = some (.slice none 0 0) := hrow7.cell rfl
         have y8 := hrow7.frozen 8
         have z9 : w7.cell? ⟨w.heap.size, 9, none⟩ = some (.int .i64 0) := hrow7.cell rfl
         have y9 := hrow7.frozen 9
         obtain ⟨hcs, hfs⟩ := bcell hbw))
  · have hE : Hst (w7.alloc (.cells #[.int .u32 (a0 : Int), .int .u32 (a1 : Int), .int .u32 (a2 : Int), .int .u32 (a3 : Int), .int .u32 (a4 : Int), .int .u32 (a5 : Int), .int .u32 (a6 : Int), .int .u32 (a7 : Int), .slice A7 R.length c7, .int .i64 0] 156)) w.heap.size w7.heap.size (.slice A7 R.length c7) L (L.length / 64) 0 := by
      have hlt := hO7.lt
      refine ⟨?_, ?_, HH.out.le, hz7, fun h => by have := (hlt _ h).2; omega⟩
      · rw [HE8.out]; exact heap_alloc_new w7 _
      · rw [HRE.out]; exact (hO7.b.mono (fun k hk => (hlt k hk).1)).alloc _
    have hbE := hbw.alloc hz7 (.cells #[.int .u32 (a0 : Int), .int .u32 (a1 : Int), .int .u32 (a2 : Int), .int .u32 (a3 : Int), .int .u32 (a4 : Int), .int .u32 (a5 : Int), .int .u32 (a6 : Int), .int .u32 (a7 : Int), .slice A7 R.length c7, .int .i64 0] 156)
    generalize w7.alloc _ = W2 at hE hbE ⊢
    generalize w7.heap.size = ge at hE hz7 ⊢
    clear hO7 hb7 hbw hcs hfs
    have hHW := HH.out.below_ hbE
    have d8' := hHW.rest
    have d9' := hHW.count
    have hs2 := hbE.size
    have hRl : (R.length : Int) < 64 := by have := HRL.out; omega
    have hno : 1 + (119 - (R.length : Int)) % 64 = ((noughts L.length + 1 : Nat) : Int) := by have := HRL.out; unfold noughts; omega
    have hnl : noughts L.length + 1 ≤ 64 := by unfold noughts; omega
    have HNO := Lib.hid hno
    have hrow0 := Row.new W2 5 (List.replicate 72 0)
    have HROW := Lib.hid hrow0
    have HHW := Lib.hid hHW
    have HE := Lib.hid hE
    clear hno hrow0 hHW hE
    go_wp2_with (with_reducible refine at_slot 34 ?_
                 refine wpList_make_u8 u8 rfl (.tmp 33) (.const (.int .i64 72)) rfl .i64 .i64 _ _ (noughts L.length + 1) 72 rfl rfl HNO.out rfl (by omega) (by omega) ?_
                 have hc0 := HROW.out.cell (i := 0) (by simp)
                 have hf0 := HROW.out.frozen 0)
    have hrow1 := Row.new W2 5 (128 :: List.replicate 71 0)
    have hb1 := (Below.refl W2.heap.size W2).alloc (Nat.le_refl _) (.cells (bvs (128 :: List.replicate 71 0)).toArray 5)
    change Code.wp _ _ _ _ (W2.alloc (.cells (bvs (128 :: List.replicate 71 0)).toArray 5))
    have hspl : (128 :: List.replicate 71 (0 : UInt8)) = (128 :: List.replicate (noughts L.length) 0) ++ List.replicate (71 - noughts L.length) 0 := by
      rw [List.cons_append, List.replicate_append_replicate]; congr 2; omega
    have hO1 : Own (W2.alloc (.cells (bvs (128 :: List.replicate 71 0)).toArray 5)) 5 W2.heap.size (.slice (some ⟨W2.heap.size, 0, none⟩) (noughts L.length + 1) 72) ((128 :: List.replicate (noughts L.length) 0) ++ (be8 (8 * L.length)).take 0) := by
      rw [List.take_zero, List.append_nil]
      rw [hspl] at hrow1 ⊢
      exact hrow1.toOwn (Nat.le_refl _) (by simp) (by simp; omega) (by omega)
    generalize W2.alloc _ = W3 at hO1 hb1 ⊢
    clear hc0 hf0 hrow1 hspl d8' d9' HNO HROW
    go_loopw [5, 37] (fun v i wr => ∃ k : Nat, k ≤ 8 ∧ i = .int .i64 k ∧ Own wr 5 W2.heap.size v ((128 :: List.replicate (noughts L.length) 0) ++ (be8 (8 * L.length)).take k) ∧ Below W2.heap.size W2 wr) (fun _ i _ => 8 - (intOf i).toNat)
    case atStart => exact ⟨0, by omega, rfl, hO1, hb1⟩
    case round =>
      obtain ⟨k, hk, rfl, hO, hbr⟩ := hrel
      clear hO1 hb1
      have h8l : (be8 (8 * L.length)).length = 8 := rfl
      by_cases hlt : k < 8
      · have hXl : ((128 :: List.replicate (noughts L.length) 0) ++ (be8 (8 * L.length)).take k).length ≤ 72 := by
          rw [List.length_append, List.length_take, h8l, List.length_cons, List.length_replicate]; omega
        obtain ⟨X, hX⟩ : ∃ X, (128 :: List.replicate (noughts L.length) 0) ++ (be8 (8 * L.length)).take k = X := ⟨_, rfl⟩
        rw [hX] at hO hXl
        have HX := Lib.hid hX
        have HXL := Lib.hid hXl
        obtain ⟨Av, cv, rfl, hRv, hcv⟩ := hO.form
        clear hX hXl
        obtain rfl | rfl | rfl | rfl | rfl | rfl | rfl | rfl : k = 0 ∨ k = 1 ∨ k = 2 ∨ k = 3 ∨ k = 4 ∨ k = 5 ∨ k = 6 ∨ k = 7 := by omega
        · have htk : (be8 (8 * L.length)).take (0+1) = (be8 (8 * L.length)).take 0 ++ [UInt8.ofNat (8 * L.length / 72057594037927936)] := by rw [be8_eight]; rfl
          have HTK := Lib.hid htk
          clear htk
          go_wp2_with (with_reducible refine at_slot 48 ?_
                       refine wpList_append_u8 u8 rfl (.tmp 40) (.tmp 47) rfl W2.heap.size _ X _ 1 1 [UInt8.ofNat (8 * L.length / 72057594037927936)] (wr.heap.size + 1) rfl rfl (hO.alloc _) (rd_lit _ _ (byte_cell _ _ (by omega))) rfl (by have := HXL.out; omega) (by have := hbr.size; simp; omega) ?_
                       intro v5 w5 hO5 hg5 hat5
                       have hb5 := below_grown (hbr.alloc hbr.size _) hg5 (by have := hbr.size; simp; omega) (hO.alloc _) (Nat.le_refl _)
                       obtain ⟨A5, c5, rfl, _, _⟩ := hO5.form
                       rw [List.length_append, List.length_singleton] at hO5)
          go_roundw
          case rel => exact ⟨0 + 1, by omega, by go_num, by rw [HTK.out, ← List.append_assoc, HX.out]; exact hO5, hb5⟩
          case measure => simp [intOf]
        · have htk : (be8 (8 * L.length)).take (1+1) = (be8 (8 * L.length)).take 1 ++ [UInt8.ofNat (8 * L.length / 281474976710656)] := by rw [be8_eight]; rfl
          have HTK := Lib.hid htk
          clear htk
          go_wp2_with (with_reducible refine at_slot 48 ?_
                       refine wpList_append_u8 u8 rfl (.tmp 40) (.tmp 47) rfl W2.heap.size _ X _ 1 1 [UInt8.ofNat (8 * L.length / 281474976710656)] (wr.heap.size + 1) rfl rfl (hO.alloc _) (rd_lit _ _ (byte_cell _ _ (by omega))) rfl (by have := HXL.out; omega) (by have := hbr.size; simp; omega) ?_
                       intro v5 w5 hO5 hg5 hat5
                       have hb5 := below_grown (hbr.alloc hbr.size _) hg5 (by have := hbr.size; simp; omega) (hO.alloc _) (Nat.le_refl _)
                       obtain ⟨A5, c5, rfl, _, _⟩ := hO5.form
                       rw [List.length_append, List.length_singleton] at hO5)
          go_roundw
          case rel => exact ⟨1 + 1, by omega, by go_num, by rw [HTK.out, ← List.append_assoc, HX.out]; exact hO5, hb5⟩
          case measure => simp [intOf]
        · have htk : (be8 (8 * L.length)).take (2+1) = (be8 (8 * L.length)).take 2 ++ [UInt8.ofNat (8 * L.length / 1099511627776)] := by rw [be8_eight]; rfl
          have HTK := Lib.hid htk
          clear htk
          go_wp2_with (with_reducible refine at_slot 48 ?_
                       refine wpList_append_u8 u8 rfl (.tmp 40) (.tmp 47) rfl W2.heap.size _ X _ 1 1 [UInt8.ofNat (8 * L.length / 1099511627776)] (wr.heap.size + 1) rfl rfl (hO.alloc _) (rd_lit _ _ (byte_cell _ _ (by omega))) rfl (by have := HXL.out; omega) (by have := hbr.size; simp; omega) ?_
                       intro v5 w5 hO5 hg5 hat5
                       have hb5 := below_grown (hbr.alloc hbr.size _) hg5 (by have := hbr.size; simp; omega) (hO.alloc _) (Nat.le_refl _)
                       obtain ⟨A5, c5, rfl, _, _⟩ := hO5.form
                       rw [List.length_append, List.length_singleton] at hO5)
          go_roundw
          case rel => exact ⟨2 + 1, by omega, by go_num, by rw [HTK.out, ← List.append_assoc, HX.out]; exact hO5, hb5⟩
          case measure => simp [intOf]
        · have htk : (be8 (8 * L.length)).take (3+1) = (be8 (8 * L.length)).take 3 ++ [UInt8.ofNat (8 * L.length / 4294967296)] := by rw [be8_eight]; rfl
          have HTK := Lib.hid htk
          clear htk
          go_wp2_with (with_reducible refine at_slot 48 ?_
                       refine wpList_append_u8 u8 rfl (.tmp 40) (.tmp 47) rfl W2.heap.size _ X _ 1 1 [UInt8.ofNat (8 * L.length / 4294967296)] (wr.heap.size + 1) rfl rfl (hO.alloc _) (rd_lit _ _ (byte_cell _ _ (by omega))) rfl (by have := HXL.out; omega) (by have := hbr.size; simp; omega) ?_
                       intro v5 w5 hO5 hg5 hat5
                       have hb5 := below_grown (hbr.alloc hbr.size _) hg5 (by have := hbr.size; simp; omega) (hO.alloc _) (Nat.le_refl _)
                       obtain ⟨A5, c5, rfl, _, _⟩ := hO5.form
                       rw [List.length_append, List.length_singleton] at hO5)
          go_roundw
          case rel => exact ⟨3 + 1, by omega, by go_num, by rw [HTK.out, ← List.append_assoc, HX.out]; exact hO5, hb5⟩
          case measure => simp [intOf]
        · have htk : (be8 (8 * L.length)).take (4+1) = (be8 (8 * L.length)).take 4 ++ [UInt8.ofNat (8 * L.length / 16777216)] := by rw [be8_eight]; rfl
          have HTK := Lib.hid htk
          clear htk
          go_wp2_with (with_reducible refine at_slot 48 ?_
                       refine wpList_append_u8 u8 rfl (.tmp 40) (.tmp 47) rfl W2.heap.size _ X _ 1 1 [UInt8.ofNat (8 * L.length / 16777216)] (wr.heap.size + 1) rfl rfl (hO.alloc _) (rd_lit _ _ (byte_cell _ _ (by omega))) rfl (by have := HXL.out; omega) (by have := hbr.size; simp; omega) ?_
                       intro v5 w5 hO5 hg5 hat5
                       have hb5 := below_grown (hbr.alloc hbr.size _) hg5 (by have := hbr.size; simp; omega) (hO.alloc _) (Nat.le_refl _)
                       obtain ⟨A5, c5, rfl, _, _⟩ := hO5.form
                       rw [List.length_append, List.length_singleton] at hO5)
          go_roundw
          case rel => exact ⟨4 + 1, by omega, by go_num, by rw [HTK.out, ← List.append_assoc, HX.out]; exact hO5, hb5⟩
          case measure => simp [intOf]
        · have htk : (be8 (8 * L.length)).take (5+1) = (be8 (8 * L.length)).take 5 ++ [UInt8.ofNat (8 * L.length / 65536)] := by rw [be8_eight]; rfl
          have HTK := Lib.hid htk
          clear htk
          go_wp2_with (with_reducible refine at_slot 48 ?_
                       refine wpList_append_u8 u8 rfl (.tmp 40) (.tmp 47) rfl W2.heap.size _ X _ 1 1 [UInt8.ofNat (8 * L.length / 65536)] (wr.heap.size + 1) rfl rfl (hO.alloc _) (rd_lit _ _ (byte_cell _ _ (by omega))) rfl (by have := HXL.out; omega) (by have := hbr.size; simp; omega) ?_
                       intro v5 w5 hO5 hg5 hat5
                       have hb5 := below_grown (hbr.alloc hbr.size _) hg5 (by have := hbr.size; simp; omega) (hO.alloc _) (Nat.le_refl _)
                       obtain ⟨A5, c5, rfl, _, _⟩ := hO5.form
                       rw [List.length_append, List.length_singleton] at hO5)
          go_roundw
          case rel => exact ⟨5 + 1, by omega, by go_num, by rw [HTK.out, ← List.append_assoc, HX.out]; exact hO5, hb5⟩
          case measure => simp [intOf]
        · have htk : (be8 (8 * L.length)).take (6+1) = (be8 (8 * L.length)).take 6 ++ [UInt8.ofNat (8 * L.length / 256)] := by rw [be8_eight]; rfl
          have HTK := Lib.hid htk
          clear htk
          go_wp2_with (with_reducible refine at_slot 48 ?_
                       refine wpList_append_u8 u8 rfl (.tmp 40) (.tmp 47) rfl W2.heap.size _ X _ 1 1 [UInt8.ofNat (8 * L.length / 256)] (wr.heap.size + 1) rfl rfl (hO.alloc _) (rd_lit _ _ (byte_cell _ _ (by omega))) rfl (by have := HXL.out; omega) (by have := hbr.size; simp; omega) ?_
                       intro v5 w5 hO5 hg5 hat5
                       have hb5 := below_grown (hbr.alloc hbr.size _) hg5 (by have := hbr.size; simp; omega) (hO.alloc _) (Nat.le_refl _)
                       obtain ⟨A5, c5, rfl, _, _⟩ := hO5.form
                       rw [List.length_append, List.length_singleton] at hO5)
          go_roundw
          case rel => exact ⟨6 + 1, by omega, by go_num, by rw [HTK.out, ← List.append_assoc, HX.out]; exact hO5, hb5⟩
          case measure => simp [intOf]
        · have htk : (be8 (8 * L.length)).take (7+1) = (be8 (8 * L.length)).take 7 ++ [UInt8.ofNat (8 * L.length)] := by rw [be8_eight]; rfl
          have HTK := Lib.hid htk
          clear htk
          go_wp2_with (with_reducible refine at_slot 48 ?_
                       refine wpList_append_u8 u8 rfl (.tmp 40) (.tmp 47) rfl W2.heap.size _ X _ 1 1 [UInt8.ofNat (8 * L.length)] (wr.heap.size + 1) rfl rfl (hO.alloc _) (rd_lit _ _ (byte_cell _ _ (by omega))) rfl (by have := HXL.out; omega) (by have := hbr.size; simp; omega) ?_
                       intro v5 w5 hO5 hg5 hat5
                       have hb5 := below_grown (hbr.alloc hbr.size _) hg5 (by have := hbr.size; simp; omega) (hO.alloc _) (Nat.le_refl _)
                       obtain ⟨A5, c5, rfl, _, _⟩ := hO5.form
                       rw [List.length_append, List.length_singleton] at hO5)
          go_roundw
          case rel => exact ⟨7 + 1, by omega, by go_num, by rw [HTK.out, ← List.append_assoc, HX.out]; exact hO5, hb5⟩
          case measure => simp [intOf]
      · have hk8 : k = 8 := by omega
        subst hk8
        rw [List.take_of_length_le (by rw [h8l]; exact Nat.le_refl _)] at hO
        obtain ⟨PAD, hPAD⟩ : ∃ PAD, (128 :: List.replicate (noughts L.length) 0) ++ be8 (8 * L.length) = PAD := ⟨_, rfl⟩
        have hpd : L ++ PAD = padded L := by rw [← hPAD]; rfl
        have hpl : PAD.length ≤ 72 := by rw [← hPAD, List.length_append, h8l, List.length_cons, List.length_replicate]; omega
        rw [hPAD] at hO
        obtain ⟨Av, cv, rfl, hRv, hcv⟩ := hO.form
        have hpr := own_rds hO
        obtain ⟨-, hq1, hq2⟩ := own_len hO
        have hEw := HE.out.below_ hbr
        have hbw2 := hbE.trans (hbr.mono hbE.size)
        have hPS := parts_new (w := wr) (S := fun k => W2.heap.size ≤ k ∧ k < wr.heap.size) (T' := Far (wr.alloc (.cells #[.slice Av PAD.length cv] 22)) ge (.slice A7 R.length c7)) 22 [⟨Av, PAD.length, cv, PAD⟩]
          (by intro p hp; simp only [List.mem_singleton] at hp; subst hp; exact ⟨rfl, hq1, hq2, hpr⟩) (fun k hk => hk.2)
          ⟨by simp, fun h => by have := hEw.row.lt; omega, fun h => by have := (hEw.own.lt _ h).2; omega⟩
          (fun k hk => ⟨by simp; omega, fun h => by have := HE.out.row.lt; omega, fun h => by have := (HE.out.own.lt _ h).2; omega⟩)
        have hEa := hEw.below_ ((Below.refl _ _).alloc (Nat.le_refl _) (.cells #[.slice Av PAD.length cv] 22))
        have hba := hbw2.alloc hbw2.size (.cells #[.slice Av PAD.length cv] 22)
        have HPS := Lib.hid hPS
        have HEA := Lib.hid hEa
        have HPD := Lib.hid hpd
        have HP := Lib.hid hPAD
        clear hPS hEa hpd hPAD hpr hEw hO hRv
        go_wp2_with (first
          | (go_at_call 70
             refine (write_any ge w.heap.size (.slice A7 R.length c7) L _ 1 1 [⟨Av, PAD.length, cv, PAD⟩] _ 0 HEA.out HPS.out rfl (by omega) (by simp [bytesOf]; omega) (by simp [bytesOf]; omega) hba.size).mono ?_
             rintro e w9 ⟨rv9, rfl, hE9, hnew9, hF9⟩
             have hb9 : Below w.heap.size w w9 := hba.trans (hF9.toBelow (fun k hk => ⟨Nat.lt_of_lt_of_le hk hba.size, fun h => by have := HEA.out.hb; omega, fun h => by have := (HEA.out.own.lt _ h).1; omega⟩))
             rw [show bytesOf [⟨Av, PAD.length, cv, PAD⟩] = PAD by simp [bytesOf], HPD.out] at hE9
             have h89 := blocks_eight ((padded L).length / 64) hw_eight (padded L)
             obtain ⟨b0, b1, b2, b3, b4, b5, b6, b7, e9, m0, m1, m2, m3, m4, m5, m6, m7⟩ := h89.parts
             have hrow9 := hE9.row
             rw [e9] at hrow9
             have x0 := hrow9.cell (i := 0) rfl
             have x1 := hrow9.cell (i := 1) rfl
             have x2 := hrow9.cell (i := 2) rfl
             have x3 := hrow9.cell (i := 3) rfl
             have x4 := hrow9.cell (i := 4) rfl
             have x5 := hrow9.cell (i := 5) rfl
             have x6 := hrow9.cell (i := 6) rfl
             have x7 := hrow9.cell (i := 7) rfl
             have hs9 := hb9.size
             have HE9 := Lib.hid e9
             clear hrow9 e9 hE9 hnew9 hF9))
        have hbw9 := Below.refl w9.heap.size w9
        obtain ⟨wo, rfl⟩ : ∃ wo : World, wo = wr := ⟨_, rfl⟩
        go_loopw [7, 55] (fun v i wr => ∃ k : Nat, k ≤ 8 ∧ i = .int .i64 k ∧ Own wr 5 w9.heap.size v (([b0, b1, b2, b3, b4, b5, b6, b7].take k).flatMap be4) ∧ Below w9.heap.size w9 wr) (fun _ i _ => 8 - (intOf i).toNat)
        case atStart => exact ⟨0, by omega, rfl, Own.nil _ _ _, hbw9⟩
        case round =>
          obtain ⟨k, hk, rfl, hO, hbr⟩ := hrel
          clear hbw9 x0 x1 x2 x3 x4 x5 x6 x7
          have be4_len : ∀ n, (be4 n).length = 4 := fun _ => rfl
          by_cases hlt : k < 8
          · have hYl : (([b0, b1, b2, b3, b4, b5, b6, b7].take k).flatMap be4).length ≤ 32 := by
              obtain rfl | rfl | rfl | rfl | rfl | rfl | rfl | rfl : k = 0 ∨ k = 1 ∨ k = 2 ∨ k = 3 ∨ k = 4 ∨ k = 5 ∨ k = 6 ∨ k = 7 := by omega
              all_goals (show _ ≤ 32; simp [be4])
            obtain ⟨Y, hY⟩ : ∃ Y, ([b0, b1, b2, b3, b4, b5, b6, b7].take k).flatMap be4 = Y := ⟨_, rfl⟩
            rw [hY] at hO hYl
            have HY := Lib.hid hY
            have HYL := Lib.hid hYl
            have B4 := Lib.hid be4_len
            obtain ⟨Av, cv, rfl, hRv, hcv⟩ := hO.form
            clear hY hYl be4_len
            obtain rfl | rfl | rfl | rfl | rfl | rfl | rfl | rfl : k = 0 ∨ k = 1 ∨ k = 2 ∨ k = 3 ∨ k = 4 ∨ k = 5 ∨ k = 6 ∨ k = 7 := by omega
            · have hix : ∀ w : World, (Instr.index 153 (.agg #[.int .u32 (b0 : Int), .int .u32 (b1 : Int), .int .u32 (b2 : Int), .int .u32 (b3 : Int), .int .u32 (b4 : Int), .int .u32 (b5 : Int), .int .u32 (b6 : Int), .int .u32 (b7 : Int)]) (.int .i64 0)).run Tryz.prog w = .ok (.int .u32 (b0 : Int)) w := fun _ => by kernel_rfl
              go_wp2_with (with_reducible refine at_slot 71 ?_
                           refine wpList_append_u8 u8 rfl (.tmp 58) (.tmp 70) rfl w9.heap.size _ Y _ 4 4 (be4 b0) (wr.heap.size + 1) rfl rfl (hO.alloc _) (rd_lit _ _ (be4_cells b0 m0)) rfl (by have := HYL.out; omega) (by have := hbr.size; simp; omega) ?_
                           intro v5 w5 hO5 hg5 hat5
                           have hb5 := below_grown (hbr.alloc hbr.size _) hg5 (by have := hbr.size; simp; omega) (hO.alloc _) (Nat.le_refl _)
                           obtain ⟨A5, c5, rfl, _, _⟩ := hO5.form
                           rw [List.length_append, B4.out] at hO5)
              go_roundw
              case rel => exact ⟨0 + 1, by omega, by go_num, by rw [show ([b0, b1, b2, b3, b4, b5, b6, b7].take (0 + 1)).flatMap be4 = ([b0, b1, b2, b3, b4, b5, b6, b7].take 0).flatMap be4 ++ be4 b0 from rfl, HY.out]; exact hO5, hb5⟩
              case measure => simp [intOf]
            · have hix : ∀ w : World, (Instr.index 153 (.agg #[.int .u32 (b0 : Int), .int .u32 (b1 : Int), .int .u32 (b2 : Int), .int .u32 (b3 : Int), .int .u32 (b4 : Int), .int .u32 (b5 : Int), .int .u32 (b6 : Int), .int .u32 (b7 : Int)]) (.int .i64 1)).run Tryz.prog w = .ok (.int .u32 (b1 : Int)) w := fun _ => by kernel_rfl
              go_wp2_with (with_reducible refine at_slot 71 ?_
                           refine wpList_append_u8 u8 rfl (.tmp 58) (.tmp 70) rfl w9.heap.size _ Y _ 4 4 (be4 b1) (wr.heap.size + 1) rfl rfl (hO.alloc _) (rd_lit _ _ (be4_cells b1 m1)) rfl (by have := HYL.out; omega) (by have := hbr.size; simp; omega) ?_
                           intro v5 w5 hO5 hg5 hat5
                           have hb5 := below_grown (hbr.alloc hbr.size _) hg5 (by have := hbr.size; simp; omega) (hO.alloc _) (Nat.le_refl _)
                           obtain ⟨A5, c5, rfl, _, _⟩ := hO5.form
                           rw [List.length_append, B4.out] at hO5)
              go_roundw
              case rel => exact ⟨1 + 1, by omega, by go_num, by rw [show ([b0, b1, b2, b3, b4, b5, b6, b7].take (1 + 1)).flatMap be4 = ([b0, b1, b2, b3, b4, b5, b6, b7].take 1).flatMap be4 ++ be4 b1 from rfl, HY.out]; exact hO5, hb5⟩
              case measure => simp [intOf]
            · have hix : ∀ w : World, (Instr.index 153 (.agg #[.int .u32 (b0 : Int), .int .u32 (b1 : Int), .int .u32 (b2 : Int), .int .u32 (b3 : Int), .int .u32 (b4 : Int), .int .u32 (b5 : Int), .int .u32 (b6 : Int), .int .u32 (b7 : Int)]) (.int .i64 2)).run Tryz.prog w = .ok (.int .u32 (b2 : Int)) w := fun _ => by kernel_rfl
              go_wp2_with (with_reducible refine at_slot 71 ?_
                           refine wpList_append_u8 u8 rfl (.tmp 58) (.tmp 70) rfl w9.heap.size _ Y _ 4 4 (be4 b2) (wr.heap.size + 1) rfl rfl (hO.alloc _) (rd_lit _ _ (be4_cells b2 m2)) rfl (by have := HYL.out; omega) (by have := hbr.size; simp; omega) ?_
                           intro v5 w5 hO5 hg5 hat5
                           have hb5 := below_grown (hbr.alloc hbr.size _) hg5 (by have := hbr.size; simp; omega) (hO.alloc _) (Nat.le_refl _)
                           obtain ⟨A5, c5, rfl, _, _⟩ := hO5.form
                           rw [List.length_append, B4.out] at hO5)
              go_roundw
              case rel => exact ⟨2 + 1, by omega, by go_num, by rw [show ([b0, b1, b2, b3, b4, b5, b6, b7].take (2 + 1)).flatMap be4 = ([b0, b1, b2, b3, b4, b5, b6, b7].take 2).flatMap be4 ++ be4 b2 from rfl, HY.out]; exact hO5, hb5⟩
              case measure => simp [intOf]
            · have hix : ∀ w : World, (Instr.index 153 (.agg #[.int .u32 (b0 : Int), .int .u32 (b1 : Int), .int .u32 (b2 : Int), .int .u32 (b3 : Int), .int .u32 (b4 : Int), .int .u32 (b5 : Int), .int .u32 (b6 : Int), .int .u32 (b7 : Int)]) (.int .i64 3)).run Tryz.prog w = .ok (.int .u32 (b3 : Int)) w := fun _ => by kernel_rfl
              go_wp2_with (with_reducible refine at_slot 71 ?_
                           refine wpList_append_u8 u8 rfl (.tmp 58) (.tmp 70) rfl w9.heap.size _ Y _ 4 4 (be4 b3) (wr.heap.size + 1) rfl rfl (hO.alloc _) (rd_lit _ _ (be4_cells b3 m3)) rfl (by have := HYL.out; omega) (by have := hbr.size; simp; omega) ?_
                           intro v5 w5 hO5 hg5 hat5
                           have hb5 := below_grown (hbr.alloc hbr.size _) hg5 (by have := hbr.size; simp; omega) (hO.alloc _) (Nat.le_refl _)
                           obtain ⟨A5, c5, rfl, _, _⟩ := hO5.form
                           rw [List.length_append, B4.out] at hO5)
              go_roundw
              case rel => exact ⟨3 + 1, by omega, by go_num, by rw [show ([b0, b1, b2, b3, b4, b5, b6, b7].take (3 + 1)).flatMap be4 = ([b0, b1, b2, b3, b4, b5, b6, b7].take 3).flatMap be4 ++ be4 b3 from rfl, HY.out]; exact hO5, hb5⟩
              case measure => simp [intOf]
            · have hix : ∀ w : World, (Instr.index 153 (.agg #[.int .u32 (b0 : Int), .int .u32 (b1 : Int), .int .u32 (b2 : Int), .int .u32 (b3 : Int), .int .u32 (b4 : Int), .int .u32 (b5 : Int), .int .u32 (b6 : Int), .int .u32 (b7 : Int)]) (.int .i64 4)).run Tryz.prog w = .ok (.int .u32 (b4 : Int)) w := fun _ => by kernel_rfl
              go_wp2_with (with_reducible refine at_slot 71 ?_
                           refine wpList_append_u8 u8 rfl (.tmp 58) (.tmp 70) rfl w9.heap.size _ Y _ 4 4 (be4 b4) (wr.heap.size + 1) rfl rfl (hO.alloc _) (rd_lit _ _ (be4_cells b4 m4)) rfl (by have := HYL.out; omega) (by have := hbr.size; simp; omega) ?_
                           intro v5 w5 hO5 hg5 hat5
                           have hb5 := below_grown (hbr.alloc hbr.size _) hg5 (by have := hbr.size; simp; omega) (hO.alloc _) (Nat.le_refl _)
                           obtain ⟨A5, c5, rfl, _, _⟩ := hO5.form
                           rw [List.length_append, B4.out] at hO5)
              go_roundw
              case rel => exact ⟨4 + 1, by omega, by go_num, by rw [show ([b0, b1, b2, b3, b4, b5, b6, b7].take (4 + 1)).flatMap be4 = ([b0, b1, b2, b3, b4, b5, b6, b7].take 4).flatMap be4 ++ be4 b4 from rfl, HY.out]; exact hO5, hb5⟩
              case measure => simp [intOf]
            · have hix : ∀ w : World, (Instr.index 153 (.agg #[.int .u32 (b0 : Int), .int .u32 (b1 : Int), .int .u32 (b2 : Int), .int .u32 (b3 : Int), .int .u32 (b4 : Int), .int .u32 (b5 : Int), .int .u32 (b6 : Int), .int .u32 (b7 : Int)]) (.int .i64 5)).run Tryz.prog w = .ok (.int .u32 (b5 : Int)) w := fun _ => by kernel_rfl
              go_wp2_with (with_reducible refine at_slot 71 ?_
                           refine wpList_append_u8 u8 rfl (.tmp 58) (.tmp 70) rfl w9.heap.size _ Y _ 4 4 (be4 b5) (wr.heap.size + 1) rfl rfl (hO.alloc _) (rd_lit _ _ (be4_cells b5 m5)) rfl (by have := HYL.out; omega) (by have := hbr.size; simp; omega) ?_
                           intro v5 w5 hO5 hg5 hat5
                           have hb5 := below_grown (hbr.alloc hbr.size _) hg5 (by have := hbr.size; simp; omega) (hO.alloc _) (Nat.le_refl _)
                           obtain ⟨A5, c5, rfl, _, _⟩ := hO5.form
                           rw [List.length_append, B4.out] at hO5)
              go_roundw
              case rel => exact ⟨5 + 1, by omega, by go_num, by rw [show ([b0, b1, b2, b3, b4, b5, b6, b7].take (5 + 1)).flatMap be4 = ([b0, b1, b2, b3, b4, b5, b6, b7].take 5).flatMap be4 ++ be4 b5 from rfl, HY.out]; exact hO5, hb5⟩
              case measure => simp [intOf]
            · have hix : ∀ w : World, (Instr.index 153 (.agg #[.int .u32 (b0 : Int), .int .u32 (b1 : Int), .int .u32 (b2 : Int), .int .u32 (b3 : Int), .int .u32 (b4 : Int), .int .u32 (b5 : Int), .int .u32 (b6 : Int), .int .u32 (b7 : Int)]) (.int .i64 6)).run Tryz.prog w = .ok (.int .u32 (b6 : Int)) w := fun _ => by kernel_rfl
              go_wp2_with (with_reducible refine at_slot 71 ?_
                           refine wpList_append_u8 u8 rfl (.tmp 58) (.tmp 70) rfl w9.heap.size _ Y _ 4 4 (be4 b6) (wr.heap.size + 1) rfl rfl (hO.alloc _) (rd_lit _ _ (be4_cells b6 m6)) rfl (by have := HYL.out; omega) (by have := hbr.size; simp; omega) ?_
                           intro v5 w5 hO5 hg5 hat5
                           have hb5 := below_grown (hbr.alloc hbr.size _) hg5 (by have := hbr.size; simp; omega) (hO.alloc _) (Nat.le_refl _)
                           obtain ⟨A5, c5, rfl, _, _⟩ := hO5.form
                           rw [List.length_append, B4.out] at hO5)
              go_roundw
              case rel => exact ⟨6 + 1, by omega, by go_num, by rw [show ([b0, b1, b2, b3, b4, b5, b6, b7].take (6 + 1)).flatMap be4 = ([b0, b1, b2, b3, b4, b5, b6, b7].take 6).flatMap be4 ++ be4 b6 from rfl, HY.out]; exact hO5, hb5⟩
              case measure => simp [intOf]
            · have hix : ∀ w : World, (Instr.index 153 (.agg #[.int .u32 (b0 : Int), .int .u32 (b1 : Int), .int .u32 (b2 : Int), .int .u32 (b3 : Int), .int .u32 (b4 : Int), .int .u32 (b5 : Int), .int .u32 (b6 : Int), .int .u32 (b7 : Int)]) (.int .i64 7)).run Tryz.prog w = .ok (.int .u32 (b7 : Int)) w := fun _ => by kernel_rfl
              go_wp2_with (with_reducible refine at_slot 71 ?_
                           refine wpList_append_u8 u8 rfl (.tmp 58) (.tmp 70) rfl w9.heap.size _ Y _ 4 4 (be4 b7) (wr.heap.size + 1) rfl rfl (hO.alloc _) (rd_lit _ _ (be4_cells b7 m7)) rfl (by have := HYL.out; omega) (by have := hbr.size; simp; omega) ?_
                           intro v5 w5 hO5 hg5 hat5
                           have hb5 := below_grown (hbr.alloc hbr.size _) hg5 (by have := hbr.size; simp; omega) (hO.alloc _) (Nat.le_refl _)
                           obtain ⟨A5, c5, rfl, _, _⟩ := hO5.form
                           rw [List.length_append, B4.out] at hO5)
              go_roundw
              case rel => exact ⟨7 + 1, by omega, by go_num, by rw [show ([b0, b1, b2, b3, b4, b5, b6, b7].take (7 + 1)).flatMap be4 = ([b0, b1, b2, b3, b4, b5, b6, b7].take 7).flatMap be4 ++ be4 b7 from rfl, HY.out]; exact hO5, hb5⟩
              case measure => simp [intOf]
          · have hk8 : k = 8 := by omega
            subst hk8
            have hsh : sha L = ([b0, b1, b2, b3, b4, b5, b6, b7].take 8).flatMap be4 := by
              unfold sha
              rw [HE9.out]
              rfl
            have HSH := Lib.hid hsh
            have HO := Lib.hid hO
            have HBR := Lib.hid hbr
            clear hsh hO hbr be4_len
            go_wp2
            go_ret
            exact ⟨_, rfl, by rw [HSH.out]; exact HO.out.mono hs9, hb9.trans (HBR.out.mono hs9)⟩
  · have hlt := hO7.lt
    have hob : Value.ownBlock (.slice A7 R.length c7) ≠ some w.heap.size := fun h => by have := (hlt _ h).1; simp at this; omega
    have hO7b := hO7.b.mono (base' := w.heap.size) (fun k hk => by have := (hlt k hk).1; simp at this; omega)
    have hE : Hst ((((((((((w7.setCell ⟨w.heap.size, 0, none⟩ (.int .u32 (a0 : Int))).setCell ⟨w.heap.size, 1, none⟩ (.int .u32 (a1 : Int))).setCell ⟨w.heap.size, 2, none⟩ (.int .u32 (a2 : Int))).setCell ⟨w.heap.size, 3, none⟩ (.int .u32 (a3 : Int))).setCell ⟨w.heap.size, 4, none⟩ (.int .u32 (a4 : Int))).setCell ⟨w.heap.size, 5, none⟩ (.int .u32 (a5 : Int))).setCell ⟨w.heap.size, 6, none⟩ (.int .u32 (a6 : Int))).setCell ⟨w.heap.size, 7, none⟩ (.int .u32 (a7 : Int))).setCell ⟨w.heap.size, 8, none⟩ (.slice A7 R.length c7)).setCell ⟨w.heap.size, 9, none⟩ (.int .i64 0)) w.heap.size w.heap.size (.slice A7 R.length c7) L (L.length / 64) 0 := by
      refine ⟨?_, ?_, HH.out.le, Nat.le_refl _, hob⟩
      · rw [HE8.out]; exact ((((((((((hrow7.set 0 (.int .u32 (a0 : Int))).set 1 (.int .u32 (a1 : Int))).set 2 (.int .u32 (a2 : Int))).set 3 (.int .u32 (a3 : Int))).set 4 (.int .u32 (a4 : Int))).set 5 (.int .u32 (a5 : Int))).set 6 (.int .u32 (a6 : Int))).set 7 (.int .u32 (a7 : Int))).set 8 (.slice A7 R.length c7)).set 9 (.int .i64 0))
      · rw [HRE.out]; exact ((((((((((hO7b).far (p := ⟨w.heap.size, 0, none⟩) hob _).far (p := ⟨w.heap.size, 1, none⟩) hob _).far (p := ⟨w.heap.size, 2, none⟩) hob _).far (p := ⟨w.heap.size, 3, none⟩) hob _).far (p := ⟨w.heap.size, 4, none⟩) hob _).far (p := ⟨w.heap.size, 5, none⟩) hob _).far (p := ⟨w.heap.size, 6, none⟩) hob _).far (p := ⟨w.heap.size, 7, none⟩) hob _).far (p := ⟨w.heap.size, 8, none⟩) hob _).far (p := ⟨w.heap.size, 9, none⟩) hob _
    have hbE : Below w.heap.size w ((((((((((w7.setCell ⟨w.heap.size, 0, none⟩ (.int .u32 (a0 : Int))).setCell ⟨w.heap.size, 1, none⟩ (.int .u32 (a1 : Int))).setCell ⟨w.heap.size, 2, none⟩ (.int .u32 (a2 : Int))).setCell ⟨w.heap.size, 3, none⟩ (.int .u32 (a3 : Int))).setCell ⟨w.heap.size, 4, none⟩ (.int .u32 (a4 : Int))).setCell ⟨w.heap.size, 5, none⟩ (.int .u32 (a5 : Int))).setCell ⟨w.heap.size, 6, none⟩ (.int .u32 (a6 : Int))).setCell ⟨w.heap.size, 7, none⟩ (.int .u32 (a7 : Int))).setCell ⟨w.heap.size, 8, none⟩ (.slice A7 R.length c7)).setCell ⟨w.heap.size, 9, none⟩ (.int .i64 0)) := ((((((((((hbw).setCell (p := ⟨w.heap.size, 0, none⟩) (Nat.le_refl _) _).setCell (p := ⟨w.heap.size, 1, none⟩) (Nat.le_refl _) _).setCell (p := ⟨w.heap.size, 2, none⟩) (Nat.le_refl _) _).setCell (p := ⟨w.heap.size, 3, none⟩) (Nat.le_refl _) _).setCell (p := ⟨w.heap.size, 4, none⟩) (Nat.le_refl _) _).setCell (p := ⟨w.heap.size, 5, none⟩) (Nat.le_refl _) _).setCell (p := ⟨w.heap.size, 6, none⟩) (Nat.le_refl _) _).setCell (p := ⟨w.heap.size, 7, none⟩) (Nat.le_refl _) _).setCell (p := ⟨w.heap.size, 8, none⟩) (Nat.le_refl _) _).setCell (p := ⟨w.heap.size, 9, none⟩) (Nat.le_refl _) _
    generalize World.setCell _ _ _ = W2 at hE hbE ⊢
    obtain ⟨ge, hge⟩ : ∃ ge, ge = w.heap.size := ⟨_, rfl⟩
    have hEg : Hst W2 w.heap.size ge (.slice A7 R.length c7) L (L.length / 64) 0 := by rw [hge]; exact hE
    have hz7 : w.heap.size ≤ ge := by omega
    rw [← hge]
    clear hE hO7 hb7 hbw hcs hfs hrow7 hob hO7b hlt z0 z1 z2 z3 z4 z5 z6 z7 z8 z9 y0 y1 y2 y3 y4 y5 y6 y7 y8 y9 hge
    have hE := hEg
    clear hEg
    have hHW := HH.out.below_ hbE
    have d8' := hHW.rest
    have d9' := hHW.count
    have hs2 := hbE.size
    have hRl : (R.length : Int) < 64 := by have := HRL.out; omega
    have hno : 1 + (119 - (R.length : Int)) % 64 = ((noughts L.length + 1 : Nat) : Int) := by have := HRL.out; unfold noughts; omega
    have hnl : noughts L.length + 1 ≤ 64 := by unfold noughts; omega
    have HNO := Lib.hid hno
    have hrow0 := Row.new W2 5 (List.replicate 72 0)
    have HROW := Lib.hid hrow0
    have HHW := Lib.hid hHW
    have HE := Lib.hid hE
    clear hno hrow0 hHW hE
    go_wp2_with (with_reducible refine at_slot 34 ?_
                 refine wpList_make_u8 u8 rfl (.tmp 33) (.const (.int .i64 72)) rfl .i64 .i64 _ _ (noughts L.length + 1) 72 rfl rfl HNO.out rfl (by omega) (by omega) ?_
                 have hc0 := HROW.out.cell (i := 0) (by simp)
                 have hf0 := HROW.out.frozen 0)
    have hrow1 := Row.new W2 5 (128 :: List.replicate 71 0)
    have hb1 := (Below.refl W2.heap.size W2).alloc (Nat.le_refl _) (.cells (bvs (128 :: List.replicate 71 0)).toArray 5)
    change Code.wp _ _ _ _ (W2.alloc (.cells (bvs (128 :: List.replicate 71 0)).toArray 5))
    have hspl : (128 :: List.replicate 71 (0 : UInt8)) = (128 :: List.replicate (noughts L.length) 0) ++ List.replicate (71 - noughts L.length) 0 := by
      rw [List.cons_append, List.replicate_append_replicate]; congr 2; omega
    have hO1 : Own (W2.alloc (.cells (bvs (128 :: List.replicate 71 0)).toArray 5)) 5 W2.heap.size (.slice (some ⟨W2.heap.size, 0, none⟩) (noughts L.length + 1) 72) ((128 :: List.replicate (noughts L.length) 0) ++ (be8 (8 * L.length)).take 0) := by
      rw [List.take_zero, List.append_nil]
      rw [hspl] at hrow1 ⊢
      exact hrow1.toOwn (Nat.le_refl _) (by simp) (by simp; omega) (by omega)
    generalize W2.alloc _ = W3 at hO1 hb1 ⊢
    clear hc0 hf0 hrow1 hspl d8' d9' HNO HROW
    go_loopw [5, 37] (fun v i wr => ∃ k : Nat, k ≤ 8 ∧ i = .int .i64 k ∧ Own wr 5 W2.heap.size v ((128 :: List.replicate (noughts L.length) 0) ++ (be8 (8 * L.length)).take k) ∧ Below W2.heap.size W2 wr) (fun _ i _ => 8 - (intOf i).toNat)
    case atStart => exact ⟨0, by omega, rfl, hO1, hb1⟩
    case round =>
      obtain ⟨k, hk, rfl, hO, hbr⟩ := hrel
      clear hO1 hb1
      have h8l : (be8 (8 * L.length)).length = 8 := rfl
      by_cases hlt : k < 8
      · have hXl : ((128 :: List.replicate (noughts L.length) 0) ++ (be8 (8 * L.length)).take k).length ≤ 72 := by
          rw [List.length_append, List.length_take, h8l, List.length_cons, List.length_replicate]; omega
        obtain ⟨X, hX⟩ : ∃ X, (128 :: List.replicate (noughts L.length) 0) ++ (be8 (8 * L.length)).take k = X := ⟨_, rfl⟩
        rw [hX] at hO hXl
        have HX := Lib.hid hX
        have HXL := Lib.hid hXl
        obtain ⟨Av, cv, rfl, hRv, hcv⟩ := hO.form
        clear hX hXl
        obtain rfl | rfl | rfl | rfl | rfl | rfl | rfl | rfl : k = 0 ∨ k = 1 ∨ k = 2 ∨ k = 3 ∨ k = 4 ∨ k = 5 ∨ k = 6 ∨ k = 7 := by omega
        · have htk : (be8 (8 * L.length)).take (0+1) = (be8 (8 * L.length)).take 0 ++ [UInt8.ofNat (8 * L.length / 72057594037927936)] := by rw [be8_eight]; rfl
          have HTK := Lib.hid htk
          clear htk
          go_wp2_with (with_reducible refine at_slot 48 ?_
                       refine wpList_append_u8 u8 rfl (.tmp 40) (.tmp 47) rfl W2.heap.size _ X _ 1 1 [UInt8.ofNat (8 * L.length / 72057594037927936)] (wr.heap.size + 1) rfl rfl (hO.alloc _) (rd_lit _ _ (byte_cell _ _ (by omega))) rfl (by have := HXL.out; omega) (by have := hbr.size; simp; omega) ?_
                       intro v5 w5 hO5 hg5 hat5
                       have hb5 := below_grown (hbr.alloc hbr.size _) hg5 (by have := hbr.size; simp; omega) (hO.alloc _) (Nat.le_refl _)
                       obtain ⟨A5, c5, rfl, _, _⟩ := hO5.form
                       rw [List.length_append, List.length_singleton] at hO5)
          go_roundw
          case rel => exact ⟨0 + 1, by omega, by go_num, by rw [HTK.out, ← List.append_assoc, HX.out]; exact hO5, hb5⟩
          case measure => simp [intOf]
        · have htk : (be8 (8 * L.length)).take (1+1) = (be8 (8 * L.length)).take 1 ++ [UInt8.ofNat (8 * L.length / 281474976710656)] := by rw [be8_eight]; rfl
          have HTK := Lib.hid htk
          clear htk
          go_wp2_with (with_reducible refine at_slot 48 ?_
                       refine wpList_append_u8 u8 rfl (.tmp 40) (.tmp 47) rfl W2.heap.size _ X _ 1 1 [UInt8.ofNat (8 * L.length / 281474976710656)] (wr.heap.size + 1) rfl rfl (hO.alloc _) (rd_lit _ _ (byte_cell _ _ (by omega))) rfl (by have := HXL.out; omega) (by have := hbr.size; simp; omega) ?_
                       intro v5 w5 hO5 hg5 hat5
                       have hb5 := below_grown (hbr.alloc hbr.size _) hg5 (by have := hbr.size; simp; omega) (hO.alloc _) (Nat.le_refl _)
                       obtain ⟨A5, c5, rfl, _, _⟩ := hO5.form
                       rw [List.length_append, List.length_singleton] at hO5)
          go_roundw
          case rel => exact ⟨1 + 1, by omega, by go_num, by rw [HTK.out, ← List.append_assoc, HX.out]; exact hO5, hb5⟩
          case measure => simp [intOf]
        · have htk : (be8 (8 * L.length)).take (2+1) = (be8 (8 * L.length)).take 2 ++ [UInt8.ofNat (8 * L.length / 1099511627776)] := by rw [be8_eight]; rfl
          have HTK := Lib.hid htk
          clear htk
          go_wp2_with (with_reducible refine at_slot 48 ?_
                       refine wpList_append_u8 u8 rfl (.tmp 40) (.tmp 47) rfl W2.heap.size _ X _ 1 1 [UInt8.ofNat (8 * L.length / 1099511627776)] (wr.heap.size + 1) rfl rfl (hO.alloc _) (rd_lit _ _ (byte_cell _ _ (by omega))) rfl (by have := HXL.out; omega) (by have := hbr.size; simp; omega) ?_
                       intro v5 w5 hO5 hg5 hat5
                       have hb5 := below_grown (hbr.alloc hbr.size _) hg5 (by have := hbr.size; simp; omega) (hO.alloc _) (Nat.le_refl _)
                       obtain ⟨A5, c5, rfl, _, _⟩ := hO5.form
                       rw [List.length_append, List.length_singleton] at hO5)
          go_roundw
          case rel => exact ⟨2 + 1, by omega, by go_num, by rw [HTK.out, ← List.append_assoc, HX.out]; exact hO5, hb5⟩
          case measure => simp [intOf]
        · have htk : (be8 (8 * L.length)).take (3+1) = (be8 (8 * L.length)).take 3 ++ [UInt8.ofNat (8 * L.length / 4294967296)] := by rw [be8_eight]; rfl
          have HTK := Lib.hid htk
          clear htk
          go_wp2_with (with_reducible refine at_slot 48 ?_
                       refine wpList_append_u8 u8 rfl (.tmp 40) (.tmp 47) rfl W2.heap.size _ X _ 1 1 [UInt8.ofNat (8 * L.length / 4294967296)] (wr.heap.size + 1) rfl rfl (hO.alloc _) (rd_lit _ _ (byte_cell _ _ (by omega))) rfl (by have := HXL.out; omega) (by have := hbr.size; simp; omega) ?_
                       intro v5 w5 hO5 hg5 hat5
                       have hb5 := below_grown (hbr.alloc hbr.size _) hg5 (by have := hbr.size; simp; omega) (hO.alloc _) (Nat.le_refl _)
                       obtain ⟨A5, c5, rfl, _, _⟩ := hO5.form
                       rw [List.length_append, List.length_singleton] at hO5)
          go_roundw
          case rel => exact ⟨3 + 1, by omega, by go_num, by rw [HTK.out, ← List.append_assoc, HX.out]; exact hO5, hb5⟩
          case measure => simp [intOf]
        · have htk : (be8 (8 * L.length)).take (4+1) = (be8 (8 * L.length)).take 4 ++ [UInt8.ofNat (8 * L.length / 16777216)] := by rw [be8_eight]; rfl
          have HTK := Lib.hid htk
          clear htk
          go_wp2_with (with_reducible refine at_slot 48 ?_
                       refine wpList_append_u8 u8 rfl (.tmp 40) (.tmp 47) rfl W2.heap.size _ X _ 1 1 [UInt8.ofNat (8 * L.length / 16777216)] (wr.heap.size + 1) rfl rfl (hO.alloc _) (rd_lit _ _ (byte_cell _ _ (by omega))) rfl (by have := HXL.out; omega) (by have := hbr.size; simp; omega) ?_
                       intro v5 w5 hO5 hg5 hat5
                       have hb5 := below_grown (hbr.alloc hbr.size _) hg5 (by have := hbr.size; simp; omega) (hO.alloc _) (Nat.le_refl _)
                       obtain ⟨A5, c5, rfl, _, _⟩ := hO5.form
                       rw [List.length_append, List.length_singleton] at hO5)
          go_roundw
          case rel => exact ⟨4 + 1, by omega, by go_num, by rw [HTK.out, ← List.append_assoc, HX.out]; exact hO5, hb5⟩
          case measure => simp [intOf]
        · have htk : (be8 (8 * L.length)).take (5+1) = (be8 (8 * L.length)).take 5 ++ [UInt8.ofNat (8 * L.length / 65536)] := by rw [be8_eight]; rfl
          have HTK := Lib.hid htk
          clear htk
          go_wp2_with (with_reducible refine at_slot 48 ?_
                       refine wpList_append_u8 u8 rfl (.tmp 40) (.tmp 47) rfl W2.heap.size _ X _ 1 1 [UInt8.ofNat (8 * L.length / 65536)] (wr.heap.size + 1) rfl rfl (hO.alloc _) (rd_lit _ _ (byte_cell _ _ (by omega))) rfl (by have := HXL.out; omega) (by have := hbr.size; simp; omega) ?_
                       intro v5 w5 hO5 hg5 hat5
                       have hb5 := below_grown (hbr.alloc hbr.size _) hg5 (by have := hbr.size; simp; omega) (hO.alloc _) (Nat.le_refl _)
                       obtain ⟨A5, c5, rfl, _, _⟩ := hO5.form
                       rw [List.length_append, List.length_singleton] at hO5)
          go_roundw
          case rel => exact ⟨5 + 1, by omega, by go_num, by rw [HTK.out, ← List.append_assoc, HX.out]; exact hO5, hb5⟩
          case measure => simp [intOf]
        · have htk : (be8 (8 * L.length)).take (6+1) = (be8 (8 * L.length)).take 6 ++ [UInt8.ofNat (8 * L.length / 256)] := by rw [be8_eight]; rfl
          have HTK := Lib.hid htk
          clear htk
          go_wp2_with (with_reducible refine at_slot 48 ?_
                       refine wpList_append_u8 u8 rfl (.tmp 40) (.tmp 47) rfl W2.heap.size _ X _ 1 1 [UInt8.ofNat (8 * L.length / 256)] (wr.heap.size + 1) rfl rfl (hO.alloc _) (rd_lit _ _ (byte_cell _ _ (by omega))) rfl (by have := HXL.out; omega) (by have := hbr.size; simp; omega) ?_
                       intro v5 w5 hO5 hg5 hat5
                       have hb5 := below_grown (hbr.alloc hbr.size _) hg5 (by have := hbr.size; simp; omega) (hO.alloc _) (Nat.le_refl _)
                       obtain ⟨A5, c5, rfl, _, _⟩ := hO5.form
                       rw [List.length_append, List.length_singleton] at hO5)
          go_roundw
          case rel => exact ⟨6 + 1, by omega, by go_num, by rw [HTK.out, ← List.append_assoc, HX.out]; exact hO5, hb5⟩
          case measure => simp [intOf]
        · have htk : (be8 (8 * L.length)).take (7+1) = (be8 (8 * L.length)).take 7 ++ [UInt8.ofNat (8 * L.length)] := by rw [be8_eight]; rfl
          have HTK := Lib.hid htk
          clear htk
          go_wp2_with (with_reducible refine at_slot 48 ?_
                       refine wpList_append_u8 u8 rfl (.tmp 40) (.tmp 47) rfl W2.heap.size _ X _ 1 1 [UInt8.ofNat (8 * L.length)] (wr.heap.size + 1) rfl rfl (hO.alloc _) (rd_lit _ _ (byte_cell _ _ (by omega))) rfl (by have := HXL.out; omega) (by have := hbr.size; simp; omega) ?_
                       intro v5 w5 hO5 hg5 hat5
                       have hb5 := below_grown (hbr.alloc hbr.size _) hg5 (by have := hbr.size; simp; omega) (hO.alloc _) (Nat.le_refl _)
                       obtain ⟨A5, c5, rfl, _, _⟩ := hO5.form
                       rw [List.length_append, List.length_singleton] at hO5)
          go_roundw
          case rel => exact ⟨7 + 1, by omega, by go_num, by rw [HTK.out, ← List.append_assoc, HX.out]; exact hO5, hb5⟩
          case measure => simp [intOf]
      · have hk8 : k = 8 := by omega
        subst hk8
        rw [List.take_of_length_le (by rw [h8l]; exact Nat.le_refl _)] at hO
        obtain ⟨PAD, hPAD⟩ : ∃ PAD, (128 :: List.replicate (noughts L.length) 0) ++ be8 (8 * L.length) = PAD := ⟨_, rfl⟩
        have hpd : L ++ PAD = padded L := by rw [← hPAD]; rfl
        have hpl : PAD.length ≤ 72 := by rw [← hPAD, List.length_append, h8l, List.length_cons, List.length_replicate]; omega
        rw [hPAD] at hO
        obtain ⟨Av, cv, rfl, hRv, hcv⟩ := hO.form
        have hpr := own_rds hO
        obtain ⟨-, hq1, hq2⟩ := own_len hO
        have hEw := HE.out.below_ hbr
        have hbw2 := hbE.trans (hbr.mono hbE.size)
        have hPS := parts_new (w := wr) (S := fun k => W2.heap.size ≤ k ∧ k < wr.heap.size) (T' := Far (wr.alloc (.cells #[.slice Av PAD.length cv] 22)) ge (.slice A7 R.length c7)) 22 [⟨Av, PAD.length, cv, PAD⟩]
          (by intro p hp; simp only [List.mem_singleton] at hp; subst hp; exact ⟨rfl, hq1, hq2, hpr⟩) (fun k hk => hk.2)
          ⟨by simp, fun h => by have := hEw.row.lt; omega, fun h => by have := (hEw.own.lt _ h).2; omega⟩
          (fun k hk => ⟨by simp; omega, fun h => by have := HE.out.row.lt; omega, fun h => by have := (HE.out.own.lt _ h).2; omega⟩)
        have hEa := hEw.below_ ((Below.refl _ _).alloc (Nat.le_refl _) (.cells #[.slice Av PAD.length cv] 22))
        have hba := hbw2.alloc hbw2.size (.cells #[.slice Av PAD.length cv] 22)
        have HPS := Lib.hid hPS
        have HEA := Lib.hid hEa
        have HPD := Lib.hid hpd
        have HP := Lib.hid hPAD
        clear hPS hEa hpd hPAD hpr hEw hO hRv
        go_wp2_with (first
          | (go_at_call 70
             refine (write_any ge w.heap.size (.slice A7 R.length c7) L _ 1 1 [⟨Av, PAD.length, cv, PAD⟩] _ 0 HEA.out HPS.out rfl (by omega) (by simp [bytesOf]; omega) (by simp [bytesOf]; omega) hba.size).mono ?_
             rintro e w9 ⟨rv9, rfl, hE9, hnew9, hF9⟩
             have hb9 : Below w.heap.size w w9 := hba.trans (hF9.toBelow (fun k hk => ⟨Nat.lt_of_lt_of_le hk hba.size, fun h => by have := HEA.out.hb; omega, fun h => by have := (HEA.out.own.lt _ h).1; omega⟩))
             rw [show bytesOf [⟨Av, PAD.length, cv, PAD⟩] = PAD by simp [bytesOf], HPD.out] at hE9
             have h89 := blocks_eight ((padded L).length / 64) hw_eight (padded L)
             obtain ⟨b0, b1, b2, b3, b4, b5, b6, b7, e9, m0, m1, m2, m3, m4, m5, m6, m7⟩ := h89.parts
             have hrow9 := hE9.row
             rw [e9] at hrow9
             have x0 := hrow9.cell (i := 0) rfl
             have x1 := hrow9.cell (i := 1) rfl
             have x2 := hrow9.cell (i := 2) rfl
             have x3 := hrow9.cell (i := 3) rfl
             have x4 := hrow9.cell (i := 4) rfl
             have x5 := hrow9.cell (i := 5) rfl
             have x6 := hrow9.cell (i := 6) rfl
             have x7 := hrow9.cell (i := 7) rfl
             have hs9 := hb9.size
             have HE9 := Lib.hid e9
             clear hrow9 e9 hE9 hnew9 hF9))
        have hbw9 := Below.refl w9.heap.size w9
        obtain ⟨wo, rfl⟩ : ∃ wo : World, wo = wr := ⟨_, rfl⟩
        go_loopw [7, 55] (fun v i wr => ∃ k : Nat, k ≤ 8 ∧ i = .int .i64 k ∧ Own wr 5 w9.heap.size v (([b0, b1, b2, b3, b4, b5, b6, b7].take k).flatMap be4) ∧ Below w9.heap.size w9 wr) (fun _ i _ => 8 - (intOf i).toNat)
        case atStart => exact ⟨0, by omega, rfl, Own.nil _ _ _, hbw9⟩
        case round =>
          obtain ⟨k, hk, rfl, hO, hbr⟩ := hrel
          clear hbw9 x0 x1 x2 x3 x4 x5 x6 x7
          have be4_len : ∀ n, (be4 n).length = 4 := fun _ => rfl
          by_cases hlt : k < 8
          · have hYl : (([b0, b1, b2, b3, b4, b5, b6, b7].take k).flatMap be4).length ≤ 32 := by
              obtain rfl | rfl | rfl | rfl | rfl | rfl | rfl | rfl : k = 0 ∨ k = 1 ∨ k = 2 ∨ k = 3 ∨ k = 4 ∨ k = 5 ∨ k = 6 ∨ k = 7 := by omega
              all_goals (show _ ≤ 32; simp [be4])
            obtain ⟨Y, hY⟩ : ∃ Y, ([b0, b1, b2, b3, b4, b5, b6, b7].take k).flatMap be4 = Y := ⟨_, rfl⟩
            rw [hY] at hO hYl
            have HY := Lib.hid hY
            have HYL := Lib.hid hYl
            have B4 := Lib.hid be4_len
            obtain ⟨Av, cv, rfl, hRv, hcv⟩ := hO.form
            clear hY hYl be4_len
            obtain rfl | rfl | rfl | rfl | rfl | rfl | rfl | rfl : k = 0 ∨ k = 1 ∨ k = 2 ∨ k = 3 ∨ k = 4 ∨ k = 5 ∨ k = 6 ∨ k = 7 := by omega
            · have hix : ∀ w : World, (Instr.index 153 (.agg #[.int .u32 (b0 : Int), .int .u32 (b1 : Int), .int .u32 (b2 : Int), .int .u32 (b3 : Int), .int .u32 (b4 : Int), .int .u32 (b5 : Int), .int .u32 (b6 : Int), .int .u32 (b7 : Int)]) (.int .i64 0)).run Tryz.prog w = .ok (.int .u32 (b0 : Int)) w := fun _ => by kernel_rfl
              go_wp2_with (with_reducible refine at_slot 71 ?_
                           refine wpList_append_u8 u8 rfl (.tmp 58) (.tmp 70) rfl w9.heap.size _ Y _ 4 4 (be4 b0) (wr.heap.size + 1) rfl rfl (hO.alloc _) (rd_lit _ _ (be4_cells b0 m0)) rfl (by have := HYL.out; omega) (by have := hbr.size; simp; omega) ?_
                           intro v5 w5 hO5 hg5 hat5
                           have hb5 := below_grown (hbr.alloc hbr.size _) hg5 (by have := hbr.size; simp; omega) (hO.alloc _) (Nat.le_refl _)
                           obtain ⟨A5, c5, rfl, _, _⟩ := hO5.form
                           rw [List.length_append, B4.out] at hO5)
              go_roundw
              case rel => exact ⟨0 + 1, by omega, by go_num, by rw [show ([b0, b1, b2, b3, b4, b5, b6, b7].take (0 + 1)).flatMap be4 = ([b0, b1, b2, b3, b4, b5, b6, b7].take 0).flatMap be4 ++ be4 b0 from rfl, HY.out]; exact hO5, hb5⟩
              case measure => simp [intOf]
            · have hix : ∀ w : World, (Instr.index 153 (.agg #[.int .u32 (b0 : Int), .int .u32 (b1 : Int), .int .u32 (b2 : Int), .int .u32 (b3 : Int), .int .u32 (b4 : Int), .int .u32 (b5 : Int), .int .u32 (b6 : Int), .int .u32 (b7 : Int)]) (.int .i64 1)).run Tryz.prog w = .ok (.int .u32 (b1 : Int)) w := fun _ => by kernel_rfl
              go_wp2_with (with_reducible refine at_slot 71 ?_
                           refine wpList_append_u8 u8 rfl (.tmp 58) (.tmp 70) rfl w9.heap.size _ Y _ 4 4 (be4 b1) (wr.heap.size + 1) rfl rfl (hO.alloc _) (rd_lit _ _ (be4_cells b1 m1)) rfl (by have := HYL.out; omega) (by have := hbr.size; simp; omega) ?_
                           intro v5 w5 hO5 hg5 hat5
                           have hb5 := below_grown (hbr.alloc hbr.size _) hg5 (by have := hbr.size; simp; omega) (hO.alloc _) (Nat.le_refl _)
                           obtain ⟨A5, c5, rfl, _, _⟩ := hO5.form
                           rw [List.length_append, B4.out] at hO5)
              go_roundw
              case rel => exact ⟨1 + 1, by omega, by go_num, by rw [show ([b0, b1, b2, b3, b4, b5, b6, b7].take (1 + 1)).flatMap be4 = ([b0, b1, b2, b3, b4, b5, b6, b7].take 1).flatMap be4 ++ be4 b1 from rfl, HY.out]; exact hO5, hb5⟩
              case measure => simp [intOf]
            · have hix : ∀ w : World, (Instr.index 153 (.agg #[.int .u32 (b0 : Int), .int .u32 (b1 : Int), .int .u32 (b2 : Int), .int .u32 (b3 : Int), .int .u32 (b4 : Int), .int .u32 (b5 : Int), .int .u32 (b6 : Int), .int .u32 (b7 : Int)]) (.int .i64 2)).run Tryz.prog w = .ok (.int .u32 (b2 : Int)) w := fun _ => by kernel_rfl
              go_wp2_with (with_reducible refine at_slot 71 ?_
                           refine wpList_append_u8 u8 rfl (.tmp 58) (.tmp 70) rfl w9.heap.size _ Y _ 4 4 (be4 b2) (wr.heap.size + 1) rfl rfl (hO.alloc _) (rd_lit _ _ (be4_cells b2 m2)) rfl (by have := HYL.out; omega) (by have := hbr.size; simp; omega) ?_
                           intro v5 w5 hO5 hg5 hat5
                           have hb5 := below_grown (hbr.alloc hbr.size _) hg5 (by have := hbr.size; simp; omega) (hO.alloc _) (Nat.le_refl _)
                           obtain ⟨A5, c5, rfl, _, _⟩ := hO5.form
                           rw [List.length_append, B4.out] at hO5)
              go_roundw
              case rel => exact ⟨2 + 1, by omega, by go_num, by rw [show ([b0, b1, b2, b3, b4, b5, b6, b7].take (2 + 1)).flatMap be4 = ([b0, b1, b2, b3, b4, b5, b6, b7].take 2).flatMap be4 ++ be4 b2 from rfl, HY.out]; exact hO5, hb5⟩
              case measure => simp [intOf]
            · have hix : ∀ w : World, (Instr.index 153 (.agg #[.int .u32 (b0 : Int), .int .u32 (b1 : Int), .int .u32 (b2 : Int), .int .u32 (b3 : Int), .int .u32 (b4 : Int), .int .u32 (b5 : Int), .int .u32 (b6 : Int), .int .u32 (b7 : Int)]) (.int .i64 3)).run Tryz.prog w = .ok (.int .u32 (b3 : Int)) w := fun _ => by kernel_rfl
              go_wp2_with (with_reducible refine at_slot 71 ?_
                           refine wpList_append_u8 u8 rfl (.tmp 58) (.tmp 70) rfl w9.heap.size _ Y _ 4 4 (be4 b3) (wr.heap.size + 1) rfl rfl (hO.alloc _) (rd_lit _ _ (be4_cells b3 m3)) rfl (by have := HYL.out; omega) (by have := hbr.size; simp; omega) ?_
                           intro v5 w5 hO5 hg5 hat5
                           have hb5 := below_grown (hbr.alloc hbr.size _) hg5 (by have := hbr.size; simp; omega) (hO.alloc _) (Nat.le_refl _)
                           obtain ⟨A5, c5, rfl, _, _⟩ := hO5.form
                           rw [List.length_append, B4.out] at hO5)
              go_roundw
              case rel => exact ⟨3 + 1, by omega, by go_num, by rw [show ([b0, b1, b2, b3, b4, b5, b6, b7].take (3 + 1)).flatMap be4 = ([b0, b1, b2, b3, b4, b5, b6, b7].take 3).flatMap be4 ++ be4 b3 from rfl, HY.out]; exact hO5, hb5⟩
              case measure => simp [intOf]
            · have hix : ∀ w : World, (Instr.index 153 (.agg #[.int .u32 (b0 : Int), .int .u32 (b1 : Int), .int .u32 (b2 : Int), .int .u32 (b3 : Int), .int .u32 (b4 : Int), .int .u32 (b5 : Int), .int .u32 (b6 : Int), .int .u32 (b7 : Int)]) (.int .i64 4)).run Tryz.prog w = .ok (.int .u32 (b4 : Int)) w := fun _ => by kernel_rfl
              go_wp2_with (with_reducible refine at_slot 71 ?_
                           refine wpList_append_u8 u8 rfl (.tmp 58) (.tmp 70) rfl w9.heap.size _ Y _ 4 4 (be4 b4) (wr.heap.size + 1) rfl rfl (hO.alloc _) (rd_lit _ _ (be4_cells b4 m4)) rfl (by have := HYL.out; omega) (by have := hbr.size; simp; omega) ?_
                           intro v5 w5 hO5 hg5 hat5
                           have hb5 := below_grown (hbr.alloc hbr.size _) hg5 (by have := hbr.size; simp; omega) (hO.alloc _) (Nat.le_refl _)
                           obtain ⟨A5, c5, rfl, _, _⟩ := hO5.form
                           rw [List.length_append, B4.out] at hO5)
              go_roundw
              case rel => exact ⟨4 + 1, by omega, by go_num, by rw [show ([b0, b1, b2, b3, b4, b5, b6, b7].take (4 + 1)).flatMap be4 = ([b0, b1, b2, b3, b4, b5, b6, b7].take 4).flatMap be4 ++ be4 b4 from rfl, HY.out]; exact hO5, hb5⟩
              case measure => simp [intOf]
            · have hix : ∀ w : World, (Instr.index 153 (.agg #[.int .u32 (b0 : Int), .int .u32 (b1 : Int), .int .u32 (b2 : Int), .int .u32 (b3 : Int), .int .u32 (b4 : Int), .int .u32 (b5 : Int), .int .u32 (b6 : Int), .int .u32 (b7 : Int)]) (.int .i64 5)).run Tryz.prog w = .ok (.int .u32 (b5 : Int)) w := fun _ => by kernel_rfl
              go_wp2_with (with_reducible refine at_slot 71 ?_
                           refine wpList_append_u8 u8 rfl (.tmp 58) (.tmp 70) rfl w9.heap.size _ Y _ 4 4 (be4 b5) (wr.heap.size + 1) rfl rfl (hO.alloc _) (rd_lit _ _ (be4_cells b5 m5)) rfl (by have := HYL.out; omega) (by have := hbr.size; simp; omega) ?_
                           intro v5 w5 hO5 hg5 hat5
                           have hb5 := below_grown (hbr.alloc hbr.size _) hg5 (by have := hbr.size; simp; omega) (hO.alloc _) (Nat.le_refl _)
                           obtain ⟨A5, c5, rfl, _, _⟩ := hO5.form
                           rw [List.length_append, B4.out] at hO5)
              go_roundw
              case rel => exact ⟨5 + 1, by omega, by go_num, by rw [show ([b0, b1, b2, b3, b4, b5, b6, b7].take (5 + 1)).flatMap be4 = ([b0, b1, b2, b3, b4, b5, b6, b7].take 5).flatMap be4 ++ be4 b5 from rfl, HY.out]; exact hO5, hb5⟩
              case measure => simp [intOf]
            · have hix : ∀ w : World, (Instr.index 153 (.agg #[.int .u32 (b0 : Int), .int .u32 (b1 : Int), .int .u32 (b2 : Int), .int .u32 (b3 : Int), .int .u32 (b4 : Int), .int .u32 (b5 : Int), .int .u32 (b6 : Int), .int .u32 (b7 : Int)]) (.int .i64 6)).run Tryz.prog w = .ok (.int .u32 (b6 : Int)) w := fun _ => by kernel_rfl
              go_wp2_with (with_reducible refine at_slot 71 ?_
                           refine wpList_append_u8 u8 rfl (.tmp 58) (.tmp 70) rfl w9.heap.size _ Y _ 4 4 (be4 b6) (wr.heap.size + 1) rfl rfl (hO.alloc _) (rd_lit _ _ (be4_cells b6 m6)) rfl (by have := HYL.out; omega) (by have := hbr.size; simp; omega) ?_
                           intro v5 w5 hO5 hg5 hat5
                           have hb5 := below_grown (hbr.alloc hbr.size _) hg5 (by have := hbr.size; simp; omega) (hO.alloc _) (Nat.le_refl _)
                           obtain ⟨A5, c5, rfl, _, _⟩ := hO5.form
                           rw [List.length_append, B4.out] at hO5)
              go_roundw
              case rel => exact ⟨6 + 1, by omega, by go_num, by rw [show ([b0, b1, b2, b3, b4, b5, b6, b7].take (6 + 1)).flatMap be4 = ([b0, b1, b2, b3, b4, b5, b6, b7].take 6).flatMap be4 ++ be4 b6 from rfl, HY.out]; exact hO5, hb5⟩
              case measure => simp [intOf]
            · have hix : ∀ w : World, (Instr.index 153 (.agg #[.int .u32 (b0 : Int), .int .u32 (b1 : Int), .int .u32 (b2 : Int), .int .u32 (b3 : Int), .int .u32 (b4 : Int), .int .u32 (b5 : Int), .int .u32 (b6 : Int), .int .u32 (b7 : Int)]) (.int .i64 7)).run Tryz.prog w = .ok (.int .u32 (b7 : Int)) w := fun _ => by kernel_rfl
              go_wp2_with (with_reducible refine at_slot 71 ?_
                           refine wpList_append_u8 u8 rfl (.tmp 58) (.tmp 70) rfl w9.heap.size _ Y _ 4 4 (be4 b7) (wr.heap.size + 1) rfl rfl (hO.alloc _) (rd_lit _ _ (be4_cells b7 m7)) rfl (by have := HYL.out; omega) (by have := hbr.size; simp; omega) ?_
                           intro v5 w5 hO5 hg5 hat5
                           have hb5 := below_grown (hbr.alloc hbr.size _) hg5 (by have := hbr.size; simp; omega) (hO.alloc _) (Nat.le_refl _)
                           obtain ⟨A5, c5, rfl, _, _⟩ := hO5.form
                           rw [List.length_append, B4.out] at hO5)
              go_roundw
              case rel => exact ⟨7 + 1, by omega, by go_num, by rw [show ([b0, b1, b2, b3, b4, b5, b6, b7].take (7 + 1)).flatMap be4 = ([b0, b1, b2, b3, b4, b5, b6, b7].take 7).flatMap be4 ++ be4 b7 from rfl, HY.out]; exact hO5, hb5⟩
              case measure => simp [intOf]
          · have hk8 : k = 8 := by omega
            subst hk8
            have hsh : sha L = ([b0, b1, b2, b3, b4, b5, b6, b7].take 8).flatMap be4 := by
              unfold sha
              rw [HE9.out]
              rfl
            have HSH := Lib.hid hsh
            have HO := Lib.hid hO
            have HBR := Lib.hid hbr
            clear hsh hO hbr be4_len
            go_wp2
            go_ret
            exact ⟨_, rfl, by rw [HSH.out]; exact HO.out.mono hs9, hb9.trans (HBR.out.mono hs9)⟩
end Go.Proofs.YtkgnnlglabihkaaGreatDoor.Sha
