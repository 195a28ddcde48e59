/- The key's object; unmixing; the byte maps made: contracts. -/
import Derived.Test.YtkgnnlglabihkaaGreatDoorAesBlk
import Derived.Test.YtkgnnlglabihkaaGreatDoorAesTab
import Derived.Deep.RegionHeld3
namespace Go.Proofs.YtkgnnlglabihkaaGreatDoor.Aes
open Go Go.ChangeShapes Go.WideShapes Go.ChangeAt Go.RowKit Go.Proofs.YtkgnnlglabihkaaGreatDoor.Fld
set_option linter.unusedVariables false
set_option linter.unusedSimpArgs false

def mixN (s : Blk) : Nat → Blk
  | 0 => s
  | i+1 => mixL (mixN s i)
theorem mixN_length {s : Blk} (h : s.length = 16) : ∀ i, (mixN s i).length = 16
  | 0 => h
  | i+1 => colL_length _ _
/-! ### the key's object -/
def keyObj (raw rv : Value) (d st : Int) (bl ul : List UInt8) : List Value := [raw, .int .u32 d, .int .i32 st, .int .u32 0] ++ (bvs bl ++ (bvs ul ++ [rv]))
section
variable {raw rv : Value} {d st : Int} {bl ul : List UInt8}
theorem ko_raw : (keyObj raw rv d st bl ul)[0]? = some raw := rfl
theorem ko_done : (keyObj raw rv d st bl ul)[1]? = some (.int .u32 d) := rfl
theorem ko_state : (keyObj raw rv d st bl ul)[2]? = some (.int .i32 st) := rfl
theorem ko_box (hb : bl.length = 256) {i : Nat} {x : UInt8} (h : bl[i]? = some x) : (keyObj raw rv d st bl ul)[4 + i]? = some (bv x) := by
  have hi : i < bl.length := (List.getElem?_eq_some_iff.1 h).1
  unfold keyObj
  rw [List.getElem?_append_right (by show 4 ≤ 4 + i; omega), show 4 + i - [raw, Value.int .u32 d, .int .i32 st, .int .u32 0].length = i by show 4 + i - 4 = i; omega, List.getElem?_append_left (by rw [bvs_length]; exact hi)]
  simp [bvs, h]
theorem ko_unbox (hb : bl.length = 256) (hu : ul.length = 256) {i : Nat} {x : UInt8} (h : ul[i]? = some x) : (keyObj raw rv d st bl ul)[260 + i]? = some (bv x) := by
  have hi : i < ul.length := (List.getElem?_eq_some_iff.1 h).1
  unfold keyObj
  rw [List.getElem?_append_right (by show 4 ≤ 260 + i; omega), show 260 + i - [raw, Value.int .u32 d, .int .i32 st, .int .u32 0].length = 256 + i by show 260 + i - 4 = 256 + i; omega, List.getElem?_append_right (by rw [bvs_length, hb]; omega), bvs_length, hb, show 256 + i - 256 = i by omega,
    List.getElem?_append_left (by rw [bvs_length]; exact hi)]
  simp [bvs, h]
theorem ko_rv (hb : bl.length = 256) (hu : ul.length = 256) : (keyObj raw rv d st bl ul)[516]? = some rv := by
  unfold keyObj
  rw [List.getElem?_append_right (by show 4 ≤ 516; omega), show 516 - [raw, Value.int .u32 d, .int .i32 st, .int .u32 0].length = 512 from rfl, List.getElem?_append_right (by rw [bvs_length, hb]; omega), bvs_length, hb, show 512 - 256 = 256 from rfl,
    List.getElem?_append_right (by rw [bvs_length, hu]; exact Nat.le_refl _), bvs_length, hu]
  rfl
theorem ko_set_box (hb : bl.length = 256) {i : Nat} (hi : i < 256) (x : UInt8) : (keyObj raw rv d st bl ul).set (4 + i) (bv x) = keyObj raw rv d st (bl.set i x) ul := by
  unfold keyObj
  rw [List.set_append_right _ _ (by show 4 ≤ 4 + i; omega), show 4 + i - [raw, Value.int .u32 d, .int .i32 st, .int .u32 0].length = i by show 4 + i - 4 = i; omega, List.set_append_left _ _ (by rw [bvs_length, hb]; exact hi), bvs_set]
theorem ko_set_unbox (hb : bl.length = 256) (hu : ul.length = 256) {i : Nat} (hi : i < 256) (x : UInt8) : (keyObj raw rv d st bl ul).set (260 + i) (bv x) = keyObj raw rv d st bl (ul.set i x) := by
  unfold keyObj
  rw [List.set_append_right _ _ (by show 4 ≤ 260 + i; omega), show 260 + i - [raw, Value.int .u32 d, .int .i32 st, .int .u32 0].length = 256 + i by show 260 + i - 4 = 256 + i; omega, List.set_append_right _ _ (by rw [bvs_length, hb]; omega), bvs_length, hb, show 256 + i - 256 = i by omega,
    List.set_append_left _ _ (by rw [bvs_length, hu]; exact hi), bvs_set]
theorem ko_set_rv (hb : bl.length = 256) (hu : ul.length = 256) (v : Value) : (keyObj raw rv d st bl ul).set 516 v = keyObj raw v d st bl ul := by
  unfold keyObj
  rw [List.set_append_right _ _ (by show 4 ≤ 516; omega), show 516 - [raw, Value.int .u32 d, .int .i32 st, .int .u32 0].length = 512 from rfl, List.set_append_right _ _ (by rw [bvs_length, hb]; omega), bvs_length, hb, show 512 - 256 = 256 from rfl,
    List.set_append_right _ _ (by rw [bvs_length, hu]; exact Nat.le_refl _), bvs_length, hu]
  rfl
theorem ko_set_done (d' : Int) : (keyObj raw rv d st bl ul).set 1 (.int .u32 d') = keyObj raw rv d' st bl ul := rfl
theorem ko_set_state (s' : Int) : (keyObj raw rv d st bl ul).set 2 (.int .i32 s') = keyObj raw rv d s' bl ul := rfl
theorem tbl_box {w : World} {g : Nat} (h : RowV w 117 g (keyObj raw rv d st sbs ul)) : Tbl w g 4 sb := fun x => h.cell (ko_box sbs_length (sbs_at x))
theorem tbl_unbox {w : World} {g : Nat} (h : RowV w 117 g (keyObj raw rv d st sbs uss)) : Tbl w g 260 us := fun x => h.cell (ko_unbox sbs_length uss_length (uss_at x))
end
theorem at256 {l : List UInt8} (h : l.length = 256) {i : Nat} (hi : i < 256) : ∃ x, l[i]? = some x := ⟨_, List.getElem?_eq_getElem (by omega)⟩
set_option maxRecDepth 100000 in
set_option maxHeartbeats 2000000 in
theorem maps_any (g : Nat) (raw rv : Value) (d st : Int) (w : World) (hg : RowV w 117 g (keyObj raw rv d st (bx 0) (ux 0))) :
    Calls Tryz.prog 112 #[.pointer (some ⟨g, 0, none⟩)] w fun e w' => e = .returned (.tuple #[]) ∧ RowV w' 117 g (keyObj raw rv d st sbs uss) ∧ Frame (But w g) w w' := by
  go_enter Tryz.func112, Tryz.ntmps112
  go_wp2_with fail
  have HG := Lib.hid hg
  clear hg
  go_loopw [4] (fun i wr => ∃ k : Nat, k ≤ 256 ∧ i = .int .i64 k ∧ RowV wr 117 g (keyObj raw rv d st (bx k) (ux k)) ∧ Frame (But w g) w wr) (fun i _ => 256 - (intOf i).toNat)
  case atStart => exact ⟨0, by omega, rfl, HG.out, Frame.refl _ _⟩
  case round =>
    obtain ⟨k, hk, rfl, hgr, hwr⟩ := hrel
    clear HG
    by_cases hlt : k < 256
    · have hb := bx_length hk
      have hu := ux_length k
      obtain ⟨x0, hx0⟩ := at256 hb hlt
      obtain ⟨x1, hx1⟩ := at256 hu (box_lt k hlt)
      have c0 := hgr.cell (ko_box (raw := raw) (rv := rv) (d := d) (st := st) (ul := ux k) hb hx0)
      have c1 := hgr.cell (ko_unbox (raw := raw) (rv := rv) (d := d) (st := st) hb hu hx1)
      have f0 := hgr.frozen (4 + k)
      have f1 := hgr.frozen (260 + box k)
      have s0 := hgr.set (4 + k) (bv (UInt8.ofNat (box k)))
      rw [ko_set_box hb hlt, bx_set hlt] at s0
      have c1' := s0.cell (ko_unbox (bx_length (show k + 1 ≤ 256 by omega)) hu hx1)
      have f1' := s0.frozen (260 + box k)
      have s1 := s0.set (260 + box k) (bv (UInt8.ofNat k))
      rw [ko_set_unbox (bx_length (show k + 1 ≤ 256 by omega)) hu (box_lt k hlt)] at s1
      have hbl := box_lt k hlt
      have e0 : bv (UInt8.ofNat (box k)) = .int .u8 ((box k : Nat) : Int) := by rw [bv_int, nat8 hbl]
      have e1 : bv (UInt8.ofNat k) = .int .u8 (k : Int) := by rw [bv_int, nat8 hlt]
      rw [e0] at s0 s1 c1' f1'
      rw [e1] at s1
      rw [bv_int] at c0 c1 c1'
      have hwr2 := (hwr.setCell (p := ⟨g, 4 + k, none⟩) (fun h => h.2 rfl) (.int .u8 ((box k : Nat) : Int))).setCell (p := ⟨g, 260 + box k, none⟩) (fun h => h.2 rfl) (.int .u8 (k : Int))
      have k0 : (0 : Int) ≤ (k : Int) := by omega
      have k1 : (k : Int) < 256 := by omega
      have kw : IntKind.u8.wrap (k : Int) = (k : Int) := IntWalk.u8_in _ (by omega)
      have hbx := Fld.box_any (k : Int) k0 k1 wr
      rw [Int.toNat_natCast] at hbx
      have HBX := Lib.hid hbx
      have HS1 := Lib.hid s1
      have HWR := Lib.hid hwr2
      have e2 : ux (k+1) = (ux k).set (box k) (UInt8.ofNat k) := rfl
      have HE2 := Lib.hid e2
      clear hbx s0 s1 hwr2 e0 e1 e2 hx0 hx1 hb hu hgr hwr
      generalize hq : box k = q at *
      have q1 : (q : Int) < 256 := by omega
      have HQ := Lib.hid hq
      clear hq
      generalize x0.toNat = y0 at *
      generalize x1.toNat = y1 at *
      go_wp2_with fail
      refine HBX.out.mono ?_
      rintro e w' ⟨rfl, rfl⟩
      clear HBX
      go_wp2_with fail
      refine wp_region_held_drew (S := fun _ => True) (by kernel_rfl) (trivial) (fun hHeld => ?_)
      refine wpAnyH_take (i := 0) (v := ?_) rfl (by kernel_rfl) (by kernel_rfl) (by kernel_rfl) (fun _ _ _ h => h) (Or.inl ⟨by kernel_rfl, ?_⟩) (by assumption) ?_
      rotate_left
      · (intro w hSw; (try dsimp only at hSw); go_simp; first | done | with_reducible rfl)
      (try simp only [Act.put, List.setIfInBounds_toArray, List.set_cons_zero, List.set_cons_succ, List.getElem_toArray, List.getElem_cons_zero, List.getElem_cons_succ])
      refine wpAnyH_take (i := 1) (v := ?_) rfl (by kernel_rfl) (by kernel_rfl) (by kernel_rfl) (fun _ _ _ h => h) (Or.inl ⟨by kernel_rfl, ?_⟩) (by assumption) ?_
      rotate_left
      · (intro w hSw; (try dsimp only at hSw); go_simp; first | done | with_reducible rfl)
      (try simp only [Act.put, List.setIfInBounds_toArray, List.set_cons_zero, List.set_cons_succ, List.getElem_toArray, List.getElem_cons_zero, List.getElem_cons_succ])
      refine wpAnyH_take (i := 2) (v := ?_) rfl (by kernel_rfl) (by kernel_rfl) (by kernel_rfl) (fun _ _ _ h => h) (Or.inl ⟨by kernel_rfl, ?_⟩) (by assumption) ?_
      rotate_left
      · (intro w hSw; (try dsimp only at hSw); go_simp; first | done | with_reducible rfl)
      (try simp only [Act.put, List.setIfInBounds_toArray, List.set_cons_zero, List.set_cons_succ, List.getElem_toArray, List.getElem_cons_zero, List.getElem_cons_succ])
      refine wpAnyH_take (i := 3) (v := ?_) rfl (by kernel_rfl) (by kernel_rfl) (by kernel_rfl) (fun _ _ _ h => h) (Or.inl ⟨by kernel_rfl, ?_⟩) (by assumption) ?_
      rotate_left
      · (intro w hSw; (try dsimp only at hSw); go_simp; first | done | with_reducible rfl)
      (try simp only [Act.put, List.setIfInBounds_toArray, List.set_cons_zero, List.set_cons_succ, List.getElem_toArray, List.getElem_cons_zero, List.getElem_cons_succ])
      refine wpAnyH_take (i := 4) (v := ?_) rfl (by kernel_rfl) (by kernel_rfl) (by kernel_rfl) (fun _ _ _ h => h) (Or.inl ⟨by kernel_rfl, ?_⟩) (by assumption) ?_
      rotate_left
      · (intro w hSw; (try dsimp only at hSw); go_simp; first | done | with_reducible rfl)
      (try simp only [Act.put, List.setIfInBounds_toArray, List.set_cons_zero, List.set_cons_succ, List.getElem_toArray, List.getElem_cons_zero, List.getElem_cons_succ])
      refine wpAnyH_take (i := 5) (v := ?_) rfl (by kernel_rfl) (by kernel_rfl) (by kernel_rfl) (fun _ _ _ h => h) (Or.inl ⟨by kernel_rfl, ?_⟩) (by assumption) ?_
      rotate_left
      · (intro w hSw; (try dsimp only at hSw); go_simp; first | done | with_reducible rfl)
      (try simp only [Act.put, List.setIfInBounds_toArray, List.set_cons_zero, List.set_cons_succ, List.getElem_toArray, List.getElem_cons_zero, List.getElem_cons_succ])
      refine wpAnyH_take (i := 6) (v := ?_) rfl (by kernel_rfl) (by kernel_rfl) (by kernel_rfl) (fun _ _ _ h => h) (Or.inl ⟨by kernel_rfl, ?_⟩) (by assumption) ?_
      rotate_left
      · (intro w hSw; (try dsimp only at hSw); go_simp; first | done | with_reducible rfl)
      (try simp only [Act.put, List.setIfInBounds_toArray, List.set_cons_zero, List.set_cons_succ, List.getElem_toArray, List.getElem_cons_zero, List.getElem_cons_succ])
      refine wpAnyH_take (i := 7) (v := ?_) rfl (by kernel_rfl) (by kernel_rfl) (by kernel_rfl) (fun _ _ _ h => h) (Or.inl ⟨by kernel_rfl, ?_⟩) (by assumption) ?_
      rotate_left
      · (intro w hSw; (try dsimp only at hSw); go_simp; first | done | with_reducible rfl)
      (try simp only [Act.put, List.setIfInBounds_toArray, List.set_cons_zero, List.set_cons_succ, List.getElem_toArray, List.getElem_cons_zero, List.getElem_cons_succ])
      refine wpAnyH_take (i := 8) (v := ?_) rfl (by kernel_rfl) (by kernel_rfl) (by kernel_rfl) (fun _ _ _ h => h) (Or.inl ⟨by kernel_rfl, ?_⟩) (by assumption) ?_
      rotate_left
      · (intro w hSw; (try dsimp only at hSw); go_simp; first | done | with_reducible rfl)
      (try simp only [Act.put, List.setIfInBounds_toArray, List.set_cons_zero, List.set_cons_succ, List.getElem_toArray, List.getElem_cons_zero, List.getElem_cons_succ])
      refine wpAnyH_take (i := 9) (v := ?_) rfl (by kernel_rfl) (by kernel_rfl) (by kernel_rfl) (fun _ _ _ h => h) (Or.inl ⟨by kernel_rfl, ?_⟩) (by assumption) ?_
      rotate_left
      · (intro w hSw; (try dsimp only at hSw); go_simp; first | done | with_reducible rfl)
      (try simp only [Act.put, List.setIfInBounds_toArray, List.set_cons_zero, List.set_cons_succ, List.getElem_toArray, List.getElem_cons_zero, List.getElem_cons_succ])
      refine wpAnyH_take (i := 11) (v := ?_) rfl (by kernel_rfl) (by kernel_rfl) (by kernel_rfl) (fun _ _ _ h => h) (Or.inl ⟨by kernel_rfl, ?_⟩) (by assumption) ?_
      rotate_left
      · (intro w hSw; (try dsimp only at hSw); go_simp; first | done | with_reducible rfl)
      (try simp only [Act.put, List.setIfInBounds_toArray, List.set_cons_zero, List.set_cons_succ, List.getElem_toArray, List.getElem_cons_zero, List.getElem_cons_succ])
      refine wpAnyH_take (i := 12) (v := ?_) rfl (by kernel_rfl) (by kernel_rfl) (by kernel_rfl) (fun _ _ _ h => h) (Or.inl ⟨by kernel_rfl, ?_⟩) (by assumption) ?_
      rotate_left
      · (intro w hSw; (try dsimp only at hSw); go_simp; first | done | with_reducible rfl)
      (try simp only [Act.put, List.setIfInBounds_toArray, List.set_cons_zero, List.set_cons_succ, List.getElem_toArray, List.getElem_cons_zero, List.getElem_cons_succ])
      refine wpAnyH_ready (rs := [10]) (by kernel_rfl) (by simp) ?_
      refine AllReadyH.cons rfl (fun KK hKK => ?_) AllReadyH.nil
      go_simp
      refine hKK.out _ _ ?_ (fun hHeld => ?_)
      · (trivial)
      clear hKK KK
      (try simp only [Act.put, List.setIfInBounds_toArray, List.set_cons_zero, List.set_cons_succ, List.getElem_toArray, List.getElem_cons_zero, List.getElem_cons_succ])
      refine wpAnyH_take (i := 13) (v := ?_) rfl (by kernel_rfl) (by kernel_rfl) (by kernel_rfl) (fun _ _ _ h => h) (Or.inl ⟨by kernel_rfl, ?_⟩) (by assumption) ?_
      rotate_left
      · (intro w hSw; (try dsimp only at hSw); go_simp; first | done | with_reducible rfl)
      (try simp only [Act.put, List.setIfInBounds_toArray, List.set_cons_zero, List.set_cons_succ, List.getElem_toArray, List.getElem_cons_zero, List.getElem_cons_succ])
      refine wpAnyH_ready (rs := [14]) (by kernel_rfl) (by simp) ?_
      refine AllReadyH.cons rfl (fun KK hKK => ?_) AllReadyH.nil
      go_simp
      refine hKK.out _ _ ?_ (fun hHeld => ?_)
      · (trivial)
      clear hKK KK
      (try simp only [Act.put, List.setIfInBounds_toArray, List.set_cons_zero, List.set_cons_succ, List.getElem_toArray, List.getElem_cons_zero, List.getElem_cons_succ])
      refine wpAnyH_done (by kernel_rfl) ?_ _
      go_wp2_with fail
      go_roundw
      case rel => exact ⟨k + 1, by omega, by go_num, (by rw [HE2.out]; exact HS1.out), HWR.out.drew⟩
      case measure => simp [intOf]; omega
    · have e3 : k = 256 := by omega
      subst e3
      rw [bx_all, ux_all] at hgr
      have HGR := Lib.hid hgr
      have HWR := Lib.hid hwr
      clear hgr hwr
      go_wp2_with fail
      go_end0
      exact ⟨rfl, HGR.out, HWR.out⟩
end Go.Proofs.YtkgnnlglabihkaaGreatDoor.Aes
