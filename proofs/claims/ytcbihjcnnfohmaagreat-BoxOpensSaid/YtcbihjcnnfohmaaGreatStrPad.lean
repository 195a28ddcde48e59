/- The stream's pad: a nonce and a number in bytes; the pad's blocks behind a closure: contracts. -/
import Derived.Test.YtcbihjcnnfohmaaGreatAesThree
namespace Go.Proofs.YtcbihjcnnfohmaaGreat.Str
open Go Go.ChangeShapes Go.WideShapes Go.ChangeAt Go.RowKit Go.Proofs.YtcbihjcnnfohmaaGreat.Aes
set_option linter.unusedVariables false
set_option linter.unusedSimpArgs false

/-- byte i of eight -/
def b8 (n i : Nat) : UInt8 := UInt8.ofNat (n / 2 ^ (56 - 8 * i))
def be8 (n : Nat) : List UInt8 := (List.range 8).map (b8 n)
def cntL (a b : Nat) : Blk := be8 a ++ be8 b
theorem cntL_length (a b : Nat) : (cntL a b).length = 16 := by simp [cntL, be8]
def cu (a b : Nat) : Nat → Blk
  | 0 => List.replicate 16 0
  | t+1 => ((cu a b t).set t (b8 a t)).set (8 + t) (b8 b t)
theorem cu_length (a b : Nat) : ∀ t, (cu a b t).length = 16
  | 0 => by simp [cu]
  | t+1 => by rw [cu, List.length_set, List.length_set, cu_length a b t]
theorem cu_all (a b : Nat) : cu a b 8 = cntL a b := rfl
theorem b8_wrap {n i : Nat} {k : Int} (h : k = ((n / 2 ^ (56 - 8 * i) : Nat) : Int)) : IntKind.u8.wrap k = ((b8 n i).toNat : Int) := by
  subst h
  rw [IntKind.wrap_u8, b8, UInt8.toNat_ofNat']; omega
theorem shr_idx {t : Nat} (ht : t < 8) (a b : Nat) : ∃ m s qa qb : Nat, s ≤ 56 ∧ qa = a / 2 ^ (56 - 8 * t) ∧ qb = b / 2 ^ (56 - 8 * t) ∧ Hid (IntKind.i64.wrap (8 * (t : Int)) = (m : Int) ∧ IntKind.i64.wrap (56 - (m : Int)) = (s : Int) ∧ IntKind.i64.wrap (8 + (t : Int)) = ((8 + t : Nat) : Int) ∧ (a : Int) / 2 ^ s = (qa : Int) ∧ (b : Int) / 2 ^ s = (qb : Int)) := by
  refine ⟨8 * t, 56 - 8 * t, _, _, by omega, rfl, rfl, Lib.hid ⟨?_, ?_, ?_, by push_cast; rfl, by push_cast; rfl⟩⟩
  · rw [IntWalk.i64_in _ (by omega)]; push_cast; rfl
  · rw [IntWalk.i64_in _ (by omega)]; omega
  · rw [IntWalk.i64_in _ (by omega)]; push_cast; rfl
theorem at16 {l : List UInt8} (h : l.length = 16) {i : Nat} (hi : i < 16) : ∃ x, (bvs l)[i]? = some (bv x) := ⟨_, bvs_get (by omega)⟩
set_option maxRecDepth 100000 in
set_option maxHeartbeats 2000000 in
theorem counter_any (a b : Nat) (ha : a < 9223372036854775808) (hb : b < 9223372036854775808) (w : World) :
    Calls Tryz.prog 50 #[.int .i64 (a : Int), .int .i64 (b : Int)] w fun e w' => e = .returned (.slice (some ⟨w.heap.size, 0, none⟩) 16 16) ∧ RowV w' 5 w.heap.size (bvs (cntL a b)) ∧ Below w.heap.size w w' := by
  have HA := Lib.hid ha
  have HB := Lib.hid hb
  clear ha hb
  go_enter Tryz.func50, Tryz.ntmps50
  go_wp2_with (with_reducible refine at_slot 7 ?_
               refine wpList_make_u8 Go.Proofs.YtcbihjcnnfohmaaGreat.u8 rfl _ _ rfl .i64 .i64 _ _ 16 16 rfl rfl rfl rfl (by omega) (by omega) ?_)
  have hg0 : RowV (w.alloc (.cells (bvs (List.replicate 16 0)).toArray 5)) 5 w.heap.size (bvs (cu a b 0)) := heap_alloc_new w _
  have hw0 : Below w.heap.size w (w.alloc (.cells (bvs (List.replicate 16 0)).toArray 5)) := (Below.refl _ _).alloc (Nat.le_refl _) _
  go_loopw [8] (fun i wr => ∃ t : Nat, t ≤ 8 ∧ i = .int .i64 (t : Int) ∧ RowV wr 5 w.heap.size (bvs (cu a b t)) ∧ Below w.heap.size w wr) (fun i _ => 8 - (intOf i).toNat)
  case atStart => exact ⟨0, by omega, rfl, hg0, hw0⟩
  case round =>
    obtain ⟨t, ht, rfl, hgr, hwr⟩ := hrel
    clear hg0 hw0
    by_cases hlt : t < 8
    · obtain ⟨x0, hx0⟩ := at16 (cu_length a b t) (show t < 16 by omega)
      have c0 := hgr.cell hx0
      have f0 := hgr.frozen t
      have hs1 := hgr.set t (bv (b8 a t))
      rw [bvs_set] at hs1
      obtain ⟨x1, hx1⟩ := at16 (l := (cu a b t).set t (b8 a t)) (by rw [List.length_set, cu_length]) (show 8 + t < 16 by omega)
      have c1 := hs1.cell hx1
      have f1 := hs1.frozen (8 + t)
      have hs2 := hs1.set (8 + t) (bv (b8 b t))
      rw [bvs_set, show ((cu a b t).set t (b8 a t)).set (8 + t) (b8 b t) = cu a b (t+1) from rfl] at hs2
      have hw2 := below_setCell_ (below_setCell_ hwr (p := ⟨w.heap.size, t, none⟩) (Nat.le_refl _) (.int .u8 ((b8 a t).toNat : Int))) (p := ⟨w.heap.size, 8 + t, none⟩) (Nat.le_refl _) (.int .u8 ((b8 b t).toNat : Int))
      simp only [bv_int] at c0 c1 f1 hs2
      obtain ⟨m, s, qa, qb, hs56, hqa, hqb, HE⟩ := shr_idx hlt a b
      have wa : IntKind.u8.wrap (qa : Int) = ((b8 a t).toNat : Int) := b8_wrap (by rw [hqa])
      have wb : IntKind.u8.wrap (qb : Int) = ((b8 b t).toNat : Int) := b8_wrap (by rw [hqb])
      have HS2 := Lib.hid hs2
      have HW2 := Lib.hid hw2
      have t8i : 8 + (t : Int) < 16 := by omega
      have t16i : (t : Int) < 16 := by omega
      clear hs1 hs2 hw2 hgr hwr hx0 hx1 hqa hqb
      generalize (b8 a t).toNat = ya at *
      generalize (b8 b t).toNat = yb at *
      generalize x0.toNat = z0 at *
      generalize x1.toNat = z1 at *
      obtain ⟨t8, ht8⟩ : ∃ t8, 8 + t = t8 := ⟨_, rfl⟩
      rw [ht8] at c1 f1 HS2 HW2 HE
      have t8l : (t8 : Int) < 16 := by omega
      have HT8 := Lib.hid ht8
      clear ht8
      obtain ⟨e1, e2, e3, e4, e5⟩ := HE.out
      go_wp2_with fail
      refine wp_region_held_drew (S := fun _ => True) (by kernel_rfl) (trivial) (fun hHeld => ?_)
      refine wpAnyH_take (i := 0) (v := ?_) rfl (by kernel_rfl) (by kernel_rfl) (by kernel_rfl) (fun _ _ _ h => h) (Or.inl ⟨by kernel_rfl, ?_⟩) (by assumption) ?_
      rotate_left
      · (intro w hSw; (try dsimp only at hSw); go_simp; first | done | with_reducible rfl)
      (try simp only [Act.put, List.setIfInBounds_toArray, List.set_cons_zero, List.set_cons_succ, List.getElem_toArray, List.getElem_cons_zero, List.getElem_cons_succ])
      refine wpAnyH_take (i := 1) (v := ?_) rfl (by kernel_rfl) (by kernel_rfl) (by kernel_rfl) (fun _ _ _ h => h) (Or.inl ⟨by kernel_rfl, ?_⟩) (by assumption) ?_
      rotate_left
      · (intro w hSw; (try dsimp only at hSw); go_simp; first | done | with_reducible rfl)
      (try simp only [Act.put, List.setIfInBounds_toArray, List.set_cons_zero, List.set_cons_succ, List.getElem_toArray, List.getElem_cons_zero, List.getElem_cons_succ])
      refine wpAnyH_take (i := 2) (v := ?_) rfl (by kernel_rfl) (by kernel_rfl) (by kernel_rfl) (fun _ _ _ h => h) (Or.inl ⟨by kernel_rfl, ?_⟩) (by assumption) ?_
      rotate_left
      · (intro w hSw; (try dsimp only at hSw); go_simp; first | done | with_reducible rfl)
      (try simp only [Act.put, List.setIfInBounds_toArray, List.set_cons_zero, List.set_cons_succ, List.getElem_toArray, List.getElem_cons_zero, List.getElem_cons_succ])
      refine wpAnyH_take (i := 3) (v := ?_) rfl (by kernel_rfl) (by kernel_rfl) (by kernel_rfl) (fun _ _ _ h => h) (Or.inl ⟨by kernel_rfl, ?_⟩) (by assumption) ?_
      rotate_left
      · (intro w hSw; (try dsimp only at hSw); go_simp; first | done | with_reducible rfl)
      (try simp only [Act.put, List.setIfInBounds_toArray, List.set_cons_zero, List.set_cons_succ, List.getElem_toArray, List.getElem_cons_zero, List.getElem_cons_succ])
      refine wpAnyH_take (i := 4) (v := ?_) rfl (by kernel_rfl) (by kernel_rfl) (by kernel_rfl) (fun _ _ _ h => h) (Or.inl ⟨by kernel_rfl, ?_⟩) (by assumption) ?_
      rotate_left
      · (intro w hSw; (try dsimp only at hSw); go_simp; first | done | with_reducible rfl)
      (try simp only [Act.put, List.setIfInBounds_toArray, List.set_cons_zero, List.set_cons_succ, List.getElem_toArray, List.getElem_cons_zero, List.getElem_cons_succ])
      refine wpAnyH_take (i := 5) (v := ?_) rfl (by kernel_rfl) (by kernel_rfl) (by kernel_rfl) (fun _ _ _ h => h) (Or.inl ⟨by kernel_rfl, ?_⟩) (by assumption) ?_
      rotate_left
      · (intro w hSw; (try dsimp only at hSw); go_simp; first | done | with_reducible rfl)
      (try simp only [Act.put, List.setIfInBounds_toArray, List.set_cons_zero, List.set_cons_succ, List.getElem_toArray, List.getElem_cons_zero, List.getElem_cons_succ])
      refine wpAnyH_take (i := 6) (v := ?_) rfl (by kernel_rfl) (by kernel_rfl) (by kernel_rfl) (fun _ _ _ h => h) (Or.inl ⟨by kernel_rfl, ?_⟩) (by assumption) ?_
      rotate_left
      · (intro w hSw; (try dsimp only at hSw); go_simp; first | done | with_reducible rfl)
      (try simp only [Act.put, List.setIfInBounds_toArray, List.set_cons_zero, List.set_cons_succ, List.getElem_toArray, List.getElem_cons_zero, List.getElem_cons_succ])
      refine wpAnyH_take (i := 7) (v := ?_) rfl (by kernel_rfl) (by kernel_rfl) (by kernel_rfl) (fun _ _ _ h => h) (Or.inl ⟨by kernel_rfl, ?_⟩) (by assumption) ?_
      rotate_left
      · (intro w hSw; (try dsimp only at hSw); go_simp; first | done | with_reducible rfl)
      (try simp only [Act.put, List.setIfInBounds_toArray, List.set_cons_zero, List.set_cons_succ, List.getElem_toArray, List.getElem_cons_zero, List.getElem_cons_succ])
      refine wpAnyH_take (i := 8) (v := ?_) rfl (by kernel_rfl) (by kernel_rfl) (by kernel_rfl) (fun _ _ _ h => h) (Or.inl ⟨by kernel_rfl, ?_⟩) (by assumption) ?_
      rotate_left
      · (intro w hSw; (try dsimp only at hSw); go_simp; first | done | with_reducible rfl)
      (try simp only [Act.put, List.setIfInBounds_toArray, List.set_cons_zero, List.set_cons_succ, List.getElem_toArray, List.getElem_cons_zero, List.getElem_cons_succ])
      refine wpAnyH_take (i := 9) (v := ?_) rfl (by kernel_rfl) (by kernel_rfl) (by kernel_rfl) (fun _ _ _ h => h) (Or.inl ⟨by kernel_rfl, ?_⟩) (by assumption) ?_
      rotate_left
      · (intro w hSw; (try dsimp only at hSw); go_simp; first | done | with_reducible rfl)
      (try simp only [Act.put, List.setIfInBounds_toArray, List.set_cons_zero, List.set_cons_succ, List.getElem_toArray, List.getElem_cons_zero, List.getElem_cons_succ])
      refine wpAnyH_take (i := 10) (v := ?_) rfl (by kernel_rfl) (by kernel_rfl) (by kernel_rfl) (fun _ _ _ h => h) (Or.inl ⟨by kernel_rfl, ?_⟩) (by assumption) ?_
      rotate_left
      · (intro w hSw; (try dsimp only at hSw); go_simp; first | done | with_reducible rfl)
      (try simp only [Act.put, List.setIfInBounds_toArray, List.set_cons_zero, List.set_cons_succ, List.getElem_toArray, List.getElem_cons_zero, List.getElem_cons_succ])
      refine wpAnyH_take (i := 11) (v := ?_) rfl (by kernel_rfl) (by kernel_rfl) (by kernel_rfl) (fun _ _ _ h => h) (Or.inl ⟨by kernel_rfl, ?_⟩) (by assumption) ?_
      rotate_left
      · (intro w hSw; (try dsimp only at hSw); go_simp; first | done | with_reducible rfl)
      (try simp only [Act.put, List.setIfInBounds_toArray, List.set_cons_zero, List.set_cons_succ, List.getElem_toArray, List.getElem_cons_zero, List.getElem_cons_succ])
      refine wpAnyH_take (i := 12) (v := ?_) rfl (by kernel_rfl) (by kernel_rfl) (by kernel_rfl) (fun _ _ _ h => h) (Or.inl ⟨by kernel_rfl, ?_⟩) (by assumption) ?_
      rotate_left
      · (intro w hSw; (try dsimp only at hSw); go_simp; first | done | with_reducible rfl)
      (try simp only [Act.put, List.setIfInBounds_toArray, List.set_cons_zero, List.set_cons_succ, List.getElem_toArray, List.getElem_cons_zero, List.getElem_cons_succ])
      refine wpAnyH_take (i := 13) (v := ?_) rfl (by kernel_rfl) (by kernel_rfl) (by kernel_rfl) (fun _ _ _ h => h) (Or.inl ⟨by kernel_rfl, ?_⟩) (by assumption) ?_
      rotate_left
      · (intro w hSw; (try dsimp only at hSw); go_simp; first | done | with_reducible rfl)
      (try simp only [Act.put, List.setIfInBounds_toArray, List.set_cons_zero, List.set_cons_succ, List.getElem_toArray, List.getElem_cons_zero, List.getElem_cons_succ])
      refine wpAnyH_take (i := 14) (v := ?_) rfl (by kernel_rfl) (by kernel_rfl) (by kernel_rfl) (fun _ _ _ h => h) (Or.inl ⟨by kernel_rfl, ?_⟩) (by assumption) ?_
      rotate_left
      · (intro w hSw; (try dsimp only at hSw); go_simp; first | done | with_reducible rfl)
      (try simp only [Act.put, List.setIfInBounds_toArray, List.set_cons_zero, List.set_cons_succ, List.getElem_toArray, List.getElem_cons_zero, List.getElem_cons_succ])
      refine wpAnyH_take (i := 15) (v := ?_) rfl (by kernel_rfl) (by kernel_rfl) (by kernel_rfl) (fun _ _ _ h => h) (Or.inl ⟨by kernel_rfl, ?_⟩) (by assumption) ?_
      rotate_left
      · (intro w hSw; (try dsimp only at hSw); go_simp; first | done | with_reducible rfl)
      (try simp only [Act.put, List.setIfInBounds_toArray, List.set_cons_zero, List.set_cons_succ, List.getElem_toArray, List.getElem_cons_zero, List.getElem_cons_succ])
      refine wpAnyH_take (i := 16) (v := ?_) rfl (by kernel_rfl) (by kernel_rfl) (by kernel_rfl) (fun _ _ _ h => h) (Or.inl ⟨by kernel_rfl, ?_⟩) (by assumption) ?_
      rotate_left
      · (intro w hSw; (try dsimp only at hSw); go_simp; first | done | with_reducible rfl)
      (try simp only [Act.put, List.setIfInBounds_toArray, List.set_cons_zero, List.set_cons_succ, List.getElem_toArray, List.getElem_cons_zero, List.getElem_cons_succ])
      refine wpAnyH_take (i := 17) (v := ?_) rfl (by kernel_rfl) (by kernel_rfl) (by kernel_rfl) (fun _ _ _ h => h) (Or.inl ⟨by kernel_rfl, ?_⟩) (by assumption) ?_
      rotate_left
      · (intro w hSw; (try dsimp only at hSw); go_simp; first | done | with_reducible rfl)
      (try simp only [Act.put, List.setIfInBounds_toArray, List.set_cons_zero, List.set_cons_succ, List.getElem_toArray, List.getElem_cons_zero, List.getElem_cons_succ])
      refine wpAnyH_ready (rs := [18]) (by kernel_rfl) (by simp) ?_
      refine AllReadyH.cons rfl (fun KK hKK => ?_) AllReadyH.nil
      go_simp
      refine hKK.out _ _ ?_ (fun hHeld => ?_)
      · (trivial)
      clear hKK KK
      (try simp only [Act.put, List.setIfInBounds_toArray, List.set_cons_zero, List.set_cons_succ, List.getElem_toArray, List.getElem_cons_zero, List.getElem_cons_succ])
      refine wpAnyH_take (i := 19) (v := ?_) rfl (by kernel_rfl) (by kernel_rfl) (by kernel_rfl) (fun _ _ _ h => h) (Or.inl ⟨by kernel_rfl, ?_⟩) (by assumption) ?_
      rotate_left
      · (intro w hSw; (try dsimp only at hSw); go_simp; first | done | with_reducible rfl)
      (try simp only [Act.put, List.setIfInBounds_toArray, List.set_cons_zero, List.set_cons_succ, List.getElem_toArray, List.getElem_cons_zero, List.getElem_cons_succ])
      refine wpAnyH_ready (rs := [20]) (by kernel_rfl) (by simp) ?_
      refine AllReadyH.cons rfl (fun KK hKK => ?_) AllReadyH.nil
      go_simp
      refine hKK.out _ _ ?_ (fun hHeld => ?_)
      · (trivial)
      clear hKK KK
      (try simp only [Act.put, List.setIfInBounds_toArray, List.set_cons_zero, List.set_cons_succ, List.getElem_toArray, List.getElem_cons_zero, List.getElem_cons_succ])
      refine wpAnyH_done (by kernel_rfl) ?_ _
      clear e1 e2 e3 e4 e5
      go_wp2_with fail
      go_roundw
      case rel => exact ⟨t + 1, by omega, by go_num, HS2.out, HW2.out.drew⟩
      case measure => simp [intOf]; omega
    · have e8 : t = 8 := by omega
      subst e8
      rw [cu_all] at hgr
      have HG := Lib.hid hgr
      have HW := Lib.hid hwr
      clear hgr hwr
      go_wp2_with fail
      go_ret
      exact ⟨rfl, HG.out, HW.out⟩
end Go.Proofs.YtcbihjcnnfohmaaGreat.Str
