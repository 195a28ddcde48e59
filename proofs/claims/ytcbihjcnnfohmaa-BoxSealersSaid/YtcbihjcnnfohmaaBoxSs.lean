/- A sealer seals with the next nonce. A contract. -/
import Derived.Test.YtcbihjcnnfohmaaBoxSe
import Derived.Deep.RegionHeld
import Derived.Deep.DrawnRows
namespace Go.Proofs.Ytcbihjcnnfohmaa.Box
open Go Go.ChangeShapes Go.WideShapes Go.ChangeAt Go.RowKit Go.Proofs.Ytcbihjcnnfohmaa.Aes Go.Proofs.Ytcbihjcnnfohmaa.Str Go.Proofs.Ytcbihjcnnfohmaa.Mac
set_option linter.unusedVariables false
set_option linter.unusedSimpArgs false
theorem rd_low {w : World} {B : Nat} {A : Option Addr} {l : List UInt8} (h : Rd w B A l) {p : Addr} (u : Value) (hp : B ≤ p.block) : Rd (w.setCell p u) B A l := fun h0 => by
  obtain ⟨ad, e, hb, hc⟩ := h h0
  refine ⟨ad, e, hb, fun j hj => ?_⟩
  rw [← hc j hj]
  exact World.cell?_of_block (by rw [add_block]; exact heap_setCell_other w p ad.block u (by omega))
/-- what Seal leaves -/
def Sealed (w w' : World) (base g : Nat) (enc tag : List UInt8) (nx : Nat) (about p : List UInt8) (v : Value) : Prop :=
  OwnB w' 5 w.heap.size v (sealL enc tag nx about p) ∧ SeaE w' base g enc tag (nx + 1) ∧ Frame (fun k => k < w.heap.size ∧ k ≠ g) w w'
set_option maxRecDepth 100000 in
set_option maxHeartbeats 2000000 in
theorem sseal_yes (base g nx : Nat) (enc tag : List UInt8) (Aa : Option Addr) (na ca : Nat) (about : List UInt8) (Ap : Option Addr) (np cp : Nat) (p : List UInt8) (w : World) (h : SeaE w base g enc tag nx) (hk : KeyOk enc) (ht30 : tag.length ≤ 1073741824) (hnx : nx < 9223372036854775807)
    (hal : about.length = na) (ha30 : na ≤ 1073741824) (hac : na ≤ ca) (ham : ca ≤ 9223372036854775807) (har : Rd w base Aa about) (hp : p.length = np) (hp6 : np ≤ 65536) (hrp : Rd w base Ap p) :
    Calls Try.prog 39 #[.pointer (some ⟨g, 0, none⟩), .slice Aa na ca, .slice Ap np cp] w fun e w' => ∃ gx, e = .returned (.tuple #[.slice (some ⟨gx, 0, none⟩) (24 + np) (24 + np), .int .i64 0]) ∧ Sealed w w' base g enc tag nx about p (.slice (some ⟨gx, 0, none⟩) (24 + np) (24 + np)) := by
  obtain ⟨A1, c1, A2, c2, hs⟩ := h
  have HTK := Lib.hid (take_yes g nx _ _ w hs.obj hnx)
  have hse := hs.turn (nx + 1)
  have hF1 : Frame (fun k => k < w.heap.size ∧ k ≠ g) w (w.setCell ⟨g, 2, none⟩ (.int .i64 ((nx + 1 : Nat) : Int))) := (Frame.refl _ _).setCell (fun hb => hb.2 rfl) _
  have hsz1 : (w.setCell ⟨g, 2, none⟩ (.int .i64 ((nx + 1 : Nat) : Int))).heap.size = w.heap.size := by simp
  have hra : Rd (w.setCell ⟨g, 2, none⟩ (.int .i64 ((nx + 1 : Nat) : Int))) (w.setCell ⟨g, 2, none⟩ (.int .i64 ((nx + 1 : Nat) : Int))).heap.size Aa about := by rw [hsz1]; exact (rd_low har _ hs.lo).more (Nat.le_trans hs.lo (Nat.le_of_lt hs.obj.lt))
  have hrq : Rd (w.setCell ⟨g, 2, none⟩ (.int .i64 ((nx + 1 : Nat) : Int))) (w.setCell ⟨g, 2, none⟩ (.int .i64 ((nx + 1 : Nat) : Int))).heap.size Ap p := by rw [hsz1]; exact (rd_low hrp _ hs.lo).more (Nat.le_trans hs.lo (Nat.le_of_lt hs.obj.lt))
  have HK := Lib.hid hk
  have HAL := Lib.hid hal
  have HA30 := Lib.hid ha30
  have HAC := Lib.hid hac
  have HAM := Lib.hid ham
  have HPL := Lib.hid hp
  have HP6 := Lib.hid hp6
  have HNX := Lib.hid (show nx < 9223372036854775808 by omega)
  obtain ⟨n1, hl1⟩ : ∃ n1, enc.length = n1 := ⟨_, rfl⟩
  obtain ⟨n2, hl2⟩ : ∃ n2, tag.length = n2 := ⟨_, rfl⟩
  have d1 : decide ((65536 : Int) < (np : Int)) = false := decide_eq_false (by omega)
  rw [hl2] at ht30
  have HT30 := Lib.hid ht30
  clear hs hk hal ha30 hac ham har hp hp6 hrp ht30 hnx
  go_enter Try.func39, Try.ntmps39
  go_wp2_with fail
  refine HTK.out.mono ?_
  rintro e w1 ⟨rfl, rfl⟩
  generalize w.setCell ⟨g, 2, none⟩ (.int .i64 ((nx + 1 : Nat) : Int)) = W at *
  have HSE := Lib.hid hse
  have HF1 := Lib.hid hF1
  have HRA := Lib.hid hra
  have HRP := Lib.hid hrq
  have HL1 := Lib.hid hl1
  have HL2 := Lib.hid hl2
  have HSZ := Lib.hid hsz1
  have x0 := hse.obj.cell (i := 0) rfl
  have x1 := hse.obj.cell (i := 1) rfl
  rw [hl1] at x0
  rw [hl2] at x1
  have hbd : Below W.heap.size W W.drew := (Below.refl _ _).drew
  clear hse hF1 hra hrq hl1 hl2 hsz1 HTK
  go_wp2_with fail
  refine wp_region_held_drew (S := fun w' => w'.cell? ⟨g, 0, none⟩ = some (.slice A1 n1 c1) ∧ w'.cell? ⟨g, 1, none⟩ = some (.slice A2 n2 c2)) (by kernel_rfl) (⟨x0, x1⟩) (fun hHeld => ?_)
  refine wpAnyH_take (i := 0) (v := ?_) rfl (by kernel_rfl) (by kernel_rfl) (by kernel_rfl) (fun _ _ _ h => h) (Or.inl ⟨by kernel_rfl, ?_⟩) (by assumption) ?_
  rotate_left
  · (intro w hSw; (try dsimp only at hSw); go_simp; first | done | with_reducible rfl)
  (try simp only [Act.put, List.setIfInBounds_toArray, List.set_cons_zero, List.set_cons_succ, List.getElem_toArray, List.getElem_cons_zero, List.getElem_cons_succ])
  refine wpAnyH_take (i := 1) (v := ?_) rfl (by kernel_rfl) (by kernel_rfl) (by kernel_rfl) (fun _ _ _ h => h) (Or.inl ⟨by kernel_rfl, ?_⟩) (by assumption) ?_
  rotate_left
  · (intro w hSw; (try dsimp only at hSw); go_simp; first | done | with_reducible rfl)
  (try simp only [Act.put, List.setIfInBounds_toArray, List.set_cons_zero, List.set_cons_succ, List.getElem_toArray, List.getElem_cons_zero, List.getElem_cons_succ])
  refine wpAnyH_take (i := 2) (v := ?_) rfl (by kernel_rfl) (by kernel_rfl) (by kernel_rfl) (fun _ _ _ h => h) (Or.inl ⟨by kernel_rfl, ?_⟩) (by assumption) ?_
  rotate_left
  · (intro w hSw; (try dsimp only at hSw); go_simp; first | done | with_reducible rfl)
  (try simp only [Act.put, List.setIfInBounds_toArray, List.set_cons_zero, List.set_cons_succ, List.getElem_toArray, List.getElem_cons_zero, List.getElem_cons_succ])
  refine wpAnyH_take (i := 3) (v := ?_) rfl (by kernel_rfl) (by kernel_rfl) (by kernel_rfl) (fun _ _ _ h => h) (Or.inl ⟨by kernel_rfl, ?_⟩) (by assumption) ?_
  rotate_left
  · (intro w hSw; (try dsimp only at hSw); go_simp; first | done | with_reducible rfl)
  (try simp only [Act.put, List.setIfInBounds_toArray, List.set_cons_zero, List.set_cons_succ, List.getElem_toArray, List.getElem_cons_zero, List.getElem_cons_succ])
  refine wpAnyH_take (i := 4) (v := ?_) rfl (by kernel_rfl) (by kernel_rfl) (by kernel_rfl) (fun _ _ _ h => h) (Or.inl ⟨by kernel_rfl, ?_⟩) (by assumption) ?_
  rotate_left
  · (intro w hSw; (try dsimp only at hSw); go_simp; first | done | with_reducible rfl)
  (try simp only [Act.put, List.setIfInBounds_toArray, List.set_cons_zero, List.set_cons_succ, List.getElem_toArray, List.getElem_cons_zero, List.getElem_cons_succ])
  refine wpAnyH_take (i := 5) (v := ?_) rfl (by kernel_rfl) (by kernel_rfl) (by kernel_rfl) (fun _ _ _ h => h) (Or.inl ⟨by kernel_rfl, ?_⟩) (by assumption) ?_
  rotate_left
  · (intro w hSw; (try dsimp only at hSw); go_simp; first | done | with_reducible rfl)
  (try simp only [Act.put, List.setIfInBounds_toArray, List.set_cons_zero, List.set_cons_succ, List.getElem_toArray, List.getElem_cons_zero, List.getElem_cons_succ])
  refine wpAnyH_take (i := 6) (v := ?_) rfl (by kernel_rfl) (by kernel_rfl) (by kernel_rfl) (fun _ _ _ h => h) (Or.inl ⟨by kernel_rfl, ?_⟩) (by assumption) ?_
  rotate_left
  · (intro w hSw; (try dsimp only at hSw); go_simp; first | done | with_reducible rfl)
  (try simp only [Act.put, List.setIfInBounds_toArray, List.set_cons_zero, List.set_cons_succ, List.getElem_toArray, List.getElem_cons_zero, List.getElem_cons_succ])
  refine wpAnyH_take (i := 7) (v := ?_) rfl (by kernel_rfl) (by kernel_rfl) (by kernel_rfl) (fun _ _ _ h => h) (Or.inl ⟨by kernel_rfl, ?_⟩) (by assumption) ?_
  rotate_left
  · (intro w hSw; (try dsimp only at hSw); go_simp; first | done | with_reducible rfl)
  (try simp only [Act.put, List.setIfInBounds_toArray, List.set_cons_zero, List.set_cons_succ, List.getElem_toArray, List.getElem_cons_zero, List.getElem_cons_succ])
  refine wpAnyH_take (i := 8) (v := ?_) rfl (by kernel_rfl) (by kernel_rfl) (by kernel_rfl) (fun _ _ _ h => h) (Or.inl ⟨by kernel_rfl, ?_⟩) (by assumption) ?_
  rotate_left
  · (intro w hSw; (try dsimp only at hSw); go_simp; first | done | with_reducible rfl)
  (try simp only [Act.put, List.setIfInBounds_toArray, List.set_cons_zero, List.set_cons_succ, List.getElem_toArray, List.getElem_cons_zero, List.getElem_cons_succ])
  refine wpAnyH_take (i := 9) (v := ?_) rfl (by kernel_rfl) (by kernel_rfl) (by kernel_rfl) (fun _ _ _ h => h) (Or.inl ⟨by kernel_rfl, ?_⟩) (by assumption) ?_
  rotate_left
  · (intro w hSw; (try dsimp only at hSw); go_simp; first | done | with_reducible rfl)
  (try simp only [Act.put, List.setIfInBounds_toArray, List.set_cons_zero, List.set_cons_succ, List.getElem_toArray, List.getElem_cons_zero, List.getElem_cons_succ])
  refine wpAnyH_take (i := 10) (v := ?_) rfl (by kernel_rfl) (by kernel_rfl) (by kernel_rfl) (fun _ _ _ h => h) (Or.inl ⟨by kernel_rfl, ?_⟩) (by assumption) ?_
  rotate_left
  · (intro w hSw; (try dsimp only at hSw); go_simp; first | done | with_reducible rfl)
  (try simp only [Act.put, List.setIfInBounds_toArray, List.set_cons_zero, List.set_cons_succ, List.getElem_toArray, List.getElem_cons_zero, List.getElem_cons_succ])
  refine wpAnyH_ready (rs := [11]) (by kernel_rfl) (by simp) ?_
  refine AllReadyH.cons rfl (fun KK hKK => ?_) AllReadyH.nil
  go_simp
  refine (seal_yes A1 n1 c1 enc A2 n2 c2 tag nx Aa na ca about Ap np cp p W.drew HL1.out (rd_now HSE.out.e hbd) HK.out HL2.out HT30.out (rd_now HSE.out.t hbd) HNX.out HAL.out HA30.out HAC.out HAM.out (rd_now HRA.out hbd) HPL.out HP6.out (rd_now HRP.out hbd)).mono ?_
  rintro e w3 ⟨gx, mx, rfl, hmx, hO3, hb3⟩
  have hbW : Below W.heap.size W w3 := hbd.trans hb3
  have hS3 := HSE.out.below_ hbW
  have z0 := hS3.obj.cell (i := 0) rfl
  have z1 := hS3.obj.cell (i := 1) rfl
  rw [HL1.out] at z0
  rw [HL2.out] at z1
  have HO3 := Lib.hid hO3
  have HS3 := Lib.hid hS3
  have HBW := Lib.hid hbW
  subst hmx
  clear hO3 hb3 hbW hS3
  go_wp2_with fail
  refine hKK.out _ _ ?_ (fun hHeld => ?_)
  · (exact ⟨z0, z1⟩)
  clear hKK KK
  (try simp only [Act.put, List.setIfInBounds_toArray, List.set_cons_zero, List.set_cons_succ, List.getElem_toArray, List.getElem_cons_zero, List.getElem_cons_succ])
  refine wpAnyH_take (i := 12) (v := ?_) rfl (by kernel_rfl) (by kernel_rfl) (by kernel_rfl) (fun _ _ _ h => h) (Or.inl ⟨by kernel_rfl, ?_⟩) (by assumption) ?_
  rotate_left
  · (intro w hSw; (try dsimp only at hSw); go_simp; first | done | with_reducible rfl)
  (try simp only [Act.put, List.setIfInBounds_toArray, List.set_cons_zero, List.set_cons_succ, List.getElem_toArray, List.getElem_cons_zero, List.getElem_cons_succ])
  refine wpAnyH_take (i := 13) (v := ?_) rfl (by kernel_rfl) (by kernel_rfl) (by kernel_rfl) (fun _ _ _ h => h) (Or.inl ⟨by kernel_rfl, ?_⟩) (by assumption) ?_
  rotate_left
  · (intro w hSw; (try dsimp only at hSw); go_simp; first | done | with_reducible rfl)
  (try simp only [Act.put, List.setIfInBounds_toArray, List.set_cons_zero, List.set_cons_succ, List.getElem_toArray, List.getElem_cons_zero, List.getElem_cons_succ])
  refine wpAnyH_take (i := 14) (v := ?_) rfl (by kernel_rfl) (by kernel_rfl) (by kernel_rfl) (fun _ _ _ h => h) (Or.inl ⟨by kernel_rfl, ?_⟩) (by assumption) ?_
  rotate_left
  · (intro w hSw; (try dsimp only at hSw); go_simp; first | done | with_reducible rfl)
  (try simp only [Act.put, List.setIfInBounds_toArray, List.set_cons_zero, List.set_cons_succ, List.getElem_toArray, List.getElem_cons_zero, List.getElem_cons_succ])
  refine wpAnyH_take (i := 15) (v := ?_) rfl (by kernel_rfl) (by kernel_rfl) (by kernel_rfl) (fun _ _ _ h => h) (Or.inl ⟨by kernel_rfl, ?_⟩) (by assumption) ?_
  rotate_left
  · (intro w hSw; (try dsimp only at hSw); go_simp; first | done | with_reducible rfl)
  (try simp only [Act.put, List.setIfInBounds_toArray, List.set_cons_zero, List.set_cons_succ, List.getElem_toArray, List.getElem_cons_zero, List.getElem_cons_succ])
  refine wpAnyH_done (by kernel_rfl) ?_ _
  go_wp2_with fail
  go_ret2
  refine ⟨_, rfl, ?_, ⟨_, _, _, _, HS3.out⟩, HF1.out.trans (Frame.of_below (S := fun k => k < w.heap.size ∧ k ≠ g) HBW.out (fun b hb => by rw [HSZ.out]; exact hb.1)) (fun _ h => h)⟩
  have := HO3.out
  rw [← HSZ.out]
  exact this
set_option maxRecDepth 100000 in
set_option maxHeartbeats 1000000 in
theorem sseal_long (base g nx : Nat) (enc tag : List UInt8) (Aa : Option Addr) (na ca : Nat) (Ap : Option Addr) (np cp : Nat) (w : World) (hp6 : 65536 < np) :
    Calls Try.prog 39 #[.pointer (some ⟨g, 0, none⟩), .slice Aa na ca, .slice Ap np cp] w fun e w' => e = .returned (.tuple #[.slice none 0 0, .int .i64 2]) ∧ w = w' := by
  have d1 : decide ((65536 : Int) < (np : Int)) = true := decide_eq_true (by omega)
  go_enter Try.func39, Try.ntmps39
  go_wp2_with fail
  go_ret2
  exact ⟨rfl, rfl⟩
set_option maxRecDepth 100000 in
set_option maxHeartbeats 1000000 in
theorem sseal_end (base g : Nat) (enc tag : List UInt8) (Aa : Option Addr) (na ca : Nat) (Ap : Option Addr) (np cp : Nat) (w : World) (hp6 : np ≤ 65536) (h : SeaE w base g enc tag 9223372036854775807) :
    Calls Try.prog 39 #[.pointer (some ⟨g, 0, none⟩), .slice Aa na ca, .slice Ap np cp] w fun e w' => e = .returned (.tuple #[.slice none 0 0, .int .i64 2]) ∧ w = w' := by
  have d1 : decide ((65536 : Int) < (np : Int)) = false := decide_eq_false (by omega)
  obtain ⟨A1, c1, A2, c2, hs⟩ := h
  have HTK := Lib.hid (take_no g _ _ w hs.obj)
  clear hs
  go_enter Try.func39, Try.ntmps39
  go_wp2_with fail
  refine HTK.out.mono ?_
  rintro e w1 ⟨rfl, rfl⟩
  go_wp2_with fail
  go_ret2
  exact ⟨rfl, rfl⟩
end Go.Proofs.Ytcbihjcnnfohmaa.Box
