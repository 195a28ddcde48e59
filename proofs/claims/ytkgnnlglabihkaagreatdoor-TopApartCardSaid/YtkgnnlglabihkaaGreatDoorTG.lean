/- Vaults: the closure of (*Vault).key: a version's key kept. Contract. -/
import Derived.Test.YtkgnnlglabihkaaGreatDoorTF
namespace Go.Proofs.YtkgnnlglabihkaaGreatDoor.Top
open Go Go.ChangeShapes Go.WideShapes Go.ChangeAt Go.RowKit Go.Proofs.YtkgnnlglabihkaaGreatDoor.Aes Go.Proofs.YtkgnnlglabihkaaGreatDoor.Str Go.Proofs.YtkgnnlglabihkaaGreatDoor.Mac
set_option linter.unusedVariables false
set_option linter.unusedSimpArgs false
set_option maxRecDepth 100000 in
set_option maxHeartbeats 4000000 in
theorem vclos_any (D : Nat → Prop) (p0 p1 p2 : Addr) (vb rb o tn v : Nat) (master : List UInt8) (x : Value) (B : Nat) (w : World) (hT : Tb B w) (hB : B ≤ w.heap.size) (hBr : B ≤ rb) (t1 : 1 ≤ tn) (t64 : tn ≤ 64) (v1 : 1 ≤ v) (v2 : v ≤ 255)
    (h0 : w.cell? p0 = some (.pointer (some ⟨vb, 0, none⟩))) (h1 : w.cell? p1 = some (.int .i64 (v : Int))) (h2 : w.cell? p2 = some (.pointer (some ⟨vb, o, none⟩)))
    (l0 : p0.block < w.heap.size) (l1 : p1.block < w.heap.size) (l2 : p2.block < w.heap.size) (lv : vb < w.heap.size) (n0 : p0.block ≠ rb) (n1 : p1.block ≠ rb) (n2 : p2.block ≠ rb) (nv : vb ≠ rb) (m0 : p0.block ≠ vb) (m1 : p1.block ≠ vb) (m2 : p2.block ≠ vb) (ho : 3 ≤ o)
    (hc0 : w.cell? ⟨vb, 0, none⟩ = some (.pointer (some ⟨rb, 0, none⟩))) (hc1 : w.cell? ⟨vb, 1, none⟩ = some (.int .i64 (tn : Int))) (hx : w.cell? ⟨vb, o + 3, none⟩ = some x) (hf : w.frozen? ⟨vb, o + 3, none⟩ = false)
    (hR : Ring w D rb tn master) (hD : ∀ k, D k → k < w.heap.size) :
    Calls Tryz.prog 67 #[.pointer (some p0), .pointer (some p1), .pointer (some p2)] w fun e w' => e = .returned (.tuple #[]) ∧ ∃ w2 A1 c1, w' = w2.setCell ⟨vb, o + 3, none⟩ (.slice A1 32 c1) ∧ Own w2 5 w.heap.size (.slice A1 32 c1) (keyV master tn v) ∧ Ring w2 D rb tn master ∧ Frame (fun k => k < w.heap.size ∧ k ≠ rb) w w2 := by
  have HK := Lib.hid (rkey_any D rb tn v master B w.drew hT.drew hB hBr (hR.below ((Below.refl _ _).drew)) hD t1 t64 v1 v2)
  have HN := Lib.hid (And.intro (And.intro n0 (And.intro n1 n2)) nv)
  have M0 := Lib.hid m0
  have M1 := Lib.hid m1
  have M2 := Lib.hid m2
  have HO := Lib.hid ho
  have s0 : ∀ (w : World) (u : Value), (w.setCell ⟨vb, o + 3, none⟩ u).cell? p0 = w.cell? p0 := fun w u => World.cell?_setCell_other _ _ _ _ (fun e => M0.out (by first | exact congrArg Addr.block e | exact (congrArg Addr.block e).symm))
  have s1 : ∀ (w : World) (u : Value), (w.setCell ⟨vb, o + 3, none⟩ u).cell? p1 = w.cell? p1 := fun w u => World.cell?_setCell_other _ _ _ _ (fun e => M1.out (by first | exact congrArg Addr.block e | exact (congrArg Addr.block e).symm))
  have s2 : ∀ (w : World) (u : Value), (w.setCell ⟨vb, o + 3, none⟩ u).cell? p2 = w.cell? p2 := fun w u => World.cell?_setCell_other _ _ _ _ (fun e => M2.out (by first | exact congrArg Addr.block e | exact (congrArg Addr.block e).symm))
  have s3 : ∀ (w : World) (u : Value), (w.setCell ⟨vb, o + 3, none⟩ u).cell? ⟨vb, 0, none⟩ = w.cell? ⟨vb, 0, none⟩ := fun w u => World.cell?_setCell_other _ _ _ _ (fun e => by injection e; omega)
  have s4 : ∀ (w : World) (u : Value), (w.setCell ⟨vb, o + 3, none⟩ u).cell? ⟨vb, 1, none⟩ = w.cell? ⟨vb, 1, none⟩ := fun w u => World.cell?_setCell_other _ _ _ _ (fun e => by injection e; omega)
  have HS := Lib.hid (And.intro s0 (And.intro s1 (And.intro s2 (And.intro s3 s4))))
  clear s0 s1 s2 s3 s4 hT hB hBr t1 t64 v1 v2 n0 n1 n2 nv m0 m1 m2 ho hR hD
  go_enter Tryz.func67, Tryz.ntmps67
  refine wp_region_held_drew (S := fun w' => w'.cell? p0 = some (.pointer (some ⟨vb, 0, none⟩)) ∧ w'.cell? p1 = some (.int .i64 (v : Int)) ∧ w'.cell? p2 = some (.pointer (some ⟨vb, o, none⟩)) ∧ w'.cell? ⟨vb, 0, none⟩ = some (.pointer (some ⟨rb, 0, none⟩)) ∧ w'.cell? ⟨vb, 1, none⟩ = some (.int .i64 (tn : Int))) (by kernel_rfl) (⟨h0, h1, h2, hc0, hc1⟩) (fun hHeld => ?_)
  refine wpAnyH_take (i := 0) (v := ?_) rfl (by kernel_rfl) (by kernel_rfl) (by kernel_rfl) (fun _ _ _ h => h) (Or.inl ⟨by kernel_rfl, ?_⟩) (by assumption) ?_
  rotate_left
  · (intro w hSw; (try dsimp only at hSw); go_simp; first | done | with_reducible rfl)
  (try simp only [Act.put, List.setIfInBounds_toArray, List.set_cons_zero, List.set_cons_succ, List.getElem_toArray, List.getElem_cons_zero, List.getElem_cons_succ])
  refine wpAnyH_take (i := 1) (v := ?_) rfl (by kernel_rfl) (by kernel_rfl) (by kernel_rfl) (fun _ _ _ h => h) (Or.inl ⟨by kernel_rfl, ?_⟩) (by assumption) ?_
  rotate_left
  · (intro w hSw; (try dsimp only at hSw); go_simp; first | done | with_reducible rfl)
  (try simp only [Act.put, List.setIfInBounds_toArray, List.set_cons_zero, List.set_cons_succ, List.getElem_toArray, List.getElem_cons_zero, List.getElem_cons_succ])
  refine wpAnyH_take (i := 2) (v := ?_) rfl (by kernel_rfl) (by kernel_rfl) (by kernel_rfl) (fun _ _ _ h => h) (Or.inl ⟨by kernel_rfl, ?_⟩) (by assumption) ?_
  rotate_left
  · (intro w hSw; (try dsimp only at hSw); go_simp; first | done | with_reducible rfl)
  (try simp only [Act.put, List.setIfInBounds_toArray, List.set_cons_zero, List.set_cons_succ, List.getElem_toArray, List.getElem_cons_zero, List.getElem_cons_succ])
  refine wpAnyH_take (i := 3) (v := ?_) rfl (by kernel_rfl) (by kernel_rfl) (by kernel_rfl) (fun _ _ _ h => h) (Or.inl ⟨by kernel_rfl, ?_⟩) (by assumption) ?_
  rotate_left
  · (intro w hSw; (try dsimp only at hSw); go_simp; first | done | with_reducible rfl)
  (try simp only [Act.put, List.setIfInBounds_toArray, List.set_cons_zero, List.set_cons_succ, List.getElem_toArray, List.getElem_cons_zero, List.getElem_cons_succ])
  refine wpAnyH_take (i := 4) (v := ?_) rfl (by kernel_rfl) (by kernel_rfl) (by kernel_rfl) (fun _ _ _ h => h) (Or.inl ⟨by kernel_rfl, ?_⟩) (by assumption) ?_
  rotate_left
  · (intro w hSw; (try dsimp only at hSw); go_simp; first | done | with_reducible rfl)
  (try simp only [Act.put, List.setIfInBounds_toArray, List.set_cons_zero, List.set_cons_succ, List.getElem_toArray, List.getElem_cons_zero, List.getElem_cons_succ])
  refine wpAnyH_take (i := 5) (v := ?_) rfl (by kernel_rfl) (by kernel_rfl) (by kernel_rfl) (fun _ _ _ h => h) (Or.inl ⟨by kernel_rfl, ?_⟩) (by assumption) ?_
  rotate_left
  · (intro w hSw; (try dsimp only at hSw); go_simp; first | done | with_reducible rfl)
  (try simp only [Act.put, List.setIfInBounds_toArray, List.set_cons_zero, List.set_cons_succ, List.getElem_toArray, List.getElem_cons_zero, List.getElem_cons_succ])
  refine wpAnyH_take (i := 6) (v := ?_) rfl (by kernel_rfl) (by kernel_rfl) (by kernel_rfl) (fun _ _ _ h => h) (Or.inl ⟨by kernel_rfl, ?_⟩) (by assumption) ?_
  rotate_left
  · (intro w hSw; (try dsimp only at hSw); go_simp; first | done | with_reducible rfl)
  (try simp only [Act.put, List.setIfInBounds_toArray, List.set_cons_zero, List.set_cons_succ, List.getElem_toArray, List.getElem_cons_zero, List.getElem_cons_succ])
  refine wpAnyH_take (i := 7) (v := ?_) rfl (by kernel_rfl) (by kernel_rfl) (by kernel_rfl) (fun _ _ _ h => h) (Or.inl ⟨by kernel_rfl, ?_⟩) (by assumption) ?_
  rotate_left
  · (intro w hSw; (try dsimp only at hSw); go_simp; first | done | with_reducible rfl)
  (try simp only [Act.put, List.setIfInBounds_toArray, List.set_cons_zero, List.set_cons_succ, List.getElem_toArray, List.getElem_cons_zero, List.getElem_cons_succ])
  refine wpAnyH_take (i := 8) (v := ?_) rfl (by kernel_rfl) (by kernel_rfl) (by kernel_rfl) (fun _ _ _ h => h) (Or.inl ⟨by kernel_rfl, ?_⟩) (by assumption) ?_
  rotate_left
  · (intro w hSw; (try dsimp only at hSw); go_simp; first | done | with_reducible rfl)
  (try simp only [Act.put, List.setIfInBounds_toArray, List.set_cons_zero, List.set_cons_succ, List.getElem_toArray, List.getElem_cons_zero, List.getElem_cons_succ])
  refine wpAnyH_take (i := 9) (v := ?_) rfl (by kernel_rfl) (by kernel_rfl) (by kernel_rfl) (fun _ _ _ h => h) (Or.inl ⟨by kernel_rfl, ?_⟩) (by assumption) ?_
  rotate_left
  · (intro w hSw; (try dsimp only at hSw); go_simp; first | done | with_reducible rfl)
  (try simp only [Act.put, List.setIfInBounds_toArray, List.set_cons_zero, List.set_cons_succ, List.getElem_toArray, List.getElem_cons_zero, List.getElem_cons_succ])
  refine wpAnyH_ready (rs := [10]) (by kernel_rfl) (by simp) ?_
  refine AllReadyH.cons rfl (fun KK hKK => ?_) AllReadyH.nil
  go_simp
  refine HK.out.mono ?_
  rintro e w2 ⟨A1, c1, rfl, hO2, hR2, hF2⟩
  have hO2 := Lib.hid hO2
  have hR2 := Lib.hid hR2
  have hF2 := Lib.hid (show Frame (fun k => k < w.heap.size ∧ k ≠ rb) w w2 from (Frame.drew (Frame.refl _ w)).trans hF2 (fun k hk => hk))
  have e0 : w2.cell? p0 = some (.pointer (some ⟨vb, 0, none⟩)) := (World.cell?_of_block (hF2.out.block _ ⟨l0, HN.out.1.1⟩)).trans h0
  have e1 : w2.cell? p1 = some (.int .i64 (v : Int)) := (World.cell?_of_block (hF2.out.block _ ⟨l1, HN.out.1.2.1⟩)).trans h1
  have e2 : w2.cell? p2 = some (.pointer (some ⟨vb, o, none⟩)) := (World.cell?_of_block (hF2.out.block _ ⟨l2, HN.out.1.2.2⟩)).trans h2
  have e3 : w2.cell? ⟨vb, 0, none⟩ = some (.pointer (some ⟨rb, 0, none⟩)) := (World.cell?_of_block (a := ⟨vb, 0, none⟩) (hF2.out.block vb ⟨lv, HN.out.2⟩)).trans hc0
  have e4 : w2.cell? ⟨vb, 1, none⟩ = some (.int .i64 (tn : Int)) := (World.cell?_of_block (a := ⟨vb, 1, none⟩) (hF2.out.block vb ⟨lv, HN.out.2⟩)).trans hc1
  have ex : w2.cell? ⟨vb, o + 3, none⟩ = some x := (World.cell?_of_block (a := ⟨vb, o + 3, none⟩) (hF2.out.block vb ⟨lv, HN.out.2⟩)).trans hx
  have ef : w2.frozen? ⟨vb, o + 3, none⟩ = false := (World.frozen?_of_block (a := ⟨vb, o + 3, none⟩) (hF2.out.block vb ⟨lv, HN.out.2⟩)).trans hf
  go_wp2_with fail
  refine hKK.out _ _ ?_ (fun hHeld => ?_)
  · (exact ⟨e0, e1, e2, e3, e4⟩)
  clear hKK KK
  (try simp only [Act.put, List.setIfInBounds_toArray, List.set_cons_zero, List.set_cons_succ, List.getElem_toArray, List.getElem_cons_zero, List.getElem_cons_succ])
  refine wpAnyH_take (i := 11) (v := ?_) rfl (by kernel_rfl) (by kernel_rfl) (by kernel_rfl) (fun _ _ _ h => h) (Or.inl ⟨by kernel_rfl, ?_⟩) (by assumption) ?_
  rotate_left
  · (intro w hSw; (try dsimp only at hSw); go_simp; first | done | with_reducible rfl)
  (try simp only [Act.put, List.setIfInBounds_toArray, List.set_cons_zero, List.set_cons_succ, List.getElem_toArray, List.getElem_cons_zero, List.getElem_cons_succ])
  refine wpAnyH_take (i := 12) (v := ?_) rfl (by kernel_rfl) (by kernel_rfl) (by kernel_rfl) (fun _ _ _ h => h) (Or.inl ⟨by kernel_rfl, ?_⟩) (by assumption) ?_
  rotate_left
  · (intro w hSw; (try dsimp only at hSw); go_simp; first | done | with_reducible rfl)
  (try simp only [Act.put, List.setIfInBounds_toArray, List.set_cons_zero, List.set_cons_succ, List.getElem_toArray, List.getElem_cons_zero, List.getElem_cons_succ])
  refine wpAnyH_take (i := 13) (v := ?_) rfl (by kernel_rfl) (by kernel_rfl) (by kernel_rfl) (fun _ _ _ h => h) (Or.inl ⟨by kernel_rfl, ?_⟩) (by assumption) ?_
  rotate_left
  · (intro w hSw; (try dsimp only at hSw); go_simp; first | done | with_reducible rfl)
  (try simp only [Act.put, List.setIfInBounds_toArray, List.set_cons_zero, List.set_cons_succ, List.getElem_toArray, List.getElem_cons_zero, List.getElem_cons_succ])
  refine wpAnyH_take (i := 14) (v := ?_) rfl (by kernel_rfl) (by kernel_rfl) (by kernel_rfl) (fun _ _ _ h => h) (Or.inl ⟨by kernel_rfl, ?_⟩) (by assumption) ?_
  rotate_left
  · (intro w hSw; (try dsimp only at hSw); go_simp; first | done | with_reducible rfl)
  (try simp only [Act.put, List.setIfInBounds_toArray, List.set_cons_zero, List.set_cons_succ, List.getElem_toArray, List.getElem_cons_zero, List.getElem_cons_succ])
  refine wpAnyH_take (i := 15) (v := ?_) rfl (by kernel_rfl) (by kernel_rfl) (by kernel_rfl) (fun _ _ _ h => h) (Or.inl ⟨by kernel_rfl, ?_⟩) (by assumption) ?_
  rotate_left
  · (intro w hSw; (try dsimp only at hSw); go_simp; first | done | with_reducible rfl)
  (try simp only [Act.put, List.setIfInBounds_toArray, List.set_cons_zero, List.set_cons_succ, List.getElem_toArray, List.getElem_cons_zero, List.getElem_cons_succ])
  refine wpAnyH_ready (rs := [16]) (by kernel_rfl) (by simp) ?_
  refine AllReadyH.cons rfl (fun KK hKK => ?_) AllReadyH.nil
  go_simp
  refine hKK.out _ _ ?_ (fun hHeld => ?_)
  · (exact ⟨(HS.out.1 _ _).trans e0, (HS.out.2.1 _ _).trans e1, (HS.out.2.2.1 _ _).trans e2, (HS.out.2.2.2.1 _ _).trans e3, (HS.out.2.2.2.2 _ _).trans e4⟩)
  clear hKK KK
  (try simp only [Act.put, List.setIfInBounds_toArray, List.set_cons_zero, List.set_cons_succ, List.getElem_toArray, List.getElem_cons_zero, List.getElem_cons_succ])
  refine wpAnyH_done (by kernel_rfl) ?_ _
  go_wp2_with fail
  go_end0
  exact ⟨rfl, w2, A1, c1, rfl, hO2.out, hR2.out, hF2.out⟩
end Go.Proofs.YtkgnnlglabihkaaGreatDoor.Top

/- Vaults: a vault's state; Once.Do at a version's key. -/
namespace Go.Proofs.YtkgnnlglabihkaaGreatDoor.Top
open Go Go.ChangeShapes Go.WideShapes Go.ChangeAt Go.RowKit Go.Proofs.YtkgnnlglabihkaaGreatDoor.Aes Go.Proofs.YtkgnnlglabihkaaGreatDoor.Str Go.Proofs.YtkgnnlglabihkaaGreatDoor.Mac
set_option linter.unusedVariables false
set_option linter.unusedSimpArgs false
theorem SlotL.congr {w : World} {D : Nat → Prop} {cs cs' : List Value} {o : Nat} {k : List UInt8} (h : SlotL w D cs o k) (e : ∀ j, o ≤ j → j ≤ o + 3 → cs'[j]? = cs[j]?) : SlotL w D cs' o k := by
  rcases h with ⟨h0, h1, x, h3⟩ | ⟨h0, A, c, h3, hr⟩
  · exact .inl ⟨(e _ (by omega) (by omega)).trans h0, (e _ (by omega) (by omega)).trans h1, x, (e _ (by omega) (by omega)).trans h3⟩
  · exact .inr ⟨(e _ (by omega) (by omega)).trans h0, A, c, (e _ (by omega) (by omega)).trans h3, hr⟩
/-- a vault behind a pointer, with its ring -/
structure Vlt (w : World) (D : Nat → Prop) (vb rb tn now : Nat) (master : List UInt8) : Prop where
  inD : D vb
  ne : vb ≠ rb
  ring : Ring w D rb tn master
  row : ∃ cs, Aes.RowV w 68 vb cs ∧ cs[0]? = some (.pointer (some ⟨rb, 0, none⟩)) ∧ cs[1]? = some (.int .i64 (tn : Int)) ∧ cs[2]? = some (.int .i64 (now : Int)) ∧ ∀ i, i ≤ 255 → SlotL w D cs (3 + i * 4) (keyV master tn i)
theorem Vlt.frame {w w' : World} {D S : Nat → Prop} {vb rb tn now : Nat} {master : List UInt8} (h : Vlt w D vb rb tn now master) (hf : Frame S w w') (hS : ∀ k, Off w D k → S k) (hv : S vb) (hr : S rb) : Vlt w' D vb rb tn now master := by
  obtain ⟨cs, h1, h2, h3, h4, h5⟩ := h.row
  exact ⟨h.inD, h.ne, h.ring.frame hf hS hr, cs, h1.keep (hf.block vb hv), h2, h3, h4, fun i hi => (h5 i hi).frame hf hS⟩
theorem Vlt.lt {w : World} {D : Nat → Prop} {vb rb tn now : Nat} {master : List UInt8} (h : Vlt w D vb rb tn now master) : vb < w.heap.size ∧ rb < w.heap.size := by
  obtain ⟨cs, h1, _⟩ := h.row
  obtain ⟨cs2, h2, _⟩ := h.ring.row
  exact ⟨h1.lt, h2.lt⟩
theorem Vlt.below {w w' : World} {D : Nat → Prop} {vb rb tn now : Nat} {master : List UInt8} (h : Vlt w D vb rb tn now master) (hb : Below w.heap.size w w') : Vlt w' D vb rb tn now master :=
  h.frame (Frame.of_below hb (S := fun k => k < w.heap.size) (fun k hk => hk)) (fun k hk => hk.1) h.lt.1 h.lt.2
theorem cells_of {w : World} {D : Nat → Prop} {vb rb tn now : Nat} {master : List UInt8} (h : Vlt w D vb rb tn now master) :
    w.cell? ⟨vb, 0, none⟩ = some (.pointer (some ⟨rb, 0, none⟩)) ∧ w.cell? ⟨vb, 1, none⟩ = some (.int .i64 (tn : Int)) ∧ w.cell? ⟨vb, 2, none⟩ = some (.int .i64 (now : Int)) ∧ ∀ i, w.frozen? ⟨vb, i, none⟩ = false := by
  obtain ⟨cs, h1, h2, h3, h4, h5⟩ := h.row
  exact ⟨h1.cell h2, h1.cell h3, h1.cell h4, fun i => h1.frozen i⟩
set_option maxRecDepth 100000 in
set_option maxHeartbeats 1000000 in
theorem once_vault (D : Nat → Prop) (p0 p1 p2 : Addr) (vb rb tn now v base : Nat) (master : List UInt8) (B : Nat) (w : World) (hT : Tb B w) (hB : B ≤ w.heap.size) (hBr : B ≤ rb) (hBv : B ≤ vb) (t1 : 1 ≤ tn) (t64 : tn ≤ 64) (v1 : 1 ≤ v) (v2 : v ≤ 255)
    (h0 : w.cell? p0 = some (.pointer (some ⟨vb, 0, none⟩))) (h1 : w.cell? p1 = some (.int .i64 (v : Int))) (h2 : w.cell? p2 = some (.pointer (some ⟨vb, 3 + v * 4, none⟩)))
    (l0 : p0.block < w.heap.size) (l1 : p1.block < w.heap.size) (l2 : p2.block < w.heap.size) (n0 : p0.block ≠ rb) (n1 : p1.block ≠ rb) (n2 : p2.block ≠ rb) (m0 : p0.block ≠ vb) (m1 : p1.block ≠ vb) (m2 : p2.block ≠ vb)
    (hV : Vlt w D vb rb tn now master) (hD : ∀ k, D k → k < base) (hbase : base ≤ w.heap.size) :
    Calls Tryz.prog 40 #[.pointer (some ⟨vb, 3 + v * 4, none⟩), .func (.func 67) #[] #[.pointer (some p0), .pointer (some p1), .pointer (some p2)]] w
      fun e w' => e = .returned (.tuple #[]) ∧ Vlt w' D vb rb tn now master ∧ (∃ A c, w'.cell? ⟨vb, 3 + v * 4 + 3, none⟩ = some (.slice A 32 c) ∧ 32 ≤ c ∧ c ≤ 9223372036854775807 ∧ RdS w' (Off w' D) A (keyV master tn v)) ∧ Frame (fun k => k < w.heap.size ∧ k ≠ vb ∧ k ≠ rb) w w' := by
  obtain ⟨cs, hr, g0, g1, g2, hs⟩ := hV.row
  obtain ⟨lv, lr⟩ := hV.lt
  rcases id (hs v v2) with ⟨e0, e1, x, e3⟩ | hmade
  · have hr1 : Aes.RowV (w.setCell ⟨vb, 3 + v * 4 + 1, none⟩ (.int .i32 1)) 68 vb (cs.set (3 + v * 4 + 1) (.int .i32 1)) := hr.set _ _
    have hF1 : Frame (fun k => k < w.heap.size ∧ k ≠ vb) w (w.setCell ⟨vb, 3 + v * 4 + 1, none⟩ (.int .i32 1)) := Frame.setCell (Frame.refl _ w) (fun h => h.2 rfl) _
    have hz1 : (w.setCell ⟨vb, 3 + v * 4 + 1, none⟩ (.int .i32 1)).heap.size = w.heap.size := by simp
    have hR1 : Ring (w.setCell ⟨vb, 3 + v * 4 + 1, none⟩ (.int .i32 1)) D rb tn master := hV.ring.frame hF1 (fun k hk => ⟨hk.1, fun e => hk.2 (e ▸ hV.inD)⟩) ⟨lr, fun e => hV.ne e.symm⟩
    have hk := vclos_any D p0 p1 p2 vb rb (3 + v * 4) tn v master x B (w.setCell ⟨vb, 3 + v * 4 + 1, none⟩ (.int .i32 1)) (hT.on (hF1.toBelow (fun k hk => ⟨by omega, by omega⟩))) (by rw [hz1]; exact hB) hBr t1 t64 v1 v2
      ((World.cell?_of_block (hF1.block _ ⟨l0, m0⟩)).trans h0) ((World.cell?_of_block (hF1.block _ ⟨l1, m1⟩)).trans h1) ((World.cell?_of_block (hF1.block _ ⟨l2, m2⟩)).trans h2)
      (by rw [hz1]; exact l0) (by rw [hz1]; exact l1) (by rw [hz1]; exact l2) (by rw [hz1]; exact lv) n0 n1 n2 hV.ne m0 m1 m2 (by omega)
      (hr1.cell (by rw [set_off (by omega)]; exact g0)) (hr1.cell (by rw [set_off (by omega)]; exact g1)) (hr1.cell (by rw [set_off (by omega)]; exact e3)) (hr1.frozen _) hR1 (by rw [hz1]; exact fun k hk => Nat.lt_of_lt_of_le (hD k hk) hbase)
    rw [hz1] at hk
    have hdo := do_vault vb (3 + v * 4) p0 p1 p2 w (fun w' => ∃ w2 A1 c1, w' = w2.setCell ⟨vb, 3 + v * 4 + 3, none⟩ (.slice A1 32 c1) ∧ Own w2 5 w.heap.size (.slice A1 32 c1) (keyV master tn v) ∧ Ring w2 D rb tn master ∧ Frame (fun k => k < w.heap.size ∧ k ≠ rb) (w.setCell ⟨vb, 3 + v * 4 + 1, none⟩ (.int .i32 1)) w2)
      (hr.cell e0) (hr.cell e1) (hr.frozen _) (hk.mono ?_)
    · refine hdo.mono ?_
      rintro e w' ⟨rfl, w4, ⟨w2, A1, c1, rfl, hO, hR2, hb⟩, rfl⟩
      have hr2 : Aes.RowV w2 68 vb (cs.set (3 + v * 4 + 1) (.int .i32 1)) := hr1.keep (hb.block vb ⟨lv, hV.ne⟩)
      obtain ⟨cs', hr', hmade, hoth, hF⟩ := made_new (w := w) (o := 3 + v * 4) (D := D) (base := base) hD hV.inD hr2 ⟨_, by rw [set_off (by omega)]; exact e0⟩ ⟨_, set_at e1 _⟩ ⟨_, by rw [set_off (by omega)]; exact e3⟩ (hO.mono hbase)
      have hF12 : Frame (fun k => k < w.heap.size ∧ k ≠ vb ∧ k ≠ rb) w w2 := Frame.trans (hF1.mono (fun k hk => ⟨hk.1, hk.2.1⟩)) hb (fun k hk => ⟨hk.1, hk.2.2⟩)
      have hF2 : Frame (fun k => k < w.heap.size ∧ k ≠ vb ∧ k ≠ rb) w (((w2.setCell ⟨vb, 3 + v * 4 + 3, none⟩ (.slice A1 32 c1)).drew.setCell ⟨vb, 3 + v * 4, none⟩ (.int .u32 1)).setCell ⟨vb, 3 + v * 4 + 1, none⟩ (.int .i32 0)) :=
        Frame.trans hF12 hF (fun k hk => hk.2.1)
      have hR3 := hR2.frame hF (fun k hk e => hk.2 (e ▸ hV.inD)) (fun e => hV.ne e.symm)
      obtain ⟨m1', A2, c2, m2', m3, m4, m5, m6⟩ := id hmade
      have hcs : ∀ j, j < 3 → cs'[j]? = cs[j]? := fun j hj => by rw [hoth j (by omega), set_off (by omega)]
      refine ⟨rfl, ⟨hV.inD, hV.ne, hR3, cs', hr', (hcs 0 (by omega)).trans g0, (hcs 1 (by omega)).trans g1, (hcs 2 (by omega)).trans g2, fun i hi => ?_⟩, ⟨A2, c2, hr'.cell m2', m4, m5, m6⟩, hF2⟩
      by_cases hiv : i = v
      · subst hiv
        exact .inr hmade
      · refine SlotL.congr ((hs i hi).frame hF2 (fun k hk => ⟨hk.1, fun e => hk.2 (e ▸ hV.inD), fun e => hk.2 (e ▸ hV.ring.inD)⟩)) (fun j hj1 hj2 => ?_)
        rw [hoth j (by omega), set_off (by omega)]
    · rintro e w' ⟨rfl, w2, A1, c1, rfl, hO, hR2, hb⟩
      have hr2 : Aes.RowV w2 68 vb (cs.set (3 + v * 4 + 1) (.int .i32 1)) := hr1.keep (hb.block vb ⟨lv, hV.ne⟩)
      have hr3 := hr2.set (3 + v * 4 + 3) (.slice A1 32 c1)
      exact ⟨rfl, ⟨w2, A1, c1, rfl, hO, hR2, hb⟩, ⟨_, hr3.cell (by rw [set_off (by omega), set_off (by omega)]; exact e0)⟩, hr3.frozen _, hr3.cell (by rw [set_off (by omega)]; exact set_at e1 _), hr3.frozen _⟩
  · obtain ⟨m1', A2, c2, m2', m3, m4, m5, m6⟩ := id hmade
    refine (do_done ⟨vb, 3 + v * 4, none⟩ 1 (by omega) _ w (hr.cell m1')).mono ?_
    rintro e w' ⟨rfl, rfl⟩
    exact ⟨rfl, hV, ⟨A2, c2, hr.cell m2', m4, m5, m6⟩, Frame.refl _ _⟩
end Go.Proofs.YtkgnnlglabihkaaGreatDoor.Top

/- Vaults: (*Vault).key. Contract. -/
namespace Go.Proofs.YtkgnnlglabihkaaGreatDoor.Top
open Go Go.ChangeShapes Go.WideShapes Go.ChangeAt Go.RowKit Go.Proofs.YtkgnnlglabihkaaGreatDoor.Aes Go.Proofs.YtkgnnlglabihkaaGreatDoor.Str Go.Proofs.YtkgnnlglabihkaaGreatDoor.Mac
set_option linter.unusedVariables false
set_option linter.unusedSimpArgs false
set_option maxRecDepth 100000 in
set_option maxHeartbeats 4000000 in
theorem vkey_any (D : Nat → Prop) (vb rb tn now v : Nat) (master : List UInt8) (B : Nat) (w : World) (hT : Tb B w) (hB : B ≤ w.heap.size) (hBr : B ≤ rb) (hBv : B ≤ vb) (t1 : 1 ≤ tn) (t64 : tn ≤ 64) (v1 : 1 ≤ v) (v2 : v ≤ 255) (hV : Vlt w D vb rb tn now master) (hD : ∀ k, D k → k < w.heap.size) :
    Calls Tryz.prog 44 #[.pointer (some ⟨vb, 0, none⟩), .int .i64 (v : Int)] w fun e w' => ∃ A c, e = .returned (.slice A 32 c) ∧ 32 ≤ c ∧ c ≤ 9223372036854775807 ∧ RdS w' (Off w' D) A (keyV master tn v) ∧ Vlt w' D vb rb tn now master ∧ Frame (fun k => k < w.heap.size ∧ k ≠ vb ∧ k ≠ rb) w w' := by
  have t0 : (0 : Int) ≤ (v : Int) := by omega
  have t65 : (v : Int) < 256 := by omega
  have HP := Lib.hid (And.intro (And.intro hT (And.intro hB (And.intro hBr hBv))) (And.intro hV hD))
  have HQ := Lib.hid (And.intro (And.intro t1 t64) (And.intro v1 v2))
  have HL := Lib.hid hV.lt
  clear hT hB hBr hBv hV hD t1 t64 v1 v2
  obtain ⟨w1, hw1⟩ : ∃ w1, (w.alloc (.cells #[.pointer (some ⟨vb, 0, none⟩)] 24)).alloc (.cells #[.int .i64 (v : Int)] 3) = w1 := ⟨_, rfl⟩
  have hz1 : w1.heap.size = w.heap.size + 2 := by rw [← hw1]; simp
  have hbw1 : Below w.heap.size w w1 := by rw [← hw1]; exact ((Below.refl _ _).alloc (Nat.le_refl _) _).alloc (by simp) _
  have q0 : w1.cell? ⟨w.heap.size, 0, none⟩ = some (.pointer (some ⟨vb, 0, none⟩)) := by
    rw [← hw1]
    exact Aes.RowV.cell (Aes.RowV.alloc (heap_alloc_new w _) _) rfl
  have q1 : w1.cell? ⟨w.heap.size + 1, 0, none⟩ = some (.int .i64 (v : Int)) := by
    rw [← hw1]
    have h : Aes.RowV ((w.alloc (.cells #[.pointer (some ⟨vb, 0, none⟩)] 24)).alloc (.cells #[.int .i64 (v : Int)] 3)) 3 (w.alloc (.cells #[.pointer (some ⟨vb, 0, none⟩)] 24)).heap.size [.int .i64 (v : Int)] := heap_alloc_new _ _
    rw [World.size_alloc] at h
    exact h.cell rfl
  have HW := Lib.hid hbw1
  have HZ := Lib.hid hz1
  clear hbw1 hz1
  go_enter Tryz.func44, Tryz.ntmps44
  go_wp2_with fail
  clear hw1
  refine wp_region_last (S := fun w' => w'.cell? ⟨w.heap.size, 0, none⟩ = some (.pointer (some ⟨vb, 0, none⟩)) ∧ w'.cell? ⟨w.heap.size + 1, 0, none⟩ = some (.int .i64 (v : Int))) 6 (by kernel_rfl) (⟨q0, q1⟩) (fun hHeld => ?_)
  refine wpAnyS_take (i := 0) (v := ?_) rfl (by kernel_rfl) (by kernel_rfl) (by kernel_rfl) (by kernel_rfl) (fun _ _ _ h => h) (Or.inl ⟨by kernel_rfl, ?_⟩) (by assumption) ?_
  rotate_left
  · (intro w hSw; (try dsimp only at hSw); go_simp; first | done | with_reducible rfl)
  (try simp only [Act.put, List.setIfInBounds_toArray, List.set_cons_zero, List.set_cons_succ, List.getElem_toArray, List.getElem_cons_zero, List.getElem_cons_succ])
  refine wpAnyS_take (i := 1) (v := ?_) rfl (by kernel_rfl) (by kernel_rfl) (by kernel_rfl) (by kernel_rfl) (fun _ _ _ h => h) (Or.inl ⟨by kernel_rfl, ?_⟩) (by assumption) ?_
  rotate_left
  · (intro w hSw; (try dsimp only at hSw); go_simp; first | done | with_reducible rfl)
  (try simp only [Act.put, List.setIfInBounds_toArray, List.set_cons_zero, List.set_cons_succ, List.getElem_toArray, List.getElem_cons_zero, List.getElem_cons_succ])
  refine wpAnyS_take (i := 2) (v := ?_) rfl (by kernel_rfl) (by kernel_rfl) (by kernel_rfl) (by kernel_rfl) (fun _ _ _ h => h) (Or.inl ⟨by kernel_rfl, ?_⟩) (by assumption) ?_
  rotate_left
  · (intro w hSw; (try dsimp only at hSw); go_simp; first | done | with_reducible rfl)
  (try simp only [Act.put, List.setIfInBounds_toArray, List.set_cons_zero, List.set_cons_succ, List.getElem_toArray, List.getElem_cons_zero, List.getElem_cons_succ])
  refine wpAnyS_take (i := 3) (v := ?_) rfl (by kernel_rfl) (by kernel_rfl) (by kernel_rfl) (by kernel_rfl) (fun _ _ _ h => h) (Or.inl ⟨by kernel_rfl, ?_⟩) (by assumption) ?_
  rotate_left
  · (intro w hSw; (try dsimp only at hSw); go_simp; first | done | with_reducible rfl)
  (try simp only [Act.put, List.setIfInBounds_toArray, List.set_cons_zero, List.set_cons_succ, List.getElem_toArray, List.getElem_cons_zero, List.getElem_cons_succ])
  refine wpAnyS_take (i := 4) (v := ?_) rfl (by kernel_rfl) (by kernel_rfl) (by kernel_rfl) (by kernel_rfl) (fun _ _ _ h => h) (Or.inl ⟨by kernel_rfl, ?_⟩) (by assumption) ?_
  rotate_left
  · (intro w hSw; (try dsimp only at hSw); go_simp; first | done | with_reducible rfl)
  (try simp only [Act.put, List.setIfInBounds_toArray, List.set_cons_zero, List.set_cons_succ, List.getElem_toArray, List.getElem_cons_zero, List.getElem_cons_succ])
  refine wpAnyS_one (i := 5) (by kernel_rfl) rfl (fun KK hKK => ?_)
  go_simp
  refine hKK.out _ _ ?_ (fun hHeld => ?_)
  · (exact ⟨(cell_alloc w1 _ (p := ⟨w.heap.size, 0, none⟩) (by have := HZ.out; show w.heap.size < _; omega)).trans q0, (cell_alloc w1 _ (p := ⟨w.heap.size + 1, 0, none⟩) (by have := HZ.out; show w.heap.size + 1 < _; omega)).trans q1⟩)
  clear hKK KK
  (try simp only [Act.put, List.setIfInBounds_toArray, List.set_cons_zero, List.set_cons_succ, List.getElem_toArray, List.getElem_cons_zero, List.getElem_cons_succ])
  refine wpAnyS_last (by kernel_rfl) rfl (by kernel_rfl) (fun KK hKK => ?_)
  go_simp
  refine hKK.out _ _ ?_
  clear hKK KK
  (try simp only [Act.put, List.setIfInBounds_toArray, List.set_cons_zero, List.set_cons_succ, List.getElem_toArray, List.getElem_cons_zero, List.getElem_cons_succ])
  obtain ⟨wd, hwd⟩ : ∃ wd, (w1.alloc (.cells #[.pointer (some ⟨vb, 3 + v * 4, none⟩)] 133)).drew = wd := ⟨_, rfl⟩
  rw [hwd]
  have hzd : wd.heap.size = w1.heap.size + 1 := by rw [← hwd]; simp
  have hb1d : Below w1.heap.size w1 wd := by rw [← hwd]; exact ((Below.refl _ _).alloc (Nat.le_refl _) _).drew
  have r0 : wd.cell? ⟨w.heap.size, 0, none⟩ = some (.pointer (some ⟨vb, 0, none⟩)) := (hb1d.cell (p := ⟨w.heap.size, 0, none⟩) (by have := HZ.out; show w.heap.size < _; omega)).trans q0
  have r1 : wd.cell? ⟨w.heap.size + 1, 0, none⟩ = some (.int .i64 (v : Int)) := (hb1d.cell (p := ⟨w.heap.size + 1, 0, none⟩) (by have := HZ.out; show w.heap.size + 1 < _; omega)).trans q1
  have r2 : wd.cell? ⟨w1.heap.size, 0, none⟩ = some (.pointer (some ⟨vb, 3 + v * 4, none⟩)) := by rw [← hwd]; exact Aes.RowV.cell (heap_alloc_new w1 _ : Aes.RowV (w1.alloc (.cells #[.pointer (some ⟨vb, 3 + v * 4, none⟩)] 133)) 133 w1.heap.size [.pointer (some ⟨vb, 3 + v * 4, none⟩)]) rfl
  have hbwd : Below w.heap.size w wd := HW.out.trans (hb1d.mono (by have := HZ.out; omega))
  obtain ⟨⟨hT, hB, hBr, hBv⟩, hV, hD⟩ := HP.out
  have HO := Lib.hid (once_vault D ⟨w.heap.size, 0, none⟩ ⟨w.heap.size + 1, 0, none⟩ ⟨w1.heap.size, 0, none⟩ vb rb tn now v w.heap.size master B wd (hT.on (hbwd.mono hB)) (Nat.le_trans hB hbwd.size) hBr hBv HQ.out.1.1 HQ.out.1.2 HQ.out.2.1 HQ.out.2.2 r0 r1 r2
    (by have := HZ.out; show w.heap.size < _; omega) (by have := HZ.out; show w.heap.size + 1 < _; omega) (by show w1.heap.size < _; omega)
    (by have := HL.out.2; show w.heap.size ≠ _; omega) (by have := HL.out.2; show w.heap.size + 1 ≠ _; omega) (by have := HL.out.2; have := HZ.out; show w1.heap.size ≠ _; omega)
    (by have := HL.out.1; show w.heap.size ≠ _; omega) (by have := HL.out.1; show w.heap.size + 1 ≠ _; omega) (by have := HL.out.1; have := HZ.out; show w1.heap.size ≠ _; omega) (hV.below hbwd) hD hbwd.size)
  have HZD := Lib.hid hzd
  have HWD := Lib.hid hbwd
  clear hwd hzd hb1d hbwd hT hB hBr hBv hV hD q0 q1 r0 r1
  go_wp2_with fail
  refine HO.out.mono ?_
  rintro e w2 ⟨rfl, hV2, ⟨A2, c2, x2, hc1, hc2, hrd2⟩, hF2⟩
  have y2 : w2.cell? ⟨w1.heap.size, 0, none⟩ = some (.pointer (some ⟨vb, 3 + v * 4, none⟩)) := (World.cell?_of_block (a := ⟨w1.heap.size, 0, none⟩) (hF2.block w1.heap.size ⟨by have := HZD.out; omega, by have := HL.out.1; have := HZ.out; omega, by have := HL.out.2; have := HZ.out; omega⟩)).trans r2
  have HV2 := Lib.hid hV2
  have HRD2 := Lib.hid (And.intro (And.intro hc1 hc2) hrd2)
  have HF2 := Lib.hid (show Frame (fun k => k < w.heap.size ∧ k ≠ vb ∧ k ≠ rb) w w2 from (Frame.of_below HWD.out (S := fun k => k < w.heap.size ∧ k ≠ vb ∧ k ≠ rb) (fun k hk => hk.1)).trans hF2 (fun k hk => ⟨Nat.lt_of_lt_of_le hk.1 HWD.out.size, hk.2⟩))
  clear hF2 r2 hrd2 hV2 HO HWD HZD HP HQ HW hc1 hc2
  go_wp2_with fail
  go_ret
  exact ⟨A2, c2, rfl, HRD2.out.1.1, HRD2.out.1.2, HRD2.out.2, HV2.out, HF2.out⟩
end Go.Proofs.YtkgnnlglabihkaaGreatDoor.Top

/- Vaults: Version, Rotate, the atomic store; (*Ring).Key of what is no tenant or version. Contracts. -/
namespace Go.Proofs.YtkgnnlglabihkaaGreatDoor.Top
open Go Go.ChangeShapes Go.WideShapes Go.ChangeAt Go.RowKit Go.Proofs.YtkgnnlglabihkaaGreatDoor.Aes Go.Proofs.YtkgnnlglabihkaaGreatDoor.Str Go.Proofs.YtkgnnlglabihkaaGreatDoor.Mac
set_option linter.unusedVariables false
set_option linter.unusedSimpArgs false
set_option maxRecDepth 100000 in
theorem load64_any (a : Addr) (x : Int) (w : World) (h : w.cell? a = some (.int .i64 x)) :
    Calls Tryz.prog 38 #[.pointer (some a)] w fun e w' => e = .returned (.int .i64 x) ∧ w = w' := by
  have hl := run_call_load (P := Tryz.prog) Tryz.func63 (by kernel_rfl) (by kernel_rfl) (by kernel_rfl) .i64 (by kernel_rfl) h
  go_enter Tryz.func38, Tryz.ntmps38
  go_wp2_with fail
  go_ret
  exact ⟨rfl, rfl⟩
set_option maxRecDepth 100000 in
theorem store64_any (a : Addr) (u : Value) (y : Int) (w : World) (h : w.cell? a = some u) (hz : w.frozen? a = false) :
    Calls Tryz.prog 20 #[.pointer (some a), .int .i64 y] w fun e w' => e = .returned (.tuple #[]) ∧ w' = w.setCell a (.int .i64 y) := by
  have hst := run_call_store (P := Tryz.prog) Tryz.func43 (by kernel_rfl) (by kernel_rfl) (by kernel_rfl) (by kernel_rfl) (k := .i64) (y := y) h hz
  go_enter Tryz.func20, Tryz.ntmps20
  go_wp2_with fail
  go_end0
  exact ⟨rfl, rfl⟩
set_option maxRecDepth 100000 in
theorem cas64_any (a : Addr) (x y : Int) (w : World) (h : w.cell? a = some (.int .i64 x)) (hz : w.frozen? a = false) :
    Calls Tryz.prog 37 #[.pointer (some a), .int .i64 x, .int .i64 y] w fun e w' => e = .returned (.bool true) ∧ w' = w.setCell a (.int .i64 y) := by
  have hcas := run_call_cas_hit (P := Tryz.prog) Tryz.func62 (by kernel_rfl) (by kernel_rfl) (by kernel_rfl) .i64 (by kernel_rfl) (y := y) h hz
  go_enter Tryz.func37, Tryz.ntmps37
  go_wp2_with fail
  go_ret
  exact ⟨rfl, rfl⟩
set_option maxRecDepth 100000 in
theorem version_any (D : Nat → Prop) (vb rb tn now : Nat) (master : List UInt8) (w : World) (hV : Vlt w D vb rb tn now master) :
    Calls Tryz.prog 18 #[.pointer (some ⟨vb, 0, none⟩)] w fun e w' => e = .returned (.int .i64 (now : Int)) ∧ w = w' := by
  have HL := Lib.hid (load64_any ⟨vb, 2, none⟩ (now : Int) w (cells_of hV).2.2.1)
  clear hV
  go_enter Tryz.func18, Tryz.ntmps18
  go_wp2_with fail
  refine HL.out.mono ?_
  rintro e w1 ⟨rfl, rfl⟩
  go_wp2_with fail
  go_ret
  exact ⟨rfl, rfl⟩
theorem Vlt.turn {w : World} {D : Nat → Prop} {vb rb tn now : Nat} {master : List UInt8} (h : Vlt w D vb rb tn now master) (k : Nat) : Vlt (w.setCell ⟨vb, 2, none⟩ (.int .i64 (k : Int))) D vb rb tn k master ∧ Frame (fun k => k < w.heap.size ∧ k ≠ vb) w (w.setCell ⟨vb, 2, none⟩ (.int .i64 (k : Int))) := by
  obtain ⟨cs, h1, h2, h3, h4, h5⟩ := h.row
  have hf : Frame (fun k => k < w.heap.size ∧ k ≠ vb) w (w.setCell ⟨vb, 2, none⟩ (.int .i64 (k : Int))) := Frame.setCell (Frame.refl _ w) (fun h => h.2 rfl) _
  have hS : ∀ k, Off w D k → k < w.heap.size ∧ k ≠ vb := fun k hk => ⟨hk.1, fun e => hk.2 (e ▸ h.inD)⟩
  refine ⟨⟨h.inD, h.ne, h.ring.frame hf hS ⟨h.lt.2, fun e => h.ne e.symm⟩, cs.set 2 (.int .i64 (k : Int)), h1.set _ _, ?_, ?_, ?_, fun i hi => ?_⟩, hf⟩
  · rw [set_off (by omega)]; exact h2
  · rw [set_off (by omega)]; exact h3
  · exact set_at h4 _
  · exact SlotL.congr ((h5 i hi).frame hf hS) (fun j hj _ => set_off (by omega) _)
set_option maxRecDepth 100000 in
theorem rotate_any (D : Nat → Prop) (vb rb tn now k : Nat) (master : List UInt8) (w : World) (hV : Vlt w D vb rb tn now master) (hn : now < 255) (hk : now + 1 = k) :
    Calls Tryz.prog 17 #[.pointer (some ⟨vb, 0, none⟩)] w fun e w' => e = .returned (.tuple #[.int .i64 (k : Int), .int .i64 0]) ∧ Vlt w' D vb rb tn k master ∧ Frame (fun k => k < w.heap.size ∧ k ≠ vb) w w' := by
  have HV := Lib.hid (version_any D vb rb tn now master w hV)
  have HC := Lib.hid (cas64_any ⟨vb, 2, none⟩ (now : Int) (k : Int) w (cells_of hV).2.2.1 ((cells_of hV).2.2.2 2))
  have HT := Lib.hid (hV.turn k)
  have d1 : decide ((255 : Int) ≤ (now : Int)) = false := decide_eq_false (by omega)
  have hw : IntKind.i64.wrap ((now : Int) + 1) = (k : Int) := by rw [IntKind.wrap_i64]; omega
  clear hV hn hk
  go_enter Tryz.func17, Tryz.ntmps17
  go_wp2_with fail
  refine HV.out.mono ?_
  rintro e w1 ⟨rfl, rfl⟩
  go_wp2_with fail
  refine HC.out.mono ?_
  rintro e w1 ⟨rfl, rfl⟩
  go_wp2_with fail
  go_ret2
  exact ⟨rfl, HT.out.1, HT.out.2⟩
set_option maxRecDepth 100000 in
set_option maxHeartbeats 1000000 in
theorem rkey_no (a : Addr) (tn v : Int) (w : World) (h : tn < 1 ∨ 64 < tn ∨ v < 1 ∨ 255 < v) :
    Calls Tryz.prog 19 #[.pointer (some a), .int .i64 tn, .int .i64 1, .int .i64 v] w fun e w' => e = .returned (.tuple #[.slice none 0 0, .int .i64 1]) ∧ Below w.heap.size w w' := by
  obtain ⟨wa, hwa⟩ : ∃ wa, (w.alloc (.cells #[.pointer (some a)] 40)).alloc (.cells #[.int .i64 tn] 3) = wa := ⟨_, rfl⟩
  have hza : wa.heap.size = w.heap.size + 2 := by rw [← hwa]; simp
  have hbwa : Below w.heap.size w wa := by rw [← hwa]; exact ((Below.refl _ _).alloc (Nat.le_refl _) _).alloc (by simp) _
  have q1 : wa.cell? ⟨w.heap.size + 1, 0, none⟩ = some (.int .i64 tn) := by
    rw [← hwa]
    have h : Aes.RowV ((w.alloc (.cells #[.pointer (some a)] 40)).alloc (.cells #[.int .i64 tn] 3)) 3 (w.alloc (.cells #[.pointer (some a)] 40)).heap.size [.int .i64 tn] := heap_alloc_new _ _
    rw [World.size_alloc] at h
    exact h.cell rfl
  have HA := Lib.hid (And.intro hza (And.intro hbwa q1))
  have HH := Lib.hid h
  clear hza hbwa q1 h
  go_enter Tryz.func19, Tryz.ntmps19
  go_wp2_with fail
  refine (name_any wa).mono ?_
  rintro e w1 ⟨rfl, hb1⟩
  have q1 : w1.cell? ⟨w.heap.size + 1, 0, none⟩ = some (.int .i64 tn) := (hb1.cell (p := ⟨w.heap.size + 1, 0, none⟩) (by have := HA.out.1; show w.heap.size + 1 < _; omega)).trans HA.out.2.2
  have HW := Lib.hid (HA.out.2.1.trans (hb1.mono (by have := HA.out.1; omega)))
  clear hb1 hwa
  have h := HH.out
  have hc : tn < 1 ∨ (¬ tn < 1 ∧ 64 < tn) ∨ (¬ tn < 1 ∧ ¬ 64 < tn ∧ v < 1) ∨ (¬ tn < 1 ∧ ¬ 64 < tn ∧ ¬ v < 1 ∧ 255 < v) := by omega
  clear h HH
  rcases hc with h1 | ⟨h1, h2⟩ | ⟨h1, h2, h3⟩ | ⟨h1, h2, h3, h4⟩
  all_goals
    (try have d1 : decide (tn < 1) = true := decide_eq_true h1)
    (try have d1 : decide (tn < 1) = false := decide_eq_false h1)
    (try have d2 : decide ((64 : Int) < tn) = true := decide_eq_true h2)
    (try have d2 : decide ((64 : Int) < tn) = false := decide_eq_false h2)
    (try have d3 : decide (v < 1) = true := decide_eq_true h3)
    (try have d3 : decide (v < 1) = false := decide_eq_false h3)
    (try have d4 : decide ((255 : Int) < v) = true := decide_eq_true h4)
    go_wp2_with fail
    go_ret2
    exact ⟨rfl, HW.out⟩
end Go.Proofs.YtkgnnlglabihkaaGreatDoor.Top
