/- Keys: the closure of (*Ring).Key: a tenant's key folded and kept. Contract. -/
import Derived.Test.YtkgnnlglabihkaaGreatDoorTE
import Derived.Test.YtkgnnlglabihkaaGreatDoorTC
import Derived.Test.YtkgnnlglabihkaaGreatDoorTB
namespace Go.Proofs.YtkgnnlglabihkaaGreatDoor.Top
open Go Go.ChangeShapes Go.WideShapes Go.ChangeAt Go.RowKit Go.Proofs.YtkgnnlglabihkaaGreatDoor.Aes Go.Proofs.YtkgnnlglabihkaaGreatDoor.Str Go.Proofs.YtkgnnlglabihkaaGreatDoor.Mac
set_option linter.unusedVariables false
set_option linter.unusedSimpArgs false
/-- a tenant's key -/
def keyT (master : List UInt8) (tn : Nat) : List UInt8 := foldL master [tenantL, decN tn]
theorem foldL_two (k a b : List UInt8) : (foldL k [a, b]).length = 32 := by
  show (foldL k ([a] ++ [b])).length = 32
  rw [foldL_snoc, macL_len]
theorem foldL_three (k a b c : List UInt8) : (foldL k [a, b, c]).length = 32 := by
  show (foldL k ([a, b] ++ [c])).length = 32
  rw [foldL_snoc, macL_len]
theorem strRow2 (w : World) (T : TypeId) (a b : List UInt8) : StrRow (w.alloc (.cells #[.string (str a), .string (str b)] T)) (some ⟨w.heap.size, 0, none⟩) [a, b] := fun _ => by
  have h : Aes.RowV (w.alloc (.cells #[.string (str a), .string (str b)] T)) T w.heap.size [.string (str a), .string (str b)] := heap_alloc_new w _
  refine ⟨_, rfl, by simp, fun j hj => ?_⟩
  rw [add_zero_block]
  match j, hj with
  | 0, _ => exact h.cell rfl
  | 1, _ => exact h.cell rfl
theorem strRow3 (w : World) (T : TypeId) (a b c : List UInt8) : StrRow (w.alloc (.cells #[.string (str a), .string (str b), .string (str c)] T)) (some ⟨w.heap.size, 0, none⟩) [a, b, c] := fun _ => by
  have h : Aes.RowV (w.alloc (.cells #[.string (str a), .string (str b), .string (str c)] T)) T w.heap.size [.string (str a), .string (str b), .string (str c)] := heap_alloc_new w _
  refine ⟨_, rfl, by simp, fun j hj => ?_⟩
  rw [add_zero_block]
  match j, hj with
  | 0, _ => exact h.cell rfl
  | 1, _ => exact h.cell rfl
  | 2, _ => exact h.cell rfl
set_option maxRecDepth 100000 in
set_option maxHeartbeats 2000000 in
theorem kclos_any (p0 p1 p2 : Addr) (rb o tn : Nat) (A : Option Addr) (n c : Nat) (master : List UInt8) (x : Value) (B : Nat) (w : World) (hT : Tb B w) (hB : B ≤ w.heap.size) (htn : tn ≤ 255)
    (h0 : w.cell? p0 = some (.pointer (some ⟨rb, 0, none⟩))) (h1 : w.cell? p1 = some (.int .i64 (tn : Int))) (h2 : w.cell? p2 = some (.pointer (some ⟨rb, o, none⟩)))
    (l0 : p0.block < w.heap.size) (l1 : p1.block < w.heap.size) (l2 : p2.block < w.heap.size) (lr : rb < w.heap.size)
    (hc : w.cell? ⟨rb, 0, none⟩ = some (.slice A n c)) (hx : w.cell? ⟨rb, o + 3, none⟩ = some x) (hf : w.frozen? ⟨rb, o + 3, none⟩ = false) (hml : master.length = n) (hn : n ≤ 64) (hr : Rd w w.heap.size A master) :
    Calls Tryz.prog 41 #[.pointer (some p0), .pointer (some p1), .pointer (some p2)] w fun e w' => e = .returned (.tuple #[]) ∧ ∃ w2 A1 c1, w' = w2.setCell ⟨rb, o + 3, none⟩ (.slice A1 32 c1) ∧ Own w2 5 w.heap.size (.slice A1 32 c1) (keyT master tn) ∧ Below w.heap.size w w2 := by
  have HI := Lib.hid (fun w hT => itoa_any tn htn B w hT)
  have HT := Lib.hid hT
  have HB := Lib.hid hB
  have HR := Lib.hid hr
  have HF := Lib.hid (fun (w : World) (hr : Rd w w.heap.size A master) Al hls => fold_any A n c master Al 2 2 [tenantL, decN tn] w hml (by omega) hr rfl (by omega) hls (by
    intro s hs
    simp only [List.mem_cons, List.not_mem_nil, or_false] at hs
    rcases hs with rfl | rfl
    · decide
    · have := decN_len tn htn; omega))
  have HKL := Lib.hid (foldL_two master tenantL (decN tn))
  have HKT := Lib.hid (show keyT master tn = foldL master [tenantL, decN tn] from rfl)
  have HSR := Lib.hid (fun (w : World) => strRow2 w 9 tenantL (decN tn))
  generalize keyT master tn = kt at *
  generalize foldL master [tenantL, decN tn] = kf at *
  generalize decN tn = dn at *
  clear hT hB hr hml hn htn
  go_enter Tryz.func41, Tryz.ntmps41
  refine wp_region_last (S := fun w' => w'.cell? p0 = some (.pointer (some ⟨rb, 0, none⟩)) ∧ w'.cell? p1 = some (.int .i64 (tn : Int)) ∧ w'.cell? p2 = some (.pointer (some ⟨rb, o, none⟩)) ∧ w'.cell? ⟨rb, 0, none⟩ = some (.slice A n c)) 11 (by kernel_rfl) (⟨h0, h1, h2, hc⟩) (fun hHeld => ?_)
  refine wpAnyS_take (i := 0) (v := ?_) rfl (by kernel_rfl) (by kernel_rfl) (by kernel_rfl) (by kernel_rfl) (fun _ _ _ h => h) (Or.inl ⟨by kernel_rfl, ?_⟩) (by assumption) ?_
  rotate_left
  · (intro w hSw; (try dsimp only at hSw); go_simp; first | done | with_reducible rfl)
  (try simp only [Act.put, List.setIfInBounds_toArray, List.set_cons_zero, List.set_cons_succ, List.getElem_toArray, List.getElem_cons_zero, List.getElem_cons_succ])
  refine wpAnyS_take (i := 1) (v := ?_) rfl (by kernel_rfl) (by kernel_rfl) (by kernel_rfl) (by kernel_rfl) (fun _ _ _ h => h) (Or.inl ⟨by kernel_rfl, ?_⟩) (by assumption) ?_
  rotate_left
  · (intro w hSw; (try dsimp only at hSw); go_simp; first | done | with_reducible rfl)
  (try simp only [Act.put, List.setIfInBounds_toArray, List.set_cons_zero, List.set_cons_succ, List.getElem_toArray, List.getElem_cons_zero, List.getElem_cons_succ])
  refine wpAnyS_take (i := 2) (v := ?_) rfl (by kernel_rfl) (by kernel_rfl) (by kernel_rfl) (by kernel_rfl) (fun _ _ _ h => h) (Or.inl ⟨by kernel_rfl, ?_⟩) (by assumption) ?_
  rotate_left
  · (intro w hSw; (try dsimp only at hSw); go_simp; first | done | with_reducible rfl)
  (try simp only [Act.put, List.setIfInBounds_toArray, List.set_cons_zero, List.set_cons_succ, List.getElem_toArray, List.getElem_cons_zero, List.getElem_cons_succ])
  refine wpAnyS_take (i := 3) (v := ?_) rfl (by kernel_rfl) (by kernel_rfl) (by kernel_rfl) (by kernel_rfl) (fun _ _ _ h => h) (Or.inl ⟨by kernel_rfl, ?_⟩) (by assumption) ?_
  rotate_left
  · (intro w hSw; (try dsimp only at hSw); go_simp; first | done | with_reducible rfl)
  (try simp only [Act.put, List.setIfInBounds_toArray, List.set_cons_zero, List.set_cons_succ, List.getElem_toArray, List.getElem_cons_zero, List.getElem_cons_succ])
  refine wpAnyS_take (i := 4) (v := ?_) rfl (by kernel_rfl) (by kernel_rfl) (by kernel_rfl) (by kernel_rfl) (fun _ _ _ h => h) (Or.inl ⟨by kernel_rfl, ?_⟩) (by assumption) ?_
  rotate_left
  · (intro w hSw; (try dsimp only at hSw); go_simp; first | done | with_reducible rfl)
  (try simp only [Act.put, List.setIfInBounds_toArray, List.set_cons_zero, List.set_cons_succ, List.getElem_toArray, List.getElem_cons_zero, List.getElem_cons_succ])
  refine wpAnyS_take (i := 5) (v := ?_) rfl (by kernel_rfl) (by kernel_rfl) (by kernel_rfl) (by kernel_rfl) (fun _ _ _ h => h) (Or.inl ⟨by kernel_rfl, ?_⟩) (by assumption) ?_
  rotate_left
  · (intro w hSw; (try dsimp only at hSw); go_simp; first | done | with_reducible rfl)
  (try simp only [Act.put, List.setIfInBounds_toArray, List.set_cons_zero, List.set_cons_succ, List.getElem_toArray, List.getElem_cons_zero, List.getElem_cons_succ])
  refine wpAnyS_one (i := 6) (by kernel_rfl) rfl (fun KK hKK => ?_)
  go_simp
  refine (HI.out _ HT.out.drew).mono ?_
  rintro e w2 ⟨rfl, hb2⟩
  have hb12 : Below w.heap.size w w2 := (Below.refl _ _).drew.trans hb2
  have hz2 := hb12.size
  have HB12 := Lib.hid hb12
  have d0 : w2.cell? p0 = some (.pointer (some ⟨rb, 0, none⟩)) := (hb12.cell l0).trans h0
  have d1 : w2.cell? p1 = some (.int .i64 (tn : Int)) := (hb12.cell l1).trans h1
  have d2 : w2.cell? p2 = some (.pointer (some ⟨rb, o, none⟩)) := (hb12.cell l2).trans h2
  have dc : w2.cell? ⟨rb, 0, none⟩ = some (.slice A n c) := (hb12.cell (p := ⟨rb, 0, none⟩) lr).trans hc
  clear hb2 hb12
  go_wp2_with fail
  refine hKK.out _ _ ?_ (fun hHeld => ?_)
  · (exact ⟨d0, d1, d2, dc⟩)
  clear hKK KK
  (try simp only [Act.put, List.setIfInBounds_toArray, List.set_cons_zero, List.set_cons_succ, List.getElem_toArray, List.getElem_cons_zero, List.getElem_cons_succ])
  refine wpAnyS_one (i := 7) (by kernel_rfl) rfl (fun KK hKK => ?_)
  go_simp
  refine hKK.out _ _ ?_ (fun hHeld => ?_)
  · (have hbA := HB12.out.alloc hz2 (.cells #[.string (str tenantL), .string (str dn)] 9); exact ⟨(hbA.cell l0).trans h0, (hbA.cell l1).trans h1, (hbA.cell l2).trans h2, (hbA.cell (p := ⟨rb, 0, none⟩) lr).trans hc⟩)
  clear hKK KK
  (try simp only [Act.put, List.setIfInBounds_toArray, List.set_cons_zero, List.set_cons_succ, List.getElem_toArray, List.getElem_cons_zero, List.getElem_cons_succ])
  refine wpAnyS_one (i := 8) (by kernel_rfl) rfl (fun KK hKK => ?_)
  go_simp
  have hbA := HB12.out.alloc hz2 (.cells #[.string (str tenantL), .string (str dn)] 9)
  have hrA := (HR.out.below hbA).more hbA.size
  refine (HF.out _ hrA _ (HSR.out w2)).mono ?_
  rintro e w3 ⟨v3, rfl, hO3, hb3⟩
  have hbz := hbA.size
  have hb13 : Below w.heap.size w w3 := hbA.trans (hb3.mono hbz)
  obtain ⟨A1, c1, hv1, _, _⟩ := hO3.form
  rw [HKL.out] at hv1
  subst hv1
  have HO3 := Lib.hid (hO3.mono (base' := w.heap.size) hbz)
  have HB13 := Lib.hid hb13
  have f0 : w3.cell? p0 = some (.pointer (some ⟨rb, 0, none⟩)) := (hb13.cell l0).trans h0
  have f1 : w3.cell? p1 = some (.int .i64 (tn : Int)) := (hb13.cell l1).trans h1
  have f2 : w3.cell? p2 = some (.pointer (some ⟨rb, o, none⟩)) := (hb13.cell l2).trans h2
  have fc : w3.cell? ⟨rb, 0, none⟩ = some (.slice A n c) := (hb13.cell (p := ⟨rb, 0, none⟩) lr).trans hc
  have fx : w3.cell? ⟨rb, o + 3, none⟩ = some x := (hb13.cell (p := ⟨rb, o + 3, none⟩) lr).trans hx
  have ff : w3.frozen? ⟨rb, o + 3, none⟩ = false := (hb13.frozen (p := ⟨rb, o + 3, none⟩) lr).trans hf
  clear hO3 hb3 hb13 hbA hrA hbz
  go_wp2_with fail
  refine hKK.out _ _ ?_ (fun hHeld => ?_)
  · (exact ⟨f0, f1, f2, fc⟩)
  clear hKK KK
  (try simp only [Act.put, List.setIfInBounds_toArray, List.set_cons_zero, List.set_cons_succ, List.getElem_toArray, List.getElem_cons_zero, List.getElem_cons_succ])
  refine wpAnyS_one (i := 9) (by kernel_rfl) rfl (fun KK hKK => ?_)
  go_simp
  refine hKK.out _ _ ?_ (fun hHeld => ?_)
  · (exact ⟨f0, f1, f2, fc⟩)
  clear hKK KK
  (try simp only [Act.put, List.setIfInBounds_toArray, List.set_cons_zero, List.set_cons_succ, List.getElem_toArray, List.getElem_cons_zero, List.getElem_cons_succ])
  refine wpAnyS_one (i := 10) (by kernel_rfl) rfl (fun KK hKK => ?_)
  go_simp
  refine hKK.out _ _ ?_ (fun hHeld => ?_)
  · (exact ⟨f0, f1, f2, fc⟩)
  clear hKK KK
  (try simp only [Act.put, List.setIfInBounds_toArray, List.set_cons_zero, List.set_cons_succ, List.getElem_toArray, List.getElem_cons_zero, List.getElem_cons_succ])
  refine wpAnyS_last (by kernel_rfl) rfl (by kernel_rfl) (fun KK hKK => ?_)
  go_simp
  refine hKK.out _ _ ?_
  clear hKK KK
  (try simp only [Act.put, List.setIfInBounds_toArray, List.set_cons_zero, List.set_cons_succ, List.getElem_toArray, List.getElem_cons_zero, List.getElem_cons_succ])
  go_wp2_with fail
  go_end0
  exact ⟨rfl, w3, A1, c1, rfl, by rw [HKT.out]; exact HO3.out, HB13.out⟩
end Go.Proofs.YtkgnnlglabihkaaGreatDoor.Top

/- Keys: a ring's state; Once.Do at a tenant's key. -/
namespace Go.Proofs.YtkgnnlglabihkaaGreatDoor.Top
open Go Go.ChangeShapes Go.WideShapes Go.ChangeAt Go.RowKit Go.Proofs.YtkgnnlglabihkaaGreatDoor.Aes Go.Proofs.YtkgnnlglabihkaaGreatDoor.Str Go.Proofs.YtkgnnlglabihkaaGreatDoor.Mac
set_option linter.unusedVariables false
set_option linter.unusedSimpArgs false
/-- a key, made once -/
def Made (w : World) (D : Nat → Prop) (cs : List Value) (o : Nat) (k : List UInt8) : Prop :=
  cs[o]? = some (.int .u32 1) ∧ ∃ A c, cs[o + 3]? = some (.slice A 32 c) ∧ k.length = 32 ∧ 32 ≤ c ∧ c ≤ 9223372036854775807 ∧ RdS w (Off w D) A k
/-- a key, made once or not yet -/
def SlotL (w : World) (D : Nat → Prop) (cs : List Value) (o : Nat) (k : List UInt8) : Prop :=
  (cs[o]? = some (.int .u32 0) ∧ cs[o + 1]? = some (.int .i32 0) ∧ ∃ x, cs[o + 3]? = some x) ∨ Made w D cs o k
/-- a ring behind a pointer, at one tenant; D: the blocks that are written in place -/
structure Ring (w : World) (D : Nat → Prop) (rb tn : Nat) (master : List UInt8) : Prop where
  inD : D rb
  row : ∃ cs, Aes.RowV w 95 rb cs ∧ (∃ A n c, cs[0]? = some (.slice A n c) ∧ master.length = n ∧ n ≤ 64 ∧ RdS w (Off w D) A master) ∧ SlotL w D cs (1 + tn * 4) (keyT master tn)
theorem rds_off {w w' : World} {D S : Nat → Prop} {A : Option Addr} {l : List UInt8} (h : RdS w (Off w D) A l) (hf : Frame S w w') (hS : ∀ k, Off w D k → S k) : RdS w' (Off w' D) A l :=
  RdS.mono (RdS.frame h (hf.mono hS)) (fun k hk => ⟨Nat.lt_of_lt_of_le hk.1 hf.size, hk.2⟩)
theorem Made.frame {w w' : World} {D S : Nat → Prop} {cs : List Value} {o : Nat} {k : List UInt8} (h : Made w D cs o k) (hf : Frame S w w') (hS : ∀ k, Off w D k → S k) : Made w' D cs o k := by
  obtain ⟨h1, A, c, h2, h3, h4, h5, h6⟩ := h
  exact ⟨h1, A, c, h2, h3, h4, h5, rds_off h6 hf hS⟩
theorem SlotL.frame {w w' : World} {D S : Nat → Prop} {cs : List Value} {o : Nat} {k : List UInt8} (h : SlotL w D cs o k) (hf : Frame S w w') (hS : ∀ k, Off w D k → S k) : SlotL w' D cs o k :=
  h.imp id (fun h => h.frame hf hS)
theorem Ring.frame {w w' : World} {D S : Nat → Prop} {rb tn : Nat} {master : List UInt8} (h : Ring w D rb tn master) (hf : Frame S w w') (hS : ∀ k, Off w D k → S k) (hr : S rb) : Ring w' D rb tn master := by
  obtain ⟨cs, h1, ⟨A, n, c, h2, h3, h4, h5⟩, h6⟩ := h.row
  exact ⟨h.inD, cs, h1.keep (hf.block rb hr), ⟨A, n, c, h2, h3, h4, rds_off h5 hf hS⟩, h6.frame hf hS⟩
theorem Ring.below {w w' : World} {D : Nat → Prop} {rb tn : Nat} {master : List UInt8} (h : Ring w D rb tn master) (hb : Below w.heap.size w w') : Ring w' D rb tn master := by
  obtain ⟨cs, h1, _⟩ := h.row
  exact h.frame (Frame.of_below hb (S := fun k => k < w.heap.size) (fun k hk => hk)) (fun k hk => hk.1) h1.lt
theorem cell_alloc (w : World) (o : Obj) {p : Addr} (h : p.block < w.heap.size) : (w.alloc o).cell? p = w.cell? p := ((Below.refl w.heap.size w).alloc (Nat.le_refl _) o).cell h
theorem keyT_len (master : List UInt8) (tn : Nat) : (keyT master tn).length = 32 := foldL_two _ _ _
/-- a version's key -/
def keyV (master : List UInt8) (tn v : Nat) : List UInt8 := foldL (keyT master tn) [tokenL, versionL, decN v]
theorem keyV_len (master : List UInt8) (tn v : Nat) : (keyV master tn v).length = 32 := foldL_three _ _ _ _
theorem set_at {cs : List Value} {i : Nat} {x : Value} (h : cs[i]? = some x) (v : Value) : (cs.set i v)[i]? = some v := by
  rw [List.getElem?_set_self (List.getElem?_eq_some_iff.1 h).1]
theorem set_off {cs : List Value} {i j : Nat} (h : i ≠ j) (v : Value) : (cs.set i v)[j]? = cs[j]? := List.getElem?_set_ne h
/-- what a world is behind Do: one slot made; other slots as they stood -/
theorem made_new {w w2 : World} {D : Nat → Prop} {T : TypeId} {rb o base : Nat} {cs : List Value} {A : Option Addr} {c : Nat} {k : List UInt8} (hD : ∀ k, D k → k < base) (hrb : D rb)
    (hr : Aes.RowV w2 T rb cs) (e0 : ∃ x, cs[o]? = some x) (e1 : ∃ x, cs[o + 1]? = some x) (e3 : ∃ x, cs[o + 3]? = some x) (hO : Own w2 5 base (.slice A 32 c) k) :
    ∃ cs', Aes.RowV (((w2.setCell ⟨rb, o + 3, none⟩ (.slice A 32 c)).drew.setCell ⟨rb, o, none⟩ (.int .u32 1)).setCell ⟨rb, o + 1, none⟩ (.int .i32 0)) T rb cs' ∧
      Made (((w2.setCell ⟨rb, o + 3, none⟩ (.slice A 32 c)).drew.setCell ⟨rb, o, none⟩ (.int .u32 1)).setCell ⟨rb, o + 1, none⟩ (.int .i32 0)) D cs' o k ∧ (∀ j, j < o ∨ o + 3 < j → cs'[j]? = cs[j]?) ∧
      Frame (fun k => k ≠ rb) w2 (((w2.setCell ⟨rb, o + 3, none⟩ (.slice A 32 c)).drew.setCell ⟨rb, o, none⟩ (.int .u32 1)).setCell ⟨rb, o + 1, none⟩ (.int .i32 0)) := by
  obtain ⟨x0, e0⟩ := e0
  obtain ⟨x1, e1⟩ := e1
  obtain ⟨x3, e3⟩ := e3
  obtain ⟨hl, h32, hcm⟩ := Sha.own_len hO
  have hf : Frame (fun k => k ≠ rb) w2 (((w2.setCell ⟨rb, o + 3, none⟩ (.slice A 32 c)).drew.setCell ⟨rb, o, none⟩ (.int .u32 1)).setCell ⟨rb, o + 1, none⟩ (.int .i32 0)) :=
    Frame.setCell (Frame.setCell (Frame.drew (Frame.setCell (Frame.refl _ w2) (fun h => h rfl) _)) (fun h => h rfl) _) (fun h => h rfl) _
  have hblk : ∀ k, (Value.slice A 32 c).ownBlock = some k → k < w2.heap.size ∧ ¬ D k := fun k hk => ⟨(hO.lt k hk).2, fun hd => by have := hD k hd; have := (hO.lt k hk).1; omega⟩
  refine ⟨((cs.set (o + 3) (.slice A 32 c)).set o (.int .u32 1)).set (o + 1) (.int .i32 0), ?_, ⟨?_, A, c, ?_, hl, h32, hcm, ?_⟩, ?_, hf⟩
  · exact Aes.RowV.set (Aes.RowV.set (w := (w2.setCell ⟨rb, o + 3, none⟩ (.slice A 32 c)).drew) (Aes.RowV.set hr _ _) _ _) _ _
  · rw [set_off (by omega)]
    exact set_at (x := x0) (by rw [set_off (by omega)]; exact e0) _
  · rw [set_off (by omega), set_off (by omega)]
    exact set_at e3 _
  · exact rds_off (S := fun k => k ≠ rb) (Aes.own_rds hO (S := Off w2 D) hblk rfl) hf (fun k hk e => hk.2 (e ▸ hrb))
  · intro j hj
    rw [set_off (by omega), set_off (by omega), set_off (by omega)]
set_option maxRecDepth 100000 in
set_option maxHeartbeats 1000000 in
theorem once_ring (D : Nat → Prop) (p0 p1 p2 : Addr) (rb tn base : Nat) (master : List UInt8) (B : Nat) (w : World) (hT : Tb B w) (hB : B ≤ w.heap.size) (hBr : B ≤ rb) (htn : tn ≤ 255)
    (h0 : w.cell? p0 = some (.pointer (some ⟨rb, 0, none⟩))) (h1 : w.cell? p1 = some (.int .i64 (tn : Int))) (h2 : w.cell? p2 = some (.pointer (some ⟨rb, 1 + tn * 4, none⟩)))
    (l0 : p0.block < w.heap.size) (l1 : p1.block < w.heap.size) (l2 : p2.block < w.heap.size) (n0 : p0.block ≠ rb) (n1 : p1.block ≠ rb) (n2 : p2.block ≠ rb)
    (hR : Ring w D rb tn master) (hD : ∀ k, D k → k < base) (hbase : base ≤ w.heap.size) :
    Calls Tryz.prog 40 #[.pointer (some ⟨rb, 1 + tn * 4, none⟩), .func (.func 41) #[] #[.pointer (some p0), .pointer (some p1), .pointer (some p2)]] w
      fun e w' => e = .returned (.tuple #[]) ∧ Ring w' D rb tn master ∧ (∃ A c, w'.cell? ⟨rb, 1 + tn * 4 + 3, none⟩ = some (.slice A 32 c) ∧ 32 ≤ c ∧ c ≤ 9223372036854775807 ∧ RdS w' (Off w' D) A (keyT master tn)) ∧ Frame (fun k => k < w.heap.size ∧ k ≠ rb) w w' := by
  obtain ⟨cs, hr, ⟨A, n, c, hm, hml, hn, hrm⟩, hs⟩ := hR.row
  rcases hs with ⟨e0, e1, x, e3⟩ | hmade
  · have hr1 : Aes.RowV (w.setCell ⟨rb, 1 + tn * 4 + 1, none⟩ (.int .i32 1)) 95 rb (cs.set (1 + tn * 4 + 1) (.int .i32 1)) := hr.set _ _
    have hF1 : Frame (fun k => k < w.heap.size ∧ k ≠ rb) w (w.setCell ⟨rb, 1 + tn * 4 + 1, none⟩ (.int .i32 1)) := Frame.setCell (Frame.refl _ w) (fun h => h.2 rfl) _
    have hz1 : (w.setCell ⟨rb, 1 + tn * 4 + 1, none⟩ (.int .i32 1)).heap.size = w.heap.size := by simp
    have hk := kclos_any p0 p1 p2 rb (1 + tn * 4) tn A n c master x B (w.setCell ⟨rb, 1 + tn * 4 + 1, none⟩ (.int .i32 1)) (hT.on (hF1.toBelow (fun k hk => ⟨by omega, by omega⟩))) (by rw [hz1]; exact hB) htn
      ((World.cell?_of_block (hF1.block _ ⟨l0, n0⟩)).trans h0) ((World.cell?_of_block (hF1.block _ ⟨l1, n1⟩)).trans h1) ((World.cell?_of_block (hF1.block _ ⟨l2, n2⟩)).trans h2)
      (by rw [hz1]; exact l0) (by rw [hz1]; exact l1) (by rw [hz1]; exact l2) (by rw [hz1]; exact hr.lt)
      (hr1.cell (by rw [set_off (by omega)]; exact hm)) (hr1.cell (by rw [set_off (by omega)]; exact e3)) (hr1.frozen _) hml hn
      ((rds_off hrm hF1 (fun k hk => ⟨hk.1, fun e => hk.2 (e ▸ hR.inD)⟩)).rd (fun k hk => hk.1))
    have hdo := do_ring rb (1 + tn * 4) p0 p1 p2 w (fun w' => ∃ w2 A1 c1, w' = w2.setCell ⟨rb, 1 + tn * 4 + 3, none⟩ (.slice A1 32 c1) ∧ Own w2 5 w.heap.size (.slice A1 32 c1) (keyT master tn) ∧ Below w.heap.size (w.setCell ⟨rb, 1 + tn * 4 + 1, none⟩ (.int .i32 1)) w2)
      (hr.cell e0) (hr.cell e1) (hr.frozen _) (hk.mono ?_)
    · refine hdo.mono ?_
      rintro e w' ⟨rfl, w4, ⟨w2, A1, c1, rfl, hO, hb⟩, rfl⟩
      have hr2 : Aes.RowV w2 95 rb (cs.set (1 + tn * 4 + 1) (.int .i32 1)) := hr1.keep (hb.block rb hr.lt)
      obtain ⟨cs', hr', hmade, hoth, hF⟩ := made_new (w := w) (o := 1 + tn * 4) (D := D) (base := base) hD hR.inD hr2 ⟨_, by rw [set_off (by omega)]; exact e0⟩ ⟨_, set_at e1 _⟩ ⟨_, by rw [set_off (by omega)]; exact e3⟩ (hO.mono hbase)
      have hF2 : Frame (fun k => k < w.heap.size ∧ k ≠ rb) w (((w2.setCell ⟨rb, 1 + tn * 4 + 3, none⟩ (.slice A1 32 c1)).drew.setCell ⟨rb, 1 + tn * 4, none⟩ (.int .u32 1)).setCell ⟨rb, 1 + tn * 4 + 1, none⟩ (.int .i32 0)) :=
        Frame.trans (Frame.trans hF1 (Frame.of_below hb (S := fun k => k < w.heap.size) (fun k hk => hk)) (fun k hk => hk.1)) hF (fun k hk => hk.2)
      obtain ⟨m1, A2, c2, m2, m3, m4, m5, m6⟩ := id hmade
      exact ⟨rfl, ⟨hR.inD, cs', hr', ⟨A, n, c, by rw [hoth 0 (by omega), set_off (by omega)]; exact hm, hml, hn, rds_off hrm hF2 (fun k hk => ⟨hk.1, fun e => hk.2 (e ▸ hR.inD)⟩)⟩, .inr hmade⟩, ⟨A2, c2, hr'.cell m2, m4, m5, m6⟩, hF2⟩
    · rintro e w' ⟨rfl, w2, A1, c1, rfl, hO, hb⟩
      have hr2 : Aes.RowV w2 95 rb (cs.set (1 + tn * 4 + 1) (.int .i32 1)) := hr1.keep (hb.block rb (by rw [hz1]; exact hr.lt))
      have hr3 := hr2.set (1 + tn * 4 + 3) (.slice A1 32 c1)
      rw [hz1] at hO hb
      exact ⟨rfl, ⟨w2, A1, c1, rfl, hO, hb⟩, ⟨_, hr3.cell (by rw [set_off (by omega), set_off (by omega)]; exact e0)⟩, hr3.frozen _, hr3.cell (by rw [set_off (by omega)]; exact set_at e1 _), hr3.frozen _⟩
  · obtain ⟨m1, A2, c2, m2, m3, m4, m5, m6⟩ := id hmade
    refine (do_done ⟨rb, 1 + tn * 4, none⟩ 1 (by omega) _ w (hr.cell m1)).mono ?_
    rintro e w' ⟨rfl, rfl⟩
    exact ⟨rfl, hR, ⟨A2, c2, hr.cell m2, m4, m5, m6⟩, Frame.refl _ _⟩
end Go.Proofs.YtkgnnlglabihkaaGreatDoor.Top

/- Keys: (*Ring).Key. Contract. -/
namespace Go.Proofs.YtkgnnlglabihkaaGreatDoor.Top
open Go Go.ChangeShapes Go.WideShapes Go.ChangeAt Go.RowKit Go.Proofs.YtkgnnlglabihkaaGreatDoor.Aes Go.Proofs.YtkgnnlglabihkaaGreatDoor.Str Go.Proofs.YtkgnnlglabihkaaGreatDoor.Mac
set_option linter.unusedVariables false
set_option linter.unusedSimpArgs false
set_option maxRecDepth 100000 in
set_option maxHeartbeats 4000000 in
theorem rkey_any (D : Nat → Prop) (rb tn v : Nat) (master : List UInt8) (B : Nat) (w : World) (hT : Tb B w) (hB : B ≤ w.heap.size) (hBr : B ≤ rb) (h : Ring w D rb tn master) (hD : ∀ k, D k → k < w.heap.size) (t1 : 1 ≤ tn) (t64 : tn ≤ 64) (v1 : 1 ≤ v) (v2 : v ≤ 255) :
    Calls Tryz.prog 19 #[.pointer (some ⟨rb, 0, none⟩), .int .i64 (tn : Int), .int .i64 1, .int .i64 (v : Int)] w fun e w' => ∃ A c, e = .returned (.tuple #[.slice A 32 c, .int .i64 0]) ∧ Own w' 5 w.heap.size (.slice A 32 c) (keyV master tn v) ∧ Ring w' D rb tn master ∧ Frame (fun k => k < w.heap.size ∧ k ≠ rb) w w' := by
  have d1 : decide ((tn : Int) < 1) = false := decide_eq_false (by omega)
  have d2 : decide ((64 : Int) < (tn : Int)) = false := decide_eq_false (by omega)
  have d3 : decide ((v : Int) < 1) = false := decide_eq_false (by omega)
  have d4 : decide ((255 : Int) < (v : Int)) = false := decide_eq_false (by omega)
  have t0 : (0 : Int) ≤ (tn : Int) := by omega
  have t65 : (tn : Int) < 65 := by omega
  have HP := Lib.hid (And.intro (And.intro hT (And.intro hB hBr)) (And.intro h hD))
  have HQ := Lib.hid (And.intro (And.intro t1 t64) (And.intro v1 v2))
  have lr : rb < w.heap.size := hD _ h.inD
  have HLR := Lib.hid lr
  clear hT hB hBr h hD t1 t64 v1 v2 lr
  obtain ⟨wa, hwa⟩ : ∃ wa, (w.alloc (.cells #[.pointer (some ⟨rb, 0, none⟩)] 40)).alloc (.cells #[.int .i64 (tn : Int)] 3) = wa := ⟨_, rfl⟩
  go_enter Tryz.func19, Tryz.ntmps19
  go_wp2_with fail
  refine (name_any wa).mono ?_
  rintro e w1 ⟨rfl, hb1⟩
  have hza : wa.heap.size = w.heap.size + 2 := by rw [← hwa]; simp
  have hbw1 : Below w.heap.size w w1 := by
    refine Below.trans ?_ (hb1.mono (by omega))
    rw [← hwa]
    exact ((Below.refl _ _).alloc (Nat.le_refl _) _).alloc (by simp) _
  have q0 : w1.cell? ⟨w.heap.size, 0, none⟩ = some (.pointer (some ⟨rb, 0, none⟩)) := by
    refine (hb1.cell (p := ⟨w.heap.size, 0, none⟩) (by rw [hza]; show w.heap.size < w.heap.size + 2; omega)).trans ?_
    rw [← hwa]
    exact Aes.RowV.cell (Aes.RowV.alloc (heap_alloc_new w _) _) rfl
  have q1 : w1.cell? ⟨w.heap.size + 1, 0, none⟩ = some (.int .i64 (tn : Int)) := by
    refine (hb1.cell (p := ⟨w.heap.size + 1, 0, none⟩) (by rw [hza]; show w.heap.size + 1 < w.heap.size + 2; omega)).trans ?_
    rw [← hwa]
    have h : Aes.RowV ((w.alloc (.cells #[.pointer (some ⟨rb, 0, none⟩)] 40)).alloc (.cells #[.int .i64 (tn : Int)] 3)) 3 (w.alloc (.cells #[.pointer (some ⟨rb, 0, none⟩)] 40)).heap.size [.int .i64 (tn : Int)] := heap_alloc_new _ _
    rw [World.size_alloc] at h
    exact h.cell rfl
  have hz1 : w.heap.size + 2 ≤ w1.heap.size := by have := hb1.size; omega
  have HW := Lib.hid hbw1
  have HZ := Lib.hid hz1
  clear hb1 hwa hza hbw1 hz1
  go_wp2_with fail
  refine wp_region_last (S := fun w' => w'.cell? ⟨w.heap.size, 0, none⟩ = some (.pointer (some ⟨rb, 0, none⟩)) ∧ w'.cell? ⟨w.heap.size + 1, 0, none⟩ = some (.int .i64 (tn : Int))) 6 (by kernel_rfl) (⟨q0, q1⟩) (fun hHeld => ?_)
  refine wpAnyS_take (i := 0) (v := ?_) rfl (by kernel_rfl) (by kernel_rfl) (by kernel_rfl) (by kernel_rfl) (fun _ _ _ h => h) (Or.inl ⟨by kernel_rfl, ?_⟩) (by assumption) ?_
  rotate_left
  · (intro w hSw; (try dsimp only at hSw); go_simp; first | done | with_reducible rfl)
  (try simp only [Act.put, List.setIfInBounds_toArray, List.set_cons_zero, List.set_cons_succ, List.getElem_toArray, List.getElem_cons_zero, List.getElem_cons_succ])
  refine wpAnyS_take (i := 1) (v := ?_) rfl (by kernel_rfl) (by kernel_rfl) (by kernel_rfl) (by kernel_rfl) (fun _ _ _ h => h) (Or.inl ⟨by kernel_rfl, ?_⟩) (by assumption) ?_
  rotate_left
  · (intro w hSw; (try dsimp only at hSw); go_simp; first | done | with_reducible rfl)
  (try simp only [Act.put, List.setIfInBounds_toArray, List.set_cons_zero, List.set_cons_succ, List.getElem_toArray, List.getElem_cons_zero, List.getElem_cons_succ])
  refine wpAnyS_take (i := 2) (v := ?_) rfl (by kernel_rfl) (by kernel_rfl) (by kernel_rfl) (by kernel_rfl) (fun _ _ _ h => h) (Or.inl ⟨by kernel_rfl, ?_⟩) (by assumption) ?_
  rotate_left
  · (intro w hSw; (try dsimp only at hSw); go_simp; first | done | with_reducible rfl)
  (try simp only [Act.put, List.setIfInBounds_toArray, List.set_cons_zero, List.set_cons_succ, List.getElem_toArray, List.getElem_cons_zero, List.getElem_cons_succ])
  refine wpAnyS_take (i := 3) (v := ?_) rfl (by kernel_rfl) (by kernel_rfl) (by kernel_rfl) (by kernel_rfl) (fun _ _ _ h => h) (Or.inl ⟨by kernel_rfl, ?_⟩) (by assumption) ?_
  rotate_left
  · (intro w hSw; (try dsimp only at hSw); go_simp; first | done | with_reducible rfl)
  (try simp only [Act.put, List.setIfInBounds_toArray, List.set_cons_zero, List.set_cons_succ, List.getElem_toArray, List.getElem_cons_zero, List.getElem_cons_succ])
  refine wpAnyS_take (i := 4) (v := ?_) rfl (by kernel_rfl) (by kernel_rfl) (by kernel_rfl) (by kernel_rfl) (fun _ _ _ h => h) (Or.inl ⟨by kernel_rfl, ?_⟩) (by assumption) ?_
  rotate_left
  · (intro w hSw; (try dsimp only at hSw); go_simp; first | done | with_reducible rfl)
  (try simp only [Act.put, List.setIfInBounds_toArray, List.set_cons_zero, List.set_cons_succ, List.getElem_toArray, List.getElem_cons_zero, List.getElem_cons_succ])
  refine wpAnyS_one (i := 5) (by kernel_rfl) rfl (fun KK hKK => ?_)
  go_simp
  refine hKK.out _ _ ?_ (fun hHeld => ?_)
  · (exact ⟨(cell_alloc w1 _ (p := ⟨w.heap.size, 0, none⟩) (by have := HZ.out; show w.heap.size < _; omega)).trans q0, (cell_alloc w1 _ (p := ⟨w.heap.size + 1, 0, none⟩) (by have := HZ.out; show w.heap.size + 1 < _; omega)).trans q1⟩)
  clear hKK KK
  (try simp only [Act.put, List.setIfInBounds_toArray, List.set_cons_zero, List.set_cons_succ, List.getElem_toArray, List.getElem_cons_zero, List.getElem_cons_succ])
  refine wpAnyS_last (by kernel_rfl) rfl (by kernel_rfl) (fun KK hKK => ?_)
  go_simp
  refine hKK.out _ _ ?_
  clear hKK KK
  (try simp only [Act.put, List.setIfInBounds_toArray, List.set_cons_zero, List.set_cons_succ, List.getElem_toArray, List.getElem_cons_zero, List.getElem_cons_succ])
  obtain ⟨wd, hwd⟩ : ∃ wd, (w1.alloc (.cells #[.pointer (some ⟨rb, 1 + tn * 4, none⟩)] 102)).drew = wd := ⟨_, rfl⟩
  rw [hwd]
  have hzd : wd.heap.size = w1.heap.size + 1 := by rw [← hwd]; simp
  have hb1d : Below w1.heap.size w1 wd := by rw [← hwd]; exact ((Below.refl _ _).alloc (Nat.le_refl _) _).drew
  have r0 : wd.cell? ⟨w.heap.size, 0, none⟩ = some (.pointer (some ⟨rb, 0, none⟩)) := (hb1d.cell (p := ⟨w.heap.size, 0, none⟩) (by have := HZ.out; show w.heap.size < _; omega)).trans q0
  have r1 : wd.cell? ⟨w.heap.size + 1, 0, none⟩ = some (.int .i64 (tn : Int)) := (hb1d.cell (p := ⟨w.heap.size + 1, 0, none⟩) (by have := HZ.out; show w.heap.size + 1 < _; omega)).trans q1
  have r2 : wd.cell? ⟨w1.heap.size, 0, none⟩ = some (.pointer (some ⟨rb, 1 + tn * 4, none⟩)) := by rw [← hwd]; exact Aes.RowV.cell (heap_alloc_new w1 _ : Aes.RowV (w1.alloc (.cells #[.pointer (some ⟨rb, 1 + tn * 4, none⟩)] 102)) 102 w1.heap.size [.pointer (some ⟨rb, 1 + tn * 4, none⟩)]) rfl
  have hbwd : Below w.heap.size w wd := HW.out.trans (hb1d.mono (by have := HZ.out; omega))
  obtain ⟨⟨hT, hB, hBr⟩, hR, hD⟩ := HP.out
  have hRd := hR.below hbwd
  have HO := Lib.hid (once_ring D ⟨w.heap.size, 0, none⟩ ⟨w.heap.size + 1, 0, none⟩ ⟨w1.heap.size, 0, none⟩ rb tn w.heap.size master B wd (hT.on (hbwd.mono hB)) (Nat.le_trans hB hbwd.size) hBr (by have := HQ.out.1.2; omega) r0 r1 r2
    (by have := HZ.out; show w.heap.size < _; omega) (by have := HZ.out; show w.heap.size + 1 < _; omega) (by show w1.heap.size < _; omega) (by have := HLR.out; show w.heap.size ≠ _; omega) (by have := HLR.out; show w.heap.size + 1 ≠ _; omega) (by have := HLR.out; have := HZ.out; show w1.heap.size ≠ _; omega) hRd hD hbwd.size)
  have HZD := Lib.hid hzd
  have HWD := Lib.hid hbwd
  clear hwd hzd hb1d hbwd hT hB hBr hR hD hRd q0 q1 r0 r1
  go_wp2_with fail
  refine HO.out.mono ?_
  rintro e w2 ⟨rfl, hR2, ⟨A2, c2, x2, hc1, hc2, hrd2⟩, hF2⟩
  have y2 : w2.cell? ⟨w1.heap.size, 0, none⟩ = some (.pointer (some ⟨rb, 1 + tn * 4, none⟩)) := (World.cell?_of_block (a := ⟨w1.heap.size, 0, none⟩) (hF2.block w1.heap.size ⟨by have := HZD.out; omega, by have := HLR.out; have := HZ.out; omega⟩)).trans r2
  have HR2 := Lib.hid hR2
  have HRD2 := Lib.hid hrd2
  have HF2 := Lib.hid (show Frame (fun k => k < w.heap.size ∧ k ≠ rb) w w2 from (Frame.of_below HWD.out (S := fun k => k < w.heap.size ∧ k ≠ rb) (fun k hk => hk.1)).trans hF2 (fun k hk => ⟨Nat.lt_of_lt_of_le hk.1 HWD.out.size, hk.2⟩))
  have HT2 := Lib.hid (show Tb B w2 from HP.out.1.1.on (HF2.out.toBelow (fun k hk => ⟨by have := HP.out.1.2.1; omega, by have := HP.out.1.2.2; omega⟩)))
  have HZ2 := Lib.hid (show w1.heap.size < w2.heap.size from by have := hF2.size; have := HZD.out; omega)
  have HL2 := Lib.hid (show rb < w2.heap.size from by have := HF2.out.size; have := HLR.out; omega)
  have HZW := Lib.hid HF2.out.size
  have HI := Lib.hid (fun w hT => itoa_any v HQ.out.2.2 B w hT)
  have HKL := Lib.hid (foldL_three (keyT master tn) tokenL versionL (decN v))
  have HKT := Lib.hid (show keyV master tn v = foldL (keyT master tn) [tokenL, versionL, decN v] from rfl)
  have HFO := Lib.hid (fun (w : World) (hr : Rd w w.heap.size A2 (keyT master tn)) Al hls => fold_any A2 32 c2 (keyT master tn) Al 3 3 [tokenL, versionL, decN v] w (keyT_len _ _) (by omega) hr rfl (by omega) hls (by
    intro s hs
    simp only [List.mem_cons, List.not_mem_nil, or_false] at hs
    rcases hs with rfl | rfl | rfl
    · decide
    · decide
    · have := decN_len v HQ.out.2.2; omega))
  have HSR := Lib.hid (fun (w : World) => strRow3 w 9 tokenL versionL (decN v))
  generalize foldL (keyT master tn) [tokenL, versionL, decN v] = kf at *
  generalize keyT master tn = kt at *
  generalize decN v = dn at *
  clear hF2 r2 hrd2 hR2 HO HWD HZD HP HQ HW
  go_wp2_with fail
  refine wp_region_held_drew (S := fun w' => w'.cell? ⟨w1.heap.size, 0, none⟩ = some (.pointer (some ⟨rb, 1 + tn * 4, none⟩)) ∧ w'.cell? ⟨rb, 1 + tn * 4 + 3, none⟩ = some (.slice A2 32 c2)) (by kernel_rfl) (⟨y2, x2⟩) (fun hHeld => ?_)
  refine wpAnyH_take (i := 0) (v := ?_) rfl (by kernel_rfl) (by kernel_rfl) (by kernel_rfl) (fun _ _ _ h => h) (Or.inl ⟨by kernel_rfl, ?_⟩) (by assumption) ?_
  rotate_left
  · (intro w hSw; (try dsimp only at hSw); go_simp; first | done | with_reducible rfl)
  (try simp only [Act.put, List.setIfInBounds_toArray, List.set_cons_zero, List.set_cons_succ, List.getElem_toArray, List.getElem_cons_zero, List.getElem_cons_succ])
  refine wpAnyH_take (i := 1) (v := ?_) rfl (by kernel_rfl) (by kernel_rfl) (by kernel_rfl) (fun _ _ _ h => h) (Or.inl ⟨by kernel_rfl, ?_⟩) (by assumption) ?_
  rotate_left
  · (intro w hSw; (try dsimp only at hSw); go_simp; first | done | with_reducible rfl)
  (try simp only [Act.put, List.setIfInBounds_toArray, List.set_cons_zero, List.set_cons_succ, List.getElem_toArray, List.getElem_cons_zero, List.getElem_cons_succ])
  refine wpAnyH_take (i := 2) (v := ?_) rfl (by kernel_rfl) (by kernel_rfl) (by kernel_rfl) (fun _ _ _ h => h) (Or.inl ⟨by kernel_rfl, ?_⟩) (by assumption) ?_
  rotate_left
  · (intro w hSw; (try dsimp only at hSw); go_simp; first | done | with_reducible rfl)
  (try simp only [Act.put, List.setIfInBounds_toArray, List.set_cons_zero, List.set_cons_succ, List.getElem_toArray, List.getElem_cons_zero, List.getElem_cons_succ])
  refine wpAnyH_take (i := 3) (v := ?_) rfl (by kernel_rfl) (by kernel_rfl) (by kernel_rfl) (fun _ _ _ h => h) (Or.inl ⟨by kernel_rfl, ?_⟩) (by assumption) ?_
  rotate_left
  · (intro w hSw; (try dsimp only at hSw); go_simp; first | done | with_reducible rfl)
  (try simp only [Act.put, List.setIfInBounds_toArray, List.set_cons_zero, List.set_cons_succ, List.getElem_toArray, List.getElem_cons_zero, List.getElem_cons_succ])
  refine wpAnyH_take (i := 4) (v := ?_) rfl (by kernel_rfl) (by kernel_rfl) (by kernel_rfl) (fun _ _ _ h => h) (Or.inl ⟨by kernel_rfl, ?_⟩) (by assumption) ?_
  rotate_left
  · (intro w hSw; (try dsimp only at hSw); go_simp; first | done | with_reducible rfl)
  (try simp only [Act.put, List.setIfInBounds_toArray, List.set_cons_zero, List.set_cons_succ, List.getElem_toArray, List.getElem_cons_zero, List.getElem_cons_succ])
  refine wpAnyH_take (i := 5) (v := ?_) rfl (by kernel_rfl) (by kernel_rfl) (by kernel_rfl) (fun _ _ _ h => h) (Or.inl ⟨by kernel_rfl, ?_⟩) (by assumption) ?_
  rotate_left
  · (intro w hSw; (try dsimp only at hSw); go_simp; first | done | with_reducible rfl)
  (try simp only [Act.put, List.setIfInBounds_toArray, List.set_cons_zero, List.set_cons_succ, List.getElem_toArray, List.getElem_cons_zero, List.getElem_cons_succ])
  refine wpAnyH_ready (rs := [6]) (by kernel_rfl) (by simp) ?_
  refine AllReadyH.cons rfl (fun KK hKK => ?_) AllReadyH.nil
  go_simp
  refine (HI.out _ HT2.out.drew).mono ?_
  rintro e w3 ⟨rfl, hb3⟩
  have hb23 : Below w2.heap.size w2 w3 := (Below.refl _ _).drew.trans hb3
  have hz3 := hb23.size
  have HB23 := Lib.hid hb23
  clear hb3 hb23
  go_wp2_with fail
  refine hKK.out _ _ ?_ (fun hHeld => ?_)
  · (exact ⟨(HB23.out.cell (p := ⟨w1.heap.size, 0, none⟩) HZ2.out).trans y2, (HB23.out.cell (p := ⟨rb, 1 + tn * 4 + 3, none⟩) HL2.out).trans x2⟩)
  clear hKK KK
  (try simp only [Act.put, List.setIfInBounds_toArray, List.set_cons_zero, List.set_cons_succ, List.getElem_toArray, List.getElem_cons_zero, List.getElem_cons_succ])
  refine wpAnyH_ready (rs := [7]) (by kernel_rfl) (by simp) ?_
  refine AllReadyH.cons rfl (fun KK hKK => ?_) AllReadyH.nil
  go_simp
  refine hKK.out _ _ ?_ (fun hHeld => ?_)
  · (have hbA := HB23.out.alloc hz3 (.cells #[.string (str tokenL), .string (str versionL), .string (str dn)] 9); exact ⟨(hbA.cell (p := ⟨w1.heap.size, 0, none⟩) HZ2.out).trans y2, (hbA.cell (p := ⟨rb, 1 + tn * 4 + 3, none⟩) HL2.out).trans x2⟩)
  clear hKK KK
  (try simp only [Act.put, List.setIfInBounds_toArray, List.set_cons_zero, List.set_cons_succ, List.getElem_toArray, List.getElem_cons_zero, List.getElem_cons_succ])
  refine wpAnyH_ready (rs := [8]) (by kernel_rfl) (by simp) ?_
  refine AllReadyH.cons rfl (fun KK hKK => ?_) AllReadyH.nil
  go_simp
  have hbA := HB23.out.alloc hz3 (.cells #[.string (str tokenL), .string (str versionL), .string (str dn)] 9)
  have hrA := rds_off HRD2.out (Frame.of_below hbA (S := fun k => k < w2.heap.size) (fun k hk => hk)) (fun k hk => hk.1)
  refine (HFO.out _ (hrA.rd (fun k hk => hk.1)) _ (HSR.out w3)).mono ?_
  rintro e w4 ⟨v4, rfl, hO4, hb4⟩
  have hbz := hbA.size
  have hb24 : Below w2.heap.size w2 w4 := hbA.trans (hb4.mono hbz)
  obtain ⟨A4, c4, hv4, _, _⟩ := hO4.form
  rw [HKL.out] at hv4
  subst hv4
  have HO4 := Lib.hid (hO4.mono (base' := w.heap.size) (Nat.le_trans HZW.out hbz))
  have HB24 := Lib.hid hb24
  clear hO4 hb4 hb24 hbA hrA hbz
  go_wp2_with fail
  refine hKK.out _ _ ?_ (fun hHeld => ?_)
  · (exact ⟨(HB24.out.cell (p := ⟨w1.heap.size, 0, none⟩) HZ2.out).trans y2, (HB24.out.cell (p := ⟨rb, 1 + tn * 4 + 3, none⟩) HL2.out).trans x2⟩)
  clear hKK KK
  (try simp only [Act.put, List.setIfInBounds_toArray, List.set_cons_zero, List.set_cons_succ, List.getElem_toArray, List.getElem_cons_zero, List.getElem_cons_succ])
  refine wpAnyH_ready (rs := [9]) (by kernel_rfl) (by simp) ?_
  refine AllReadyH.cons rfl (fun KK hKK => ?_) AllReadyH.nil
  go_simp
  refine hKK.out _ _ ?_ (fun hHeld => ?_)
  · (exact ⟨(HB24.out.cell (p := ⟨w1.heap.size, 0, none⟩) HZ2.out).trans y2, (HB24.out.cell (p := ⟨rb, 1 + tn * 4 + 3, none⟩) HL2.out).trans x2⟩)
  clear hKK KK
  (try simp only [Act.put, List.setIfInBounds_toArray, List.set_cons_zero, List.set_cons_succ, List.getElem_toArray, List.getElem_cons_zero, List.getElem_cons_succ])
  refine wpAnyH_ready (rs := [10]) (by kernel_rfl) (by simp) ?_
  refine AllReadyH.cons rfl (fun KK hKK => ?_) AllReadyH.nil
  go_simp
  refine hKK.out _ _ ?_ (fun hHeld => ?_)
  · (exact ⟨(HB24.out.cell (p := ⟨w1.heap.size, 0, none⟩) HZ2.out).trans y2, (HB24.out.cell (p := ⟨rb, 1 + tn * 4 + 3, none⟩) HL2.out).trans x2⟩)
  clear hKK KK
  (try simp only [Act.put, List.setIfInBounds_toArray, List.set_cons_zero, List.set_cons_succ, List.getElem_toArray, List.getElem_cons_zero, List.getElem_cons_succ])
  refine wpAnyH_done (by kernel_rfl) ?_ _
  go_wp2_with fail
  go_ret2
  refine ⟨A4, c4, rfl, by rw [HKT.out]; exact HO4.out, HR2.out.below HB24.out, HF2.out.trans (Frame.of_below HB24.out (S := fun k => k < w2.heap.size) (fun k hk => hk)) (fun k hk => Nat.lt_of_lt_of_le hk.1 HF2.out.size)⟩
end Go.Proofs.YtkgnnlglabihkaaGreatDoor.Top
