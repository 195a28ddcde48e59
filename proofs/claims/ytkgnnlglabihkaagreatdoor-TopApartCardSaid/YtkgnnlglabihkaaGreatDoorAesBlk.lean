/- The block's own steps: laying a key, turning, mixing: contracts, by walking their text. -/
import Derived.Test.YtkgnnlglabihkaaGreatDoorAesFld
import Derived.Test.YtkgnnlglabihkaaGreatDoorAesPlain
import Derived.Test.YtkgnnlglabihkaaGreatDoorMemAll
import Derived.StillTailTactics
import Derived.BigQuiet
import Derived.Deep.MidRow
import Derived.IntWalk
import Derived.ChangeKeysEq
namespace Go.Proofs.YtkgnnlglabihkaaGreatDoor.Aes
open Go Go.ChangeShapes Go.WideShapes Go.ChangeAt Go.RowKit Go.Proofs.YtkgnnlglabihkaaGreatDoor.Fld
set_option linter.unusedVariables false
set_option linter.unusedSimpArgs false

/-- a block known whole -/
def RowV (w : World) (T : TypeId) (g : Nat) (xs : List Value) : Prop := w.heap[g]? = some (.cells xs.toArray T (0, 0))
section
variable {w w' : World} {T : TypeId} {g : Nat} {xs : List Value}
theorem RowV.lt (h : RowV w T g xs) : g < w.heap.size := (Array.getElem?_eq_some_iff.1 h).1
theorem RowV.cell (h : RowV w T g xs) {i : Nat} {v : Value} (hi : xs[i]? = some v) : w.cell? ⟨g, i, none⟩ = some v := by rw [cell_of_row w g i _ T (0, 0) h]; simpa using hi
theorem RowV.frozen (h : RowV w T g xs) (i : Nat) : w.frozen? ⟨g, i, none⟩ = false := frozen_of_row w g i _ T h
theorem RowV.keep (h : RowV w T g xs) (hk : w'.heap[g]? = w.heap[g]?) : RowV w' T g xs := hk.trans h
theorem RowV.far (h : RowV w T g xs) {p : Addr} (hp : g ≠ p.block) (u : Value) : RowV (w.setCell p u) T g xs := (heap_setCell_other w p g u hp).trans h
theorem RowV.set (h : RowV w T g xs) (i : Nat) (u : Value) : RowV (w.setCell ⟨g, i, none⟩ u) T g (xs.set i u) := by
  have := heap_setCell_same w g i _ T u h
  unfold RowV; rw [this]; simp
theorem RowV.alloc (h : RowV w T g xs) (o : Obj) : RowV (w.alloc o) T g xs := (heap_alloc_old w o h.lt).trans h
theorem RowV.grown {row : Option Nat} (h : RowV w T g xs) (hg : w.grownBy w' row) (hne : some g ≠ row) : RowV w' T g xs := h.keep (hg.block g h.lt hne)
theorem RowV.range (h : RowV w T g xs) (o : Nat) {cs : List Value} (hc : (xs.drop o).take cs.length = cs) : w.rangeAt g o cs := fun j v hj => by
  have hl : j < cs.length := (List.getElem?_eq_some_iff.1 hj).1
  refine h.cell ?_
  rw [← hc, List.getElem?_take, if_pos hl, List.getElem?_drop] at hj
  exact hj
end
/-- all that was there but block g -/
def But (w : World) (g : Nat) (b : Nat) : Prop := b < w.heap.size ∧ b ≠ g
theorem u8x (a b : UInt8) : bits BinOp.xor IntKind.u8 ((a.toNat : Nat) : Int) ((b.toNat : Nat) : Int) = (((a ^^^ b).toNat : Nat) : Int) := by
  rw [u8_xor_nat _ _ a.toNat_lt b.toNat_lt, UInt8.toNat_xor]
/-- done up to place i -/
def upto (i : Nat) (new old : Blk) : Blk := new.take i ++ old.drop i
theorem upto_zero (new old : Blk) : upto 0 new old = old := rfl
theorem upto_all {new old : Blk} (hn : new.length = 16) (ho : old.length = 16) : upto 16 new old = new := by
  unfold upto; rw [List.take_of_length_le (by omega), List.drop_eq_nil_of_le (by omega), List.append_nil]
theorem upto_get {new old : Blk} {i : Nat} (hn : new.length = 16) (ho : old.length = 16) (hi : i < 16) : (bvs (upto i new old))[i]? = some (bv (at_ old i)) := by
  have hl : (upto i new old).length = 16 := by unfold upto; simp; omega
  rw [bvs_get (by omega)]
  congr 2
  have e : (upto i new old)[i]? = old[i]? := by
    unfold upto
    rw [List.getElem?_append_right (by rw [List.length_take]; omega), List.length_take, show i - min i new.length = 0 by omega, List.getElem?_drop, Nat.add_zero]
  have e1 : (upto i new old)[i]? = some (upto i new old)[i] := List.getElem?_eq_getElem (by omega)
  unfold at_
  rw [List.getD_eq_getElem?_getD, ← e, e1]; rfl
theorem upto_set {new old : Blk} {i : Nat} (hn : new.length = 16) (ho : old.length = 16) (hi : i < 16) : (bvs (upto i new old)).set i (bv (at_ new i)) = bvs (upto (i + 1) new old) := by
  unfold bvs
  rw [← List.map_set]
  congr 1
  unfold upto at_
  rw [List.set_append_right _ _ (by rw [List.length_take]; omega)]
  have e : old.drop i = old[i] :: old.drop (i + 1) := List.drop_eq_getElem_cons (by omega)
  have e2 : new.getD i 0 = new[i] := by rw [List.getD_eq_getElem?_getD, List.getElem?_eq_getElem (by omega)]; rfl
  rw [e, List.length_take, show i - min i new.length = 0 by omega, List.set_cons_zero, List.take_succ_eq_append_getElem (show i < new.length by omega), e2, List.append_assoc]
  rfl
theorem bvs_at {s : Blk} (h : s.length = 16) {i : Nat} (hi : i < 16) : (bvs s)[i]? = some (bv (at_ s i)) := by
  rw [bvs_get (by omega)]
  simp [at_, List.getD_eq_getElem?_getD, List.getElem?_eq_getElem (show i < s.length by omega)]
theorem lay_at {a b : Blk} (ha : a.length = 16) (hb : b.length = 16) {i : Nat} (hi : i < 16) : at_ (lay a b) i = at_ a i ^^^ at_ b i := by
  unfold lay at_
  simp [List.getD_eq_getElem?_getD, List.getElem?_zipWith, List.getElem?_eq_getElem (show i < a.length by omega), List.getElem?_eq_getElem (show i < b.length by omega)]
theorem bv_int (x : UInt8) : bv x = .int .u8 ((x.toNat : Nat) : Int) := rfl

set_option maxRecDepth 100000 in
set_option maxHeartbeats 1000000 in
theorem lay_any (g : Nat) (T : TypeId) (s k : Blk) (hs : s.length = 16) (hk : k.length = 16) (w : World) (hg : RowV w T g (bvs s)) :
    Calls Tryz.prog 93 #[.pointer (some ⟨g, 0, none⟩), .agg (bvs k).toArray] w fun e w' => e = .returned (.tuple #[]) ∧ RowV w' T g (bvs (lay s k)) ∧ Frame (But w g) w w' := by
  have hll := lay_length hs hk
  go_enter Tryz.func93, Tryz.ntmps93
  go_wp2
  have hg0 : RowV (w.alloc (.cells (bvs k).toArray 166)) T g (bvs (upto 0 (lay s k) s)) := hg.alloc _
  have hk0 : RowV (w.alloc (.cells (bvs k).toArray 166)) 166 w.heap.size (bvs k) := heap_alloc_new w _
  have hw0 : Frame (But w g) w (w.alloc (.cells (bvs k).toArray 166)) := (Frame.refl _ _).alloc (fun b h => h.1) _
  have hgne : w.heap.size ≠ g := by have := hg.lt; omega
  go_loopw [5] (fun i wr => ∃ t : Nat, t ≤ 16 ∧ i = .int .i64 t ∧ RowV wr T g (bvs (upto t (lay s k) s)) ∧ RowV wr 166 w.heap.size (bvs k) ∧ Frame (But w g) w wr) (fun i _ => 16 - (intOf i).toNat)
  case atStart => exact ⟨0, by omega, rfl, hg0, hk0, hw0⟩
  case round =>
    obtain ⟨t, ht, rfl, hgr, hkr, hwr⟩ := hrel
    by_cases hlt : t < 16
    · have c1 := hgr.cell (upto_get hll hs hlt)
      have f1 := hgr.frozen t
      have c2 := hkr.cell (bvs_at hk hlt)
      have hx := u8x (at_ s t) (at_ k t)
      have hset := hgr.set t (bv (at_ (lay s k) t))
      rw [upto_set hll hs hlt] at hset
      rw [← lay_at hs hk hlt] at hx
      rw [bv_int] at c1 c2
      rw [bv_int] at hset
      have HSET := Lib.hid hset
      have HKS := Lib.hid (hkr.far (p := ⟨g, t, none⟩) hgne (.int .u8 ((at_ (lay s k) t).toNat : Int)))
      have HWS := Lib.hid (hwr.setCell (p := ⟨g, t, none⟩) (fun h => h.2 rfl) (.int .u8 ((at_ (lay s k) t).toNat : Int)))
      clear hset hgr hkr hwr
      generalize (at_ (lay s k) t).toNat = z at *
      generalize (at_ s t).toNat = x at *
      generalize (at_ k t).toNat = y at *
      go_wp2_with fail
      refine wp_region_still_tail 11 (by kernel_rfl) (by kernel_rfl) ?_
      change wpStill _ _ (World.drew wr) (fun a' => wpList _ _ _ _ a' (World.drew wr)) _ _
      simp only [List.take_succ_cons, List.take_zero, List.drop_succ_cons, List.drop_zero]
      repeat still_step
      refine wpStill_nil ?_
      go_wp2_with fail
      go_roundw
      case rel =>
        exact ⟨t + 1, by omega, by go_num, HSET.out, HKS.out, HWS.out.drew⟩
      case measure => simp [intOf]; omega
    · have e16 : t = 16 := by omega
      subst e16
      rw [upto_all hll hs] at hgr
      go_wp2_with fail
      go_end0
      exact ⟨rfl, hgr, hwr⟩
theorem run_index_arr {P : Program} {t e : TypeId} {n : Nat} (h : P.underlying t = some (.array n e)) (he : P.plainKey e = true) (hs : (P.info? e).map (·.size) = some 1) {cs : Array Value} {k : Nat} {v : Value} (hk : k < n) (hc : cs[k]? = some v) (w : World) :
    (Instr.index t (.agg cs) (.int .i64 (k : Int))).run P w = .ok v w := by
  obtain ⟨i, hi, hsz⟩ : ∃ i, P.info? e = some i ∧ i.size = 1 := by
    cases hq : P.info? e with
    | none => rw [hq] at hs; cases hs
    | some i => rw [hq] at hs; exact ⟨i, rfl, by simpa using hs⟩
  have hp := run_part_plain (w := w) he hc
  simp [Instr.index, run_underlying h, asIntOf, hk, sizeOf, typeInfo, hi, hsz, hp]
/-- a table of 256 in the middle of a block -/
def Tbl (w : World) (g o : Nat) (f : UInt8 → UInt8) : Prop := ∀ x : UInt8, w.cell? ⟨g, o + x.toNat, none⟩ = some (bv (f x))
theorem Tbl.keep {w w' : World} {g o : Nat} {f : UInt8 → UInt8} (h : Tbl w g o f) (hk : w'.heap[g]? = w.heap[g]?) : Tbl w' g o f := fun x => (World.cell?_of_block hk).trans (h x)
theorem turnL_at {f : UInt8 → UInt8} {s : Blk} {i : Nat} (hi : i < 16) : at_ (turnL f s) i = f (at_ s ((i + 4 * (i % 4)) % 16)) := by
  unfold turnL at_
  simp [List.getD_eq_getElem?_getD, hi]
theorem setRow_alloc_new (w : World) (old cs : Array Value) (t : TypeId) : (w.alloc (.cells old t)).setRow w.heap.size cs = w.alloc (.cells cs t) := by
  show ({ w with heap := (w.heap.push (.cells old t)).modify w.heap.size _ } : World) = { w with heap := w.heap.push (.cells cs t) }
  congr 1
  apply Array.ext
  · simp
  · intro i h1 h2
    rw [Array.getElem_modify, Array.getElem_push, Array.getElem_push]
    by_cases e : w.heap.size = i
    · subst e; simp
    · have hi : i < w.heap.size := by simp at h2; omega
      simp [e, hi]
theorem idx_facts {t : Nat} (ht : t < 16) : ∃ r m n q : Nat, ((t : Int).tmod 4 = (r : Int)) ∧ IntKind.i64.wrap (4 * (r : Int)) = (m : Int) ∧ IntKind.i64.wrap ((t : Int) + (m : Int)) = (n : Int) ∧ ((n : Int).tmod 16 = (q : Int)) ∧ q = (t + 4 * (t % 4)) % 16 ∧ q < 16 := by
  refine ⟨t % 4, 4 * (t % 4), t + 4 * (t % 4), (t + 4 * (t % 4)) % 16, ?_, ?_, ?_, ?_, rfl, Nat.mod_lt _ (by omega)⟩
  · rw [Int.tmod_eq_emod_of_nonneg (by omega)]; push_cast; rfl
  · rw [IntWalk.i64_in _ (by omega)]; push_cast; rfl
  · rw [IntWalk.i64_in _ (by omega)]; push_cast; rfl
  · rw [Int.tmod_eq_emod_of_nonneg (by omega)]; push_cast; rfl
/-- a whole array into a new block -/
theorem wpList_store_new {P : Program} {ops : Array Oper} {rest : List Oper} {op : Oper} {a : Act} {w : World} {Q : Exit → Act → World → Prop} (hgd : op.guard = none) (ty : TypeId) (x y : Operand) (ho : op.op = .store ty x y)
    (old : Array Value) (t : TypeId) (cs : List Value) (hx : a.eval x = .pointer (some ⟨w.heap.size, 0, none⟩)) (hy : a.eval y = .agg cs.toArray) (hi : (P.info? ty).map (·.size) = some cs.length) (hs : old.size = cs.length) (h1 : ∀ v ∈ cs, v.oneCell' = true)
    (h : wpList P ops Q rest (a.put op.dst undef) (w.alloc (.cells cs.toArray t))) : wpList P ops Q (op :: rest) a (w.alloc (.cells old t)) := by
  refine wpList_plain hgd fun _ hK => ?_
  have hr := run_storeVar_row (P := P) (w.alloc (.cells old t)) w.heap.size t ty old cs.toArray (heap_alloc_new w _) (by simpa using hi) (by simpa using hs) (all_oneCell_toArray h1)
  rw [setRow_alloc_new] at hr
  unfold Oper.wp execOp
  simp only [ho, hx, hy, Instr.storeAt, Instr.sureAddr, Sem.run_bind, Sem.run_pure, Result.andThen_ok, hr]
  exact hK _ _ h
theorem blk_range {w : World} {g : Nat} {T : TypeId} {s : List UInt8} (hg : RowV w T g (bvs s)) : w.rangeAt g 0 (bvs s) := fun j v hj => by rw [Nat.zero_add]; exact hg.cell hj

set_option maxRecDepth 100000 in
set_option maxHeartbeats 1000000 in
theorem turn_any (g gk o : Nat) (T : TypeId) (f : UInt8 → UInt8) (s : Blk) (hs : s.length = 16) (w : World) (hg : RowV w T g (bvs s)) (hk : Tbl w gk o f) (hne : gk ≠ g) (hgk : gk < w.heap.size) :
    Calls Tryz.prog 94 #[.pointer (some ⟨g, 0, none⟩), .pointer (some ⟨gk, o, none⟩)] w fun e w' => e = .returned (.tuple #[]) ∧ RowV w' T g (bvs (turnL f s)) ∧ Frame (But w g) w w' := by
  have hll := turnL_length f s
  have hsl : (bvs s).length = 16 := by rw [bvs_length, hs]
  go_enter Tryz.func94, Tryz.ntmps94
  go_wp2_with (first
    | (with_reducible refine at_slot 8 ?_
       refine wpList_load_mid rfl _ _ rfl g 0 rfl (bvs s) (.array 16 5) (blk_range hg) Tryz.underlying166 rfl (by rw [hsl]; kernel_rfl) ?_)
    | (with_reducible refine at_store 4 ?_
       refine wpList_store_new rfl _ _ _ rfl _ _ (bvs s) rfl rfl (by rw [hsl]; kernel_rfl) (by rw [hsl]; rfl) (bvs_one s) ?_))
  have hg0 : RowV (w.alloc (.cells (bvs s).toArray 166)) T g (bvs (upto 0 (turnL f s) s)) := hg.alloc _
  have hk0 : RowV (w.alloc (.cells (bvs s).toArray 166)) 166 w.heap.size (bvs s) := heap_alloc_new w _
  have hw0 : Frame (But w g) w (w.alloc (.cells (bvs s).toArray 166)) := (Frame.refl _ _).alloc (fun b h => h.1) _
  have hgne : w.heap.size ≠ g := by have := hg.lt; omega
  have HKT := Lib.hid hk
  clear hg hk
  go_loopw [9] (fun i wr => ∃ t : Nat, t ≤ 16 ∧ i = .int .i64 t ∧ RowV wr T g (bvs (upto t (turnL f s) s)) ∧ RowV wr 166 w.heap.size (bvs s) ∧ Frame (But w g) w wr) (fun i _ => 16 - (intOf i).toNat)
  case atStart => exact ⟨0, by omega, rfl, hg0, hk0, hw0⟩
  case round =>
    obtain ⟨t, ht, rfl, hgr, hkr, hwr⟩ := hrel
    clear hg0 hk0 hw0
    by_cases hlt : t < 16
    · obtain ⟨r, m, n, q, i1, i2, i3, i4, hq, hq16⟩ := idx_facts hlt
      have f1 := hgr.frozen t
      have c0 := hgr.cell (upto_get hll hs hlt)
      have c2 := hkr.cell (bvs_at hs hq16)
      have c3 := (HKT.out.keep (hwr.block gk ⟨hgk, hne⟩)) (at_ s q)
      have hset := hgr.set t (bv (at_ (turnL f s) t))
      rw [upto_set hll hs hlt] at hset
      have hat : at_ (turnL f s) t = f (at_ s q) := by rw [turnL_at hlt, hq]
      rw [hat] at hset
      rw [bv_int] at c0 c2 c3 hset
      have hx256 : ((at_ s q).toNat : Int) < 256 := by have := (at_ s q).toNat_lt; omega
      have hqi : (q : Int) < 16 := by omega
      have HSET := Lib.hid hset
      have HKS := Lib.hid (hkr.far (p := ⟨g, t, none⟩) hgne (.int .u8 ((f (at_ s q)).toNat : Int)))
      have HWS := Lib.hid (hwr.setCell (p := ⟨g, t, none⟩) (fun h => h.2 rfl) (.int .u8 ((f (at_ s q)).toNat : Int)))
      clear hset hgr hkr hwr hat hq
      generalize (f (at_ s q)).toNat = z at *
      generalize (at_ s q).toNat = x at *
      generalize (at_ s t).toNat = y at *
      go_wp2_with fail
      refine wp_region_still_tail 16 (by kernel_rfl) (by kernel_rfl) ?_
      change wpStill _ _ (World.drew wr) (fun a' => wpList _ _ _ _ a' (World.drew wr)) _ _
      simp only [List.take_succ_cons, List.take_zero, List.drop_succ_cons, List.drop_zero]
      repeat still_step
      refine wpStill_nil ?_
      go_wp2_with fail
      go_roundw
      case rel =>
        exact ⟨t + 1, by omega, by go_num, HSET.out, HKS.out, HWS.out.drew⟩
      case measure => simp [intOf]; omega
    · have e16 : t = 16 := by omega
      subst e16
      rw [upto_all hll hs] at hgr
      go_wp2_with fail
      go_end0
      exact ⟨rfl, hgr, hwr⟩
theorem gm2 (x : UInt8) : gm x.toNat 2 = (tw x).toNat := by
  rw [← tm2 x]; unfold tm; rw [nat8 (gm_lt _ _ x.toNat_lt)]
set_option maxRecDepth 100000 in
theorem tw_any (x : UInt8) (w : World) : Calls Tryz.prog 114 #[.int .u8 ((x.toNat : Nat) : Int)] w fun e w' => e = .returned (.int .u8 (((tw x).toNat : Nat) : Int)) ∧ w' = w := by
  have hx := x.toNat_lt
  have h0 : (0 : Int) ≤ (x.toNat : Int) := by omega
  have h1 : (x.toNat : Int) < 256 := by omega
  have HG := Lib.hid (gm2 x)
  generalize hn : x.toNat = n at *
  clear hx hn
  go_enter Tryz.func114, Tryz.ntmps114
  go_wp2_with fail
  refine (mul_any (n : Int) 2 h0 h1 (by omega) (by omega) _).mono ?_
  rintro e w' ⟨rfl, rfl⟩
  go_wp2_with fail
  go_ret
  refine ⟨?_, rfl⟩
  show Ending.returned (Value.int .u8 ((gm n 2 : Nat) : Int)) = _
  rw [HG.out]
/-- the way back, done for the first i -/
def um (f : UInt8 → UInt8) (s : Blk) : Nat → Blk
  | 0 => s
  | i+1 => (um f s i).set ((i + 4 * (i % 4)) % 16) (f (at_ s i))
theorem um_length {f : UInt8 → UInt8} {s : Blk} (h : s.length = 16) : ∀ i, (um f s i).length = 16
  | 0 => h
  | i+1 => by rw [um, List.length_set, um_length h i]
theorem um_all {f : UInt8 → UInt8} {s : Blk} (h : s.length = 16) : um f s 16 = unturnL f s := by
  obtain ⟨a, b, c, d, e, f', g, i, j, k, l, y, n, o, p, q, rfl⟩ := sixteen h
  rfl
theorem bvs_set (l : List UInt8) (i : Nat) (x : UInt8) : (bvs l).set i (bv x) = bvs (l.set i x) := by unfold bvs; rw [List.map_set]
/-! ### mixing -/
theorem colL_at {f : UInt8 → UInt8 → UInt8 → UInt8 → UInt8} {s : Blk} {i : Nat} (hi : i < 16) : at_ (colL f s) i = f (at_ s i) (at_ s (i / 4 * 4 + (i + 1) % 4)) (at_ s (i / 4 * 4 + (i + 2) % 4)) (at_ s (i / 4 * 4 + (i + 3) % 4)) := by
  have : (colL f s)[i]? = some (f (at_ s i) (at_ s (i / 4 * 4 + (i + 1) % 4)) (at_ s (i / 4 * 4 + (i + 2) % 4)) (at_ s (i / 4 * 4 + (i + 3) % 4))) := by
    unfold colL; rw [List.getElem?_map, List.getElem?_range hi]; rfl
  show (colL f s).getD i 0 = _
  rw [List.getD_eq_getElem?_getD, this]; rfl
theorem mix_val {s : Blk} {k r : Nat} (hk : k < 4) (hr : r < 4) : at_ s (4*k+r) ^^^ ((((at_ s (4*k+0) ^^^ at_ s (4*k+1)) ^^^ at_ s (4*k+2)) ^^^ at_ s (4*k+3)) ^^^ tw (at_ s (4*k+r) ^^^ at_ s (4*k+(r+1)%4))) = at_ (mixL s) (4*k+r) := by
  unfold mixL
  rw [colL_at (by omega)]
  have e : (4*k+r) / 4 * 4 = 4*k := by omega
  have e1 : (4*k+r+1) % 4 = (r+1) % 4 := by omega
  have e2 : (4*k+r+2) % 4 = (r+2) % 4 := by omega
  have e3 : (4*k+r+3) % 4 = (r+3) % 4 := by omega
  rw [e, e1, e2, e3]
  refine m_go _ _ _ _ _ ?_
  have hcase : r = 0 ∨ r = 1 ∨ r = 2 ∨ r = 3 := by omega
  rcases hcase with rfl | rfl | rfl | rfl <;> simp only [Nat.reduceAdd, Nat.reduceMod] <;> ac_rfl
set_option maxRecDepth 20000 in
theorem slice_blk (g c : Nat) (hc : c + 4 ≤ 16) (w : World) : (Instr.sliceAt 166 (.pointer (some ⟨g, 0, none⟩)) (some (.int .i64 (c : Int))) (some (.int .i64 ((c : Int) + 4))) none).run Tryz.prog w = .ok (.slice (some ⟨g, c, none⟩) 4 (16 - c)) w := by
  have hu : Tryz.prog.underlying 166 = some (.array (Tryz.prog.arrayLen 166) (Tryz.prog.elem 166)) := by kernel_rfl
  have hl : Tryz.prog.arrayLen 166 = 16 := by kernel_rfl
  have hz : (sizeOf (Tryz.prog.elem 166)).run Tryz.prog w = .ok 1 w := by kernel_rfl
  rw [run_sliceAt_array_lh w _ _ hu .i64 .i64 (c : Int) ((c : Int) + 4) (by omega) (by omega) (by rw [hl]; omega), hz, Result.andThen_ok, slicedAt, hl, if_neg (by omega), addr_add]
  congr 3
  · rw [Int.toNat_natCast]; congr 1; omega
  · rw [Int.toNat_natCast]; omega
theorem arr_at (g c n m : Nat) (w : World) (hn : n = 4) : (Instr.arrayAt 191 (.slice (some ⟨g, c, none⟩) n m)).run Tryz.prog w = .ok (.pointer (some ⟨g, c, none⟩)) w := by
  subst hn
  simp [Instr.arrayAt, run_underlying Tryz.underlying191]
def X4 (s : Blk) (c : Nat) : Blk := [at_ s (c+0), at_ s (c+1), at_ s (c+2), at_ s (c+3)]
theorem X4_at {s : Blk} {c r : Nat} (hr : r < 4) : (bvs (X4 s c))[r]? = some (bv (at_ s (c+r))) := by
  have hcase : r = 0 ∨ r = 1 ∨ r = 2 ∨ r = 3 := by omega
  rcases hcase with rfl | rfl | rfl | rfl <;> rfl
theorem upto_later {new old : Blk} {i j : Nat} (hn : new.length = 16) (ho : old.length = 16) (hj : j < 16) (hij : i ≤ j) : (bvs (upto i new old))[j]? = some (bv (at_ old j)) := by
  have hl : (upto i new old).length = 16 := by unfold upto; simp; omega
  rw [bvs_get (by omega)]
  congr 2
  have e : (upto i new old)[j]? = old[j]? := by
    unfold upto
    rw [List.getElem?_append_right (by rw [List.length_take]; omega), List.length_take, List.getElem?_drop, show i + (j - min i new.length) = j by omega]
  have e1 : (upto i new old)[j]? = some (upto i new old)[j] := List.getElem?_eq_getElem (by omega)
  unfold at_
  rw [List.getD_eq_getElem?_getD, ← e, e1]; rfl
theorem idx_facts4 {k r c : Nat} (hk : k < 4) (hr : r < 4) (hc : c = 4*k) : ∃ p m q : Nat, IntKind.i64.wrap ((c : Int) + (r : Int)) = (p : Int) ∧ IntKind.i64.wrap ((r : Int) + 1) = (m : Int) ∧ ((m : Int).tmod 4 = (q : Int)) ∧ p = 4*k+r ∧ q = (r+1) % 4 ∧ p < 16 ∧ q < 4 := by
  subst hc
  refine ⟨4*k+r, r+1, (r+1) % 4, ?_, ?_, ?_, rfl, rfl, by omega, Nat.mod_lt _ (by omega)⟩
  · rw [IntWalk.i64_in _ (by omega)]; push_cast; rfl
  · rw [IntWalk.i64_in _ (by omega)]; push_cast; rfl
  · rw [Int.tmod_eq_emod_of_nonneg (by omega)]; push_cast; rfl
set_option maxRecDepth 100000 in
set_option maxHeartbeats 1000000 in
theorem mix_any (g : Nat) (T : TypeId) (s : Blk) (hs : s.length = 16) (w : World) (hg : RowV w T g (bvs s)) :
    Calls Tryz.prog 95 #[.pointer (some ⟨g, 0, none⟩)] w fun e w' => e = .returned (.tuple #[]) ∧ RowV w' T g (bvs (mixL s)) ∧ Frame (But w g) w w' := by
  have hll : (mixL s).length = 16 := colL_length _ _
  go_enter Tryz.func95, Tryz.ntmps95
  go_wp2_with fail
  have hg0 : RowV w T g (bvs (upto 0 (mixL s) s)) := hg
  clear hg
  go_loopw [2] (fun i wr => ∃ k c : Nat, c = 4*k ∧ k ≤ 4 ∧ i = .int .i64 (c : Int) ∧ RowV wr T g (bvs (upto c (mixL s) s)) ∧ Frame (But w g) w wr) (fun i _ => 16 - (intOf i).toNat)
  case atStart => exact ⟨0, 0, rfl, by omega, rfl, hg0, Frame.refl _ _⟩
  case round =>
    obtain ⟨k, c, hc, hk, rfl, hgr, hwr⟩ := hrel
    clear hg0
    by_cases hlt : k < 4
    · have b0 : (c : Int) < 16 := by omega
      have b1 : (c : Int) + 4 ≤ 16 := by omega
      have hrg : wr.rangeAt g c (bvs (X4 s c)) := fun j v hj => by
        have hj4 : j < 4 := (List.getElem?_eq_some_iff.1 hj).1
        rw [X4_at hj4] at hj
        injection hj with hj
        subst hj
        exact hgr.cell (upto_later hll hs (by omega) (by omega))
      have HRG := Lib.hid hrg
      have HGR := Lib.hid hgr
      have HWR := Lib.hid hwr
      have HC := Lib.hid hc
      clear hrg hgr hwr hc
      have hsl := slice_blk g c (by omega)
      have har := fun w => arr_at g c 4 (16 - c) w rfl
      have hxr : RowV (wr.alloc (.cells (bvs (X4 s c)).toArray 191)) 191 wr.heap.size (bvs (X4 s c)) := heap_alloc_new wr _
      have HXR := Lib.hid hxr
      have y0 := hxr.cell (X4_at (r := 0) (by omega))
      have y1 := hxr.cell (X4_at (r := 1) (by omega))
      have y2 := hxr.cell (X4_at (r := 2) (by omega))
      have y3 := hxr.cell (X4_at (r := 3) (by omega))
      have z1 := u8x (at_ s (c+0)) (at_ s (c+1))
      have z2 := u8x (at_ s (c+0) ^^^ at_ s (c+1)) (at_ s (c+2))
      have z3 := u8x (at_ s (c+0) ^^^ at_ s (c+1) ^^^ at_ s (c+2)) (at_ s (c+3))
      obtain ⟨E, hE⟩ : ∃ E, at_ s (c+0) ^^^ at_ s (c+1) ^^^ at_ s (c+2) ^^^ at_ s (c+3) = E := ⟨_, rfl⟩
      rw [hE] at z3
      rw [bv_int] at y0 y1 y2 y3
      have HE := Lib.hid hE
      clear hxr hE
      generalize (at_ s (c+0) ^^^ at_ s (c+1) ^^^ at_ s (c+2)).toNat = v2 at *
      generalize (at_ s (c+0) ^^^ at_ s (c+1)).toNat = v1 at *
      generalize (at_ s (c+0)).toNat = x0 at *
      generalize (at_ s (c+1)).toNat = x1 at *
      generalize (at_ s (c+2)).toNat = x2 at *
      generalize (at_ s (c+3)).toNat = x3 at *
      go_wp2_with (first
        | (with_reducible refine at_slot 17 ?_
           refine wpList_load_mid rfl _ _ rfl g c rfl (bvs (X4 s c)) (.array 4 5) HRG.out Tryz.underlying191 rfl (by kernel_rfl) ?_)
        | (with_reducible refine at_store 3 ?_
           refine wpList_store_new rfl _ _ _ rfl _ _ (bvs (X4 s c)) rfl rfl (by kernel_rfl) rfl (bvs_one _) ?_))
      clear y0 y1 y2 y3 z1 z2 z3 hsl har
      have hgr0 : RowV (wr.alloc (.cells (bvs (X4 s c)).toArray 191)) T g (bvs (upto (c + 0) (mixL s) s)) := HGR.out.alloc _
      have hwr0 : Frame (But w g) w (wr.alloc (.cells (bvs (X4 s c)).toArray 191)) := HWR.out.alloc (fun b h => Nat.lt_of_lt_of_le h.1 HWR.out.size) _
      have hgne : wr.heap.size ≠ g := by have := HGR.out.lt; omega
      obtain ⟨xb, hxb⟩ : ∃ xb, wr.heap.size = xb := ⟨_, rfl⟩
      rw [hxb] at hgne HXR
      rw [hxb]
      generalize wr.alloc (.cells (bvs (X4 s c)).toArray 191) = wa at *
      clear HGR HWR HRG
      go_loopw [29] (fun i wi => ∃ r : Nat, r ≤ 4 ∧ i = .int .i64 r ∧ RowV wi T g (bvs (upto (c + r) (mixL s) s)) ∧ RowV wi 191 xb (bvs (X4 s c)) ∧ Frame (But w g) w wi) (fun i _ => 4 - (intOf i).toNat)
      case atStart => exact ⟨0, by omega, rfl, hgr0, HXR.out, hwr0⟩
      case round =>
        obtain ⟨r, hr, rfl, hgi, hxi, hwi⟩ := hrel
        clear hgr0 hwr0
        by_cases hltr : r < 4
        · obtain ⟨p, m, q, i1, i2, i3, hp, hq, hp16, hq4⟩ := idx_facts4 hlt hltr HC.out
          have hpc : c + r = p := by have := HC.out; omega
          have f1 := hgi.frozen p
          have c0 := hgi.cell (upto_get (i := c + r) hll hs (by omega))
          have c1 := hxi.cell (X4_at (s := s) (c := c) hltr)
          have c2 := hxi.cell (X4_at (s := s) (c := c) hq4)
          have hv := mix_val (s := s) hlt hltr
          rw [← HC.out, ← hq, HE.out, hpc] at hv
          have hset := hgi.set (c + r) (bv (at_ (mixL s) (c + r)))
          rw [upto_set hll hs (by omega), hpc, ← hv] at hset
          rw [hpc] at c0
          have c1' : wr.cell? ⟨xb, r, none⟩ = some (bv (at_ s p)) := by rw [← hpc]; exact c1
          clear c1
          rw [bv_int] at c0 c1' c2 hset
          have w1 := u8x (at_ s p) (at_ s (c + q))
          have w2 := u8x E (tw (at_ s p ^^^ at_ s (c + q)))
          have w3 := u8x (at_ s p) (E ^^^ tw (at_ s p ^^^ at_ s (c + q)))
          have htw := tw_any (at_ s p ^^^ at_ s (c + q)) wr.drew
          have q1 : (q : Int) < 4 := by omega
          have p1 : (p : Int) < 16 := by omega
          have r1 : (r : Int) < 4 := by omega
          have HSET := Lib.hid hset
          have HKS := Lib.hid (hxi.far (p := ⟨g, p, none⟩) hgne (.int .u8 ((at_ s p ^^^ (E ^^^ tw (at_ s p ^^^ at_ s (c + q)))).toNat : Int)))
          have HWS := Lib.hid (hwi.setCell (p := ⟨g, p, none⟩) (fun h => h.2 rfl) (.int .u8 ((at_ s p ^^^ (E ^^^ tw (at_ s p ^^^ at_ s (c + q)))).toNat : Int)))
          have HTW := Lib.hid htw
          have HPC := Lib.hid hpc
          clear hset hgi hxi hwi hq hp hv htw hpc
          generalize (at_ s p ^^^ (E ^^^ tw (at_ s p ^^^ at_ s (c + q)))).toNat = z4 at *
          generalize (E ^^^ tw (at_ s p ^^^ at_ s (c + q))).toNat = z3 at *
          generalize (tw (at_ s p ^^^ at_ s (c + q))).toNat = z2 at *
          generalize (at_ s p ^^^ at_ s (c + q)).toNat = z1 at *
          generalize (at_ s p).toNat = a1 at *
          generalize (at_ s (c + q)).toNat = a2 at *
          go_wp2_with fail
          refine wp_region_still_tail 22 (by kernel_rfl) (by kernel_rfl) ?_
          change wpStill _ _ (World.drew wr) (fun a' => wpList _ _ _ _ a' (World.drew wr)) _ _
          simp only [List.take_succ_cons, List.take_zero, List.drop_succ_cons, List.drop_zero]
          repeat still_step
          still_call HTW.out
          repeat still_step
          refine wpStill_nil ?_
          clear i1 i2 i3
          go_wp2_with fail
          go_roundw
          case rel =>
            exact ⟨r + 1, by omega, by go_num, (by rw [show c + (r + 1) = p + 1 by have := HPC.out; omega]; exact HSET.out), HKS.out, HWS.out.drew⟩
          case measure => simp [intOf]; omega
        · have e4 : r = 4 := by omega
          subst e4
          have HGI := Lib.hid hgi
          have HWI := Lib.hid hwi
          clear hgi hxi hwi
          go_wp2_with fail
          go_roundw
          case rel => exact ⟨k + 1, c + 4, by have := HC.out; omega, by omega, by go_num, HGI.out, HWI.out⟩
          case measure => simp [intOf]; omega
    · have e4 : k = 4 := by omega
      subst e4
      subst hc
      rw [show 4 * 4 = 16 from rfl, upto_all hll hs] at hgr
      have HGR := Lib.hid hgr
      have HWR := Lib.hid hwr
      clear hgr hwr
      go_wp2_with fail
      go_end0
      exact ⟨rfl, HGR.out, HWR.out⟩
end Go.Proofs.YtkgnnlglabihkaaGreatDoor.Aes
