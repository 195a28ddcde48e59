/- The round keys made: contract. -/
import Derived.Test.YtkgnnlglabihkaaGreatDoorAesKey
import Derived.Test.YtkgnnlglabihkaaGreatDoorMemAll
namespace Go.Proofs.YtkgnnlglabihkaaGreatDoor.Aes
open Go Go.ChangeShapes Go.WideShapes Go.ChangeAt Go.RowKit Go.Proofs.YtkgnnlglabihkaaGreatDoor.Fld
set_option linter.unusedVariables false
set_option linter.unusedSimpArgs false

/-! ### plain -/
theorem four_at {ws : List Blk} (h : Four ws) {k : Nat} (hk : k < ws.length) : (ws.flatten.drop (4*k)).take 4 = rkey ws k := by
  have := four_cut k 1 h
  rw [Nat.mul_one] at this
  rw [this, List.drop_eq_getElem_cons hk, List.take_succ_cons, List.take_zero]
  simp [rkey, List.getD_eq_getElem?_getD, hk]
theorem four_get {ws : List Blk} (h : Four ws) {k r : Nat} (hk : k < ws.length) (hr : r < 4) : ws.flatten[4*k+r]? = some (at_ (rkey ws k) r) := by
  have e := congrArg (fun l => l[r]?) (four_at h hk)
  simp only [List.getElem?_take, hr, if_true, List.getElem?_drop] at e
  rw [e]
  have hl := h.at_ hk
  simp [at_, List.getD_eq_getElem?_getD, List.getElem?_eq_getElem (show r < (rkey ws k).length by omega)]
theorem four_is {t : Blk} (h : t.length = 4) : t = [at_ t 0, at_ t 1, at_ t 2, at_ t 3] := by
  match t, h with
  | [a, b, c, d], _ => rfl
def tlt (t : Blk) (r : Nat) : UInt8 := at_ t r
theorem four_bv {t : Blk} (h : t.length = 4) {r : Nat} (hr : r < 4) : (bvs t)[r]? = some (bv (at_ t r)) := by
  rw [bvs_get (by omega)]
  simp [at_, List.getD_eq_getElem?_getD, List.getElem?_eq_getElem (show r < t.length by omega)]
theorem lay_four {a b : Blk} (ha : a.length = 4) (hb : b.length = 4) {i : Nat} (hi : i < 4) : at_ (lay a b) i = at_ a i ^^^ at_ b i := by
  unfold lay at_
  simp [List.getD_eq_getElem?_getD, List.getElem?_zipWith, List.getElem?_eq_getElem (show i < a.length by omega), List.getElem?_eq_getElem (show i < b.length by omega)]
theorem take_at {t : Blk} (h : t.length = 4) {r : Nat} (hr : r < 4) : t.take (r+1) = t.take r ++ [at_ t r] := by
  rw [List.take_succ_eq_append_getElem (by omega)]
  simp [at_, List.getD_eq_getElem?_getD, List.getElem?_eq_getElem (show r < t.length by omega)]
theorem more_n {n : Nat} (hn : n = 4 ∨ n = 8) : n + more n = 4 * (n + 7) := by unfold more; omega
/-- how far the factor has got -/
def pw (n i : Nat) : Nat := gpow 2 ((i - 1) / n)
theorem pw_lt (n i : Nat) : pw n i < 256 := gpow_lt 2 (by omega) _
theorem pw_same {n i : Nat} (hn : n = 4 ∨ n = 8) (hi : n ≤ i) (h : i % n ≠ 0) : pw n (i+1) = pw n i := by
  unfold pw; congr 1
  rcases hn with rfl | rfl <;> omega
theorem pw_next {n i : Nat} (hn : n = 4 ∨ n = 8) (hi : n ≤ i) (h : i % n = 0) : pw n (i+1) = gm (pw n i) 2 := by
  unfold pw
  have : (i + 1 - 1) / n = (i - 1) / n + 1 := by rcases hn with rfl | rfl <;> omega
  rw [this]; rfl
theorem pw_rc {n i : Nat} (hn : n = 4 ∨ n = 8) (hi : n ≤ i) (h : i % n = 0) : UInt8.ofNat (pw n i) = rc (i / n - 1) := by
  unfold pw rc; congr 2
  rcases hn with rfl | rfl <;> omega
/-- block k of the bytes of all words -/
theorem rounds_at {n : Nat} {key : Blk} {k : Nat} (hk : k < n + 7) : rkey (rounds n key) k = (((words n key (more n)).drop (4 * k)).take 4).flatten := by
  unfold rkey rounds
  rw [List.getD_eq_getElem?_getD, List.getElem?_map, List.getElem?_range hk]; rfl
theorem rounds_bytes {n : Nat} {key : Blk} (hk : key.length = 4 * n) (h0 : 0 < n) {k : Nat} (hk7 : k < n + 7) : ((words n key (more n)).flatten.drop (16 * k)).take 16 = rkey (rounds n key) k := by
  rw [rounds_at hk7, ← four_cut (4 * k) 4 (words_four hk h0 _)]
  congr 2; omega
theorem take_round {R : List Blk} {k : Nat} (hk : k < R.length) : R.take (k+1) = R.take k ++ [rkey R k] := by
  rw [List.take_succ_eq_append_getElem hk]; simp [rkey, List.getD_eq_getElem?_getD, hk]
theorem uptoN_get {N : Nat} {new old : Blk} {i : Nat} (hn : new.length = N) (ho : old.length = N) (hi : i < N) : (bvs (upto i new old))[i]? = some (bv (at_ old i)) := by
  have hl : (upto i new old).length = N := by unfold upto; simp; omega
  rw [bvs_get (by omega)]
  congr 2
  have e : (upto i new old)[i]? = old[i]? := by
    unfold upto
    rw [List.getElem?_append_right (by rw [List.length_take]; omega), List.length_take, show i - min i new.length = 0 by omega, List.getElem?_drop, Nat.add_zero]
  have e1 : (upto i new old)[i]? = some (upto i new old)[i] := List.getElem?_eq_getElem (by omega)
  unfold at_
  rw [List.getD_eq_getElem?_getD, ← e, e1]; rfl
theorem uptoN_set {N : Nat} {new old : Blk} {i : Nat} (hn : new.length = N) (ho : old.length = N) (hi : i < N) : (bvs (upto i new old)).set i (bv (at_ new i)) = bvs (upto (i + 1) new old) := by
  unfold bvs
  rw [← List.map_set]
  congr 1
  unfold upto at_
  rw [List.set_append_right _ _ (by rw [List.length_take]; omega)]
  have e : old.drop i = old[i] :: old.drop (i + 1) := List.drop_eq_getElem_cons (by omega)
  have e2 : new.getD i 0 = new[i] := by rw [List.getD_eq_getElem?_getD, List.getElem?_eq_getElem (by omega)]; rfl
  rw [e, List.length_take, show i - min i new.length = 0 by omega, List.set_cons_zero, List.take_succ_eq_append_getElem (show i < new.length by omega), e2, List.append_assoc]
  rfl
theorem uptoN_all {N : Nat} {new old : Blk} (hn : new.length = N) (ho : old.length = N) : upto N new old = new := by
  unfold upto; rw [List.take_of_length_le (by omega), List.drop_eq_nil_of_le (by omega), List.append_nil]
theorem box4_at {T : Blk} {r : Nat} (hr : r < 4) : at_ [sb (at_ T 0), sb (at_ T 1), sb (at_ T 2), sb (at_ T 3)] r = sb (at_ T r) := by
  have : r = 0 ∨ r = 1 ∨ r = 2 ∨ r = 3 := by omega
  rcases this with rfl | rfl | rfl | rfl <;> rfl
/-! ### memory -/
theorem elb : ElW Tryz.prog 115 166 (.agg (bvs (List.replicate 16 0)).toArray) 16 16 := ⟨Tryz.underlying115, by kernel_rfl, by kernel_rfl, by omega⟩
theorem ownv_range {w : World} {g off : Nat} {l : List UInt8} (h : ∀ i u, (bvs l)[i]? = some u → w.cell? ⟨g, off + i, none⟩ = some u) (o m : Nat) : w.rangeAt g (off + o) (bvs ((l.drop o).take m)) := fun j v hj => by
  rw [Nat.add_assoc]
  refine h _ _ ?_
  unfold bvs at hj ⊢
  rw [List.getElem?_map] at hj ⊢
  rw [List.getElem?_take, List.getElem?_drop] at hj
  split at hj
  · exact hj
  · cases hj
set_option maxRecDepth 20000 in
theorem slice_own (g off L c lo : Nat) (k : Nat) (h : lo + k ≤ L) (hL : L ≤ c) (hk : 0 < k) (hi lo' : Int) (e1 : hi = ((lo + k : Nat) : Int)) (e2 : lo' = (lo : Int)) (w : World) : (Instr.slice 22 (.slice (some ⟨g, off, none⟩) L c) (some (.int .i64 lo')) (some (.int .i64 hi)) none).run Tryz.prog w = .ok (.slice (some ⟨g, off + lo, none⟩) k (c - lo)) w := by
  subst e1 e2
  have hu : Tryz.prog.underlying 22 = some (.slice (Tryz.prog.elem 22)) := by kernel_rfl
  have hz : (sizeOf (Tryz.prog.elem 22)).run Tryz.prog w = .ok 1 w := by kernel_rfl
  rw [run_slice_lh w _ _ _ _ hu .i64 .i64 (lo : Int) ((lo + k : Nat) : Int) (by omega) (by omega) (by omega), hz, Result.andThen_ok, sliced]
  rw [if_neg (by omega), Option.map_some, addr_add]
  congr 3
  · congr 2; rw [Int.toNat_natCast]; omega
  · omega
theorem arr16_at (g c n m : Nat) (w : World) (hn : n = 16) : (Instr.arrayAt 166 (.slice (some ⟨g, c, none⟩) n m)).run Tryz.prog w = .ok (.pointer (some ⟨g, c, none⟩)) w := by
  subst hn
  simp [Instr.arrayAt, run_underlying Tryz.underlying166]
/-- a whole array into a row that is there -/
theorem wpList_store_row {P : Program} {ops : Array Oper} {rest : List Oper} {op : Oper} {a : Act} {w : World} {Q : Exit → Act → World → Prop} (hgd : op.guard = none) (ty : TypeId) (x y : Operand) (ho : op.op = .store ty x y)
    (g : Nat) (t : TypeId) (old cs : List Value) (hrow : RowV w t g old) (hx : a.eval x = .pointer (some ⟨g, 0, none⟩)) (hy : a.eval y = .agg cs.toArray) (hi : (P.info? ty).map (·.size) = some cs.length) (hs : old.length = cs.length) (h1 : ∀ v ∈ cs, v.oneCell' = true)
    (h : ∀ w', RowV w' t g cs → Frame (fun k => k ≠ g) w w' → wpList P ops Q rest (a.put op.dst undef) w') : wpList P ops Q (op :: rest) a w := by
  refine wpList_plain hgd fun _ hK => ?_
  have hr := run_storeVar_row (P := P) w g t ty old.toArray cs.toArray hrow (by simpa using hi) (by simpa using hs) (all_oneCell_toArray h1)
  unfold Oper.wp execOp
  simp only [ho, hx, hy, Instr.storeAt, Instr.sureAddr, Sem.run_bind, Sem.run_pure, Result.andThen_ok, hr]
  refine hK _ _ (h _ ?_ ((Frame.refl _ _).setRow (fun h => h rfl) _))
  unfold RowV
  rw [setRow_heap _ g _ _ t (0, 0) hrow]
theorem src1 (w : World) (v : Value) (T : TypeId) : 0 < 1 → ∃ ad, (some ⟨w.heap.size, 0, none⟩ : Option Addr) = some ad ∧ ∀ j u, ([v] : List Value)[j]? = some u → (w.alloc (.cells #[v] T)).cell? (ad.add j) = some u := fun _ => ⟨_, rfl, fun j u hj => by
  rw [addr_add, Nat.zero_add, cell_of_row _ _ j _ _ (0, 0) (heap_alloc_new w _)]; simpa using hj⟩
theorem src16 (w : World) (cs : List Value) (T : TypeId) : 0 < 1 → ∃ ad, (some ⟨w.heap.size, 0, none⟩ : Option Addr) = some ad ∧ ∀ j u, cs[j]? = some u → (w.alloc (.cells cs.toArray T)).cell? (ad.add j) = some u := fun _ => ⟨_, rfl, fun j u hj => by
  rw [addr_add, Nat.zero_add, cell_of_row _ _ j _ _ (0, 0) (heap_alloc_new w _)]; simpa using hj⟩
theorem idx_exp {i n j r : Nat} (hi : i = n + j) (hj : j ≤ 60) (hr : r < 4) : ∃ m z : Nat, IntKind.i64.wrap ((i : Int) - (n : Int)) = (j : Int) ∧ IntKind.i64.wrap (4 * (j : Int)) = (m : Int) ∧ IntKind.i64.wrap ((m : Int) + (r : Int)) = (z : Int) ∧ z = 4 * j + r := by
  subst hi
  refine ⟨4 * j, 4 * j + r, ?_, ?_, ?_, rfl⟩
  · rw [show ((n + j : Nat) : Int) - (n : Int) = (j : Int) by omega]; exact IntWalk.i64_in _ (by omega)
  · rw [IntWalk.i64_in _ (by omega)]; push_cast; rfl
  · rw [IntWalk.i64_in _ (by omega)]; push_cast; rfl
set_option maxRecDepth 100000 in
set_option maxHeartbeats 4000000 in
theorem expand_any (g : Nat) (A : Option Addr) (c n : Nat) (d st : Int) (key : Blk) (hn : n = 4 ∨ n = 8) (hkl : key.length = 4 * n) (w : World) (hg : RowV w 117 g (keyObj (.slice A (4 * n) c) (.slice none 0 0) d st sbs uss)) (hr : Rd w w.heap.size A key) :
    Calls Tryz.prog 113 #[.pointer (some ⟨g, 0, none⟩)] w fun e w' => e = .returned (.tuple #[]) ∧ ∃ rv, RowV w' 117 g (keyObj (.slice A (4 * n) c) rv d st sbs uss) ∧ w'.ownsRow w.heap.size 166 16 rv (n + 7) (bvs (rounds n key).flatten) ∧ Frame (But w g) w w' := by
  obtain ⟨L, hL⟩ : ∃ L, L = 4 * n := ⟨_, rfl⟩
  rw [← hL] at hg ⊢
  have n8 : n ≤ 8 := by omega
  have n4 : 4 ≤ n := by omega
  have c0 := hg.cell ko_raw
  have hdiv : (L : Int) / 4 = (n : Int) := by omega
  have HG := Lib.hid hg
  have HN := Lib.hid hn
  have HK := Lib.hid hkl
  have HR := Lib.hid hr
  have HL := Lib.hid hL
  clear hg hn hkl hr hL
  go_enter Tryz.func113, Tryz.ntmps113
  go_wp2_with fail
  refine (bclone_any A L c key _ w.heap.size (Nat.le_refl _) (by rw [HK.out, HL.out]) (by omega) HR.out).mono ?_
  rintro e w1 ⟨wv, rfl, hO1, hb1⟩
  have hF1 : Frame (But w g) w w1 := Frame.of_below hb1 (fun k hk => hk.1)
  have hg1 := HG.out.keep (hb1.block g HG.out.lt)
  have hw0 : (words n key 0).flatten = key := words_zero HK.out
  rw [← hw0] at hO1
  replace hO1 := hO1.b
  have hp0 : Value.int .u8 1 = .int .u8 ((pw n (n + 0) : Nat) : Int) := by
    have : pw n (n + 0) = 1 := by unfold pw; rw [Nat.div_eq_of_lt (by omega)]; rfl
    rw [this]; rfl
  have HP0 := Lib.hid hp0
  have HO1 := Lib.hid hO1
  have HF1 := Lib.hid hF1
  have HG1 := Lib.hid hg1
  clear hO1 hF1 hg1 hb1 hp0 hw0 c0 hdiv
  go_wp2_with fail
  go_loopw [3, 4, 5] (fun wv p i wr => ∃ j i' : Nat, i' = n + j ∧ j ≤ more n ∧ i = .int .i64 (i' : Int) ∧ p = .int .u8 ((pw n i' : Nat) : Int) ∧ OwnV wr 5 w.heap.size wv (bvs (words n key j).flatten) ∧ RowV wr 117 g (keyObj (.slice A L c) (.slice none 0 0) d st sbs uss) ∧ Frame (But w g) w wr) (fun _ _ i _ => 60 - (intOf i).toNat)
  case atStart => exact ⟨0, n, rfl, by omega, rfl, HP0.out, HO1.out, HG1.out, HF1.out⟩
  case round =>
    obtain ⟨j, i, hi, hj, rfl, rfl, hO, hgr, hwr⟩ := hrel
    clear HP0 HO1 HG1 HF1
    have HGR := Lib.hid hgr
    have HWR := Lib.hid hwr
    clear hgr hwr
    have hmn := more_n HN.out
    have h4n : 4 * (n + 7) ≤ 60 := by omega
    by_cases hlt : j < more n
    · have hW4 := words_four HK.out (show 0 < n by omega) j
      have hWl := words_length n key j
      have hfl : (words n key j).flatten.length = 4 * i := by rw [four_flat hW4, hWl, hi]
      obtain ⟨q, hq⟩ : ∃ q, q = 4 * i := ⟨_, rfl⟩
      obtain ⟨gw, off, cw, rfl, hcw, hcx, hgb, hgl, hcell⟩ := hO.ptr (n := q) (by rw [bvs_length, hfl, hq]) (by omega)
      have hT0 := four_at hW4 (show i - 1 < (words n key j).length by omega)
      have hT0l : (rkey (words n key j) (i - 1)).length = 4 := hW4.at_ (by omega)
      have hrg := ownv_range hcell (4 * (i - 1)) 4
      rw [hT0] at hrg
      have hKn : ∀ r, r < 4 → (words n key j).flatten[4*j+r]? = some (at_ (rkey (words n key j) j) r) := fun r hr => four_get hW4 (by omega) hr
      have hKl : (rkey (words n key j) j).length = 4 := hW4.at_ (by omega)
      have hnx : (words n key (j+1)).flatten = (words n key j).flatten ++ lay (turnW n i (rkey (words n key j) (i - 1))) (rkey (words n key j) j) := by
        rw [words, List.flatten_append, nextW, hWl, ← hi, show i - n = j by omega]; simp
      obtain ⟨T0, hT0e⟩ : ∃ T0, rkey (words n key j) (i - 1) = T0 := ⟨_, rfl⟩
      obtain ⟨Kn, hKe⟩ : ∃ Kn, rkey (words n key j) j = Kn := ⟨_, rfl⟩
      obtain ⟨Fl, hFe⟩ : ∃ Fl, (words n key j).flatten = Fl := ⟨_, rfl⟩
      rw [hT0e] at hrg hT0l hnx
      rw [hKe] at hKn hKl hnx
      rw [hFe] at hKn hnx hO hfl
      have htl : (turnW n i T0).length = 4 := turnW_length hT0l
      obtain ⟨Tn, hTne⟩ : ∃ Tn, turnW n i T0 = Tn := ⟨_, rfl⟩
      rw [hTne] at hnx htl
      have HTE := Lib.hid hTne
      have hlk : (lay Tn Kn).length = 4 := by unfold lay; rw [List.length_zipWith, htl, hKl]; rfl
      have HLK := Lib.hid hlk
      clear hTne hlk
      obtain ⟨lo, hlo⟩ : ∃ lo, lo = 4 * (i - 1) := ⟨_, rfl⟩
      rw [← hlo] at hrg
      have hsl := slice_own gw off q cw lo 4 (by omega) hcw (by omega) (q : Int) (lo : Int) (by omega) rfl
      have har := fun w => arr_at gw (off + lo) 4 (cw - lo) w rfl
      have s1 : 4 * (i : Int) = (q : Int) := by omega
      have s2 : (q : Int) - 4 = (lo : Int) := by omega
      have i1 : (i : Int) < 4 * ((n : Int) + 7) := by omega
      have hbl : (bvs T0).length = 4 := by rw [bvs_length, hT0l]
      have hj52 : j ≤ 52 := by omega
      have hi59 : i ≤ 59 := by omega
      have hni : n ≤ i := by omega
      have hq4 : 16 ≤ q := by omega
      have hq236 : q ≤ 236 := by omega
      have hxr : RowV (wr.alloc (.cells (bvs T0).toArray 191)) 191 wr.heap.size (bvs T0) := heap_alloc_new wr _
      have hga : RowV (wr.alloc (.cells (bvs T0).toArray 191)) 117 g (keyObj (.slice A L c) (.slice none 0 0) d st sbs uss) := HGR.out.alloc _
      have hoa : OwnV (wr.alloc (.cells (bvs T0).toArray 191)) 5 w.heap.size (.slice (some ⟨gw, off, none⟩) q cw) (bvs Fl) := hO.alloc _
      have hfa : Frame (But w g) w (wr.alloc (.cells (bvs T0).toArray 191)) := HWR.out.alloc (fun b h => Nat.lt_of_lt_of_le h.1 HWR.out.size) _
      have htg : wr.heap.size ≠ g := by have := HGR.out.lt; omega
      have htw : wr.heap.size ≠ gw := by omega
      have htb : w.heap.size ≤ wr.heap.size := HWR.out.size
      have hgg : g < w.heap.size := HG.out.lt
      have x0 := hxr.cell (four_bv hT0l (r := 0) (by omega))
      have x1 := hxr.cell (four_bv hT0l (r := 1) (by omega))
      have x2 := hxr.cell (four_bv hT0l (r := 2) (by omega))
      have x3 := hxr.cell (four_bv hT0l (r := 3) (by omega))
      have t0 := tbl_box hga (at_ T0 0)
      have t1 := tbl_box hga (at_ T0 1)
      have t2 := tbl_box hga (at_ T0 2)
      have t3 := tbl_box hga (at_ T0 3)
      have u0 : ((at_ T0 0).toNat : Int) < 256 := by have := (at_ T0 0).toNat_lt; omega
      have u1 : ((at_ T0 1).toNat : Int) < 256 := by have := (at_ T0 1).toNat_lt; omega
      have u2 : ((at_ T0 2).toNat : Int) < 256 := by have := (at_ T0 2).toNat_lt; omega
      have u3 : ((at_ T0 3).toNat : Int) < 256 := by have := (at_ T0 3).toNat_lt; omega
      have tw : bits BinOp.xor IntKind.u8 ((sb (at_ T0 1)).toNat : Int) ((pw n i : Nat) : Int) = (((sb (at_ T0 1) ^^^ UInt8.ofNat (pw n i)).toNat : Nat) : Int) := by
        rw [← u8x, nat8 (pw_lt n i)]
      rw [bv_int] at x0 x1 x2 x3 t0 t1 t2 t3
      have HRG := Lib.hid hrg
      have HQ := Lib.hid hq
      have HLO := Lib.hid hlo
      have HI := Lib.hid hi
      have HBL := Lib.hid hbl
      have HXR := Lib.hid hxr
      have HGA := Lib.hid hga
      have HOA := Lib.hid hoa
      have HFA := Lib.hid hfa
      have HTL := Lib.hid htl
      have HNX := Lib.hid hnx
      have HKN := Lib.hid hKn
      have HKL := Lib.hid hKl
      have HT0L := Lib.hid hT0l
      have HFL := Lib.hid hfl
      have p0 : (0 : Int) ≤ ((pw n i : Nat) : Int) := by omega
      have p1 : ((pw n i : Nat) : Int) < 256 := by have := pw_lt n i; omega
      have n1 : (1 : Int) ≤ (n : Int) := by omega
      clear hO hrg hq hlo hi hbl hT0 hmn hcell hxr hga hoa hfa htl hnx hKn hKl hT0l hfl hW4 hWl hT0e hKe hFe HGR HWR
      obtain ⟨tb, htbe⟩ : ∃ tb, wr.heap.size = tb := ⟨_, rfl⟩
      have HTB := Lib.hid htbe
      rw [htbe] at HXR htg htw htb x0 x1 x2 x3
      by_cases hA : i % n = 0
      · have hm : (i : Int) % (n : Int) = 0 := by omega
        have hTn : bvs Tn = [.int .u8 (((sb (at_ T0 1) ^^^ UInt8.ofNat (pw n i)).toNat : Nat) : Int), .int .u8 ((sb (at_ T0 2)).toNat : Int), .int .u8 ((sb (at_ T0 3)).toNat : Int), .int .u8 ((sb (at_ T0 0)).toNat : Int)] := by
          rw [← HTE.out]; unfold turnW; rw [if_pos hA, pw_rc HN.out (by have := HI.out; omega) hA]; rfl
        have hpv : gm (pw n i) 2 = pw n (i+1) := (pw_next HN.out (by have := HI.out; omega) hA).symm
        have HTN := Lib.hid hTn
        have HPV := Lib.hid hpv
        clear hTn hpv hA htbe
        generalize (sb (at_ T0 1) ^^^ UInt8.ofNat (pw n i)).toNat = B0 at *
        generalize (sb (at_ T0 0)).toNat = b0 at *
        generalize (sb (at_ T0 1)).toNat = b1 at *
        generalize (sb (at_ T0 2)).toNat = b2 at *
        generalize (sb (at_ T0 3)).toNat = b3 at *
        generalize (at_ T0 0).toNat = a0 at *
        generalize (at_ T0 1).toNat = a1 at *
        generalize (at_ T0 2).toNat = a2 at *
        generalize (at_ T0 3).toNat = a3 at *
        go_wp2_with (first
          | (with_reducible refine at_slot 37 ?_
             refine wpList_load_mid rfl _ _ rfl gw (off + lo) rfl (bvs T0) (.array 4 5) HRG.out Tryz.underlying191 rfl (by rw [HBL.out]; kernel_rfl) ?_)
          | (with_reducible refine at_store 6 ?_
             refine wpList_store_new rfl _ _ _ rfl _ _ (bvs T0) rfl rfl (by rw [HBL.out]; kernel_rfl) (by rw [HBL.out]; rfl) (bvs_one _) ?_))
        rw [HTB.out]
        clear hsl har s1 s2 hm i1
        generalize wr.alloc (.cells (bvs T0).toArray 191) = wa at *
        refine wp_region_still_tail 31 (by kernel_rfl) (by kernel_rfl) ?_
        change wpStill _ _ (World.drew wa) (fun a' => wpList _ _ _ _ a' (World.drew wa)) _ _
        simp only [List.take_succ_cons, List.take_zero, List.drop_succ_cons, List.drop_zero]
        repeat still_step
        refine wpStill_nil ?_
        go_wp2_with (with_reducible refine at_store 6 ?_
                     refine wpList_store_row rfl _ _ _ rfl tb _ (bvs T0) [.int .u8 (B0 : Int), .int .u8 (b2 : Int), .int .u8 (b3 : Int), .int .u8 (b0 : Int)] HXR.out rfl rfl (by kernel_rfl) (by rw [HBL.out]; rfl) (by intro u hu; simp only [List.mem_cons, List.not_mem_nil, or_false] at hu; rcases hu with rfl | rfl | rfl | rfl <;> rfl) ?_
                     intro w2 hx2 hf2)
        refine (Fld.mul_any ((pw n i : Nat) : Int) 2 p0 p1 (by omega) (by omega) _).mono ?_
        rintro e w3 ⟨rfl, rfl⟩
        rw [Int.toNat_natCast, show ((2 : Int).toNat) = 2 from rfl, HPV.out]
        have hF3 : Frame (But w g) w w2 := Frame.trans (w' := wa.drew) HFA.out.drew hf2 (fun k hk => by have := hk.1; omega)
        have hO3 : OwnV w2 5 w.heap.size (.slice (some ⟨gw, off, none⟩) q cw) (bvs Fl) := HOA.out.keep (fun k hk => hf2.block k (by rintro rfl; injection hk with hk; exact htw hk.symm))
        have hG3 := HGA.out.keep (hf2.block g (Ne.symm htg))
        rw [← HTN.out] at hx2
        have HX3 := Lib.hid hx2
        have HF3 := Lib.hid hF3
        have HO3 := Lib.hid hO3
        have HG3 := Lib.hid hG3
        clear hx2 hf2 hF3 hO3 hG3 x0 x1 x2 x3 t0 t1 t2 t3 u0 u1 u2 u3 tw HTN HXR HGA HOA HFA
        go_wp2_with fail
        go_loopw [3, 99] (fun wv r wi => ∃ r' : Nat, r' ≤ 4 ∧ r = .int .i64 r' ∧ OwnV wi 5 w.heap.size wv (bvs (Fl ++ (lay Tn Kn).take r')) ∧ wv.ownBlock ≠ some tb ∧ RowV wi 191 tb (bvs Tn) ∧ RowV wi 117 g (keyObj (.slice A L c) (.slice none 0 0) d st sbs uss) ∧ Frame (But w g) w wi) (fun _ r _ => 4 - (intOf r).toNat)
        case atStart => exact ⟨0, by omega, rfl, (by rw [List.take_zero, List.append_nil]; exact HO3.out), (fun e => by injection e with e; exact htw e.symm), HX3.out, HG3.out, HF3.out⟩
        case round =>
          obtain ⟨r, hr4, rfl, hO, hon, hx, hgo, hf⟩ := hrel
          clear HO3 HX3 HG3 HF3
          by_cases hltr : r < 4
          · obtain ⟨m, z, i1, i2, i3, hz⟩ := idx_exp (r := r) HI.out (by omega) hltr
            obtain ⟨M, hM⟩ : ∃ M, M = q + r := ⟨_, rfl⟩
            have hlen : (bvs (Fl ++ (lay Tn Kn).take r)).length = M := by rw [bvs_length, List.length_append, HFL.out, List.length_take, HLK.out, hM, HQ.out]; omega
            obtain ⟨gv, ov, cv, rfl, hcv, hcvx, hvb, hvl, hcell⟩ := hO.ptr hlen (by omega)
            have hzF : z < Fl.length := by rw [HFL.out, hz]; have := HI.out; omega
            have ca := hcell z (bv (at_ Kn r)) (by unfold bvs; rw [List.getElem?_map, List.getElem?_append_left hzF, hz, HKN.out r hltr]; rfl)
            have cb := hx.cell (four_bv HTL.out hltr)
            have xx := u8x (at_ Tn r) (at_ Kn r)
            rw [← lay_four HTL.out HKL.out hltr] at xx
            have hst : bvs (Fl ++ (lay Tn Kn).take (r + 1)) = bvs (Fl ++ (lay Tn Kn).take r) ++ [.int .u8 ((at_ (lay Tn Kn) r).toNat : Int)] := by
              rw [take_at HLK.out hltr, ← List.append_assoc, bvs_append]; rfl
            have hzM : (z : Int) < (M : Int) := by have := HFL.out; have := HQ.out; omega
            have r4 : (r : Int) < 4 := by omega
            rw [bv_int] at ca cb
            have HST := Lib.hid hst
            have HLEN := Lib.hid hlen
            have HMB : M ≤ 300 := by omega
            have HON := Lib.hid hon
            have hoa : OwnV (wr.drew.alloc (.cells #[.int .u8 ((at_ (lay Tn Kn) r).toNat : Int)] 5)) 5 w.heap.size (.slice (some ⟨gv, ov, none⟩) M cv) (bvs (Fl ++ (lay Tn Kn).take r)) := (OwnV.drew hO).alloc _
            have hxa : RowV (wr.drew.alloc (.cells #[.int .u8 ((at_ (lay Tn Kn) r).toNat : Int)] 5)) 191 tb (bvs Tn) := RowV.alloc (w := wr.drew) hx _
            have hga : RowV (wr.drew.alloc (.cells #[.int .u8 ((at_ (lay Tn Kn) r).toNat : Int)] 5)) 117 g (keyObj (.slice A L c) (.slice none 0 0) d st sbs uss) := RowV.alloc (w := wr.drew) hgo _
            have hfa : Frame (But w g) w (wr.drew.alloc (.cells #[.int .u8 ((at_ (lay Tn Kn) r).toNat : Int)] 5)) := (Frame.drew hf).alloc (fun b h => Nat.lt_of_lt_of_le h.1 hf.size) _
            have hsa := hfa.size
            have hsrc := src1 wr.drew (.int .u8 ((at_ (lay Tn Kn) r).toNat : Int)) 5
            have htbl := hx.lt
            have HOA := Lib.hid hoa
            have HXA := Lib.hid hxa
            have HGA := Lib.hid hga
            have HFA := Lib.hid hfa
            have HSRC := Lib.hid hsrc
            have HFB := Lib.hid (four_bv HTL.out hltr)
            have HCZ := Lib.hid (show (bvs (Fl ++ (lay Tn Kn).take r))[z]? = some (.int .u8 ((at_ Kn r).toNat : Int)) by unfold bvs; rw [List.getElem?_map, List.getElem?_append_left hzF, hz, HKN.out r hltr]; rfl)
            rw [bv_int] at HFB
            clear hoa hxa hga hfa hsrc hst hlen hon hO hx hgo hf hcell hz hzF hM
            generalize (at_ (lay Tn Kn) r).toNat = X at *
            generalize (at_ Tn r).toNat = Y at *
            generalize (at_ Kn r).toNat = Z at *
            go_wp2_with fail
            go_region_held3 (fun w' => w'.cell? ⟨tb, r, none⟩ = some (.int .u8 (Y : Int)) ∧ w'.cell? ⟨gv, ov + z, none⟩ = some (.int .u8 (Z : Int))) (first | exact ⟨cb, ca⟩ | exact ⟨d1, d2⟩ | go_keep)
              ((refine step_append_k Go.Proofs.YtkgnnlglabihkaaGreatDoor.u8.el (by rfl) (.tmp 102) (.tmp 116) rfl w.heap.size _ (bvs (Fl ++ (lay Tn Kn).take r)) _ 1 1 [.int .u8 (X : Int)] rfl rfl HOA.out rfl HSRC.out (by intro u hu; simp only [List.mem_singleton] at hu; subst hu; rfl) (by rw [HLEN.out]; omega) (by rw [HLEN.out]; omega) hsa ?_
                intro v2 w2 hO2 hg2 hat2 hk2
                have hx2 := HXA.out.grown hg2 (fun e => HON.out e.symm)
                have d1 := hx2.cell HFB.out
                have d2 := hk2.again HCZ.out
                have hg3 := HGA.out.grown hg2 (fun e => by injection e with e; change g = gv at e; omega)
                have hf2 : Frame (But w g) w w2 := Frame.trans HFA.out (Frame.of_grown (S := fun k => k < w.heap.size) hg2 (fun k hk => ⟨Nat.lt_of_lt_of_le hk hsa, fun e => by injection e with e; change k = gv at e; omega⟩)) (fun k hk => hk.1)
                have hon2 : v2.ownBlock ≠ some tb := by
                  rcases hat2 with h | h
                  · rw [h]; exact HON.out
                  · rw [h]; intro e; injection e with e; simp at e; omega
                obtain ⟨A2, c2, hv2, _, _⟩ := hO2.len
                rw [List.length_append, HLEN.out] at hv2
                subst hv2
                have HO2 := Lib.hid hO2
                have HX2 := Lib.hid hx2
                have HG2 := Lib.hid hg3
                have HF2 := Lib.hid hf2
                have HON2 := Lib.hid hon2
                clear hO2 hg2 hat2 hk2 hx2 hg3 hf2 hon2))
            clear i1 i2 i3 xx ca cb d1 d2
            go_wp2_with fail
            go_roundw
            case rel => exact ⟨r + 1, by omega, by go_num, by rw [HST.out]; exact HO2.out, HON2.out, HX2.out, HG2.out, HF2.out⟩
            case measure => simp [intOf]; omega
          · have e4 : r = 4 := by omega
            subst e4
            rw [List.take_of_length_le (by rw [HLK.out]; exact Nat.le_refl _), ← HNX.out] at hO
            have HO := Lib.hid hO
            have HGO := Lib.hid hgo
            have HF := Lib.hid hf
            clear hO hon hx hgo hf
            go_wp2_with fail
            go_roundw
            case rel => exact ⟨j + 1, i + 1, (by have := HI.out; omega), by omega, by go_num, (by first | rfl | rw [HPV.out]), HO.out, HGO.out, HF.out⟩
            case measure => simp [intOf] <;> (have := HI.out; omega)
      · by_cases hB : n = 8 ∧ i % n = 4
        · obtain ⟨hB8, hB4⟩ := hB
          have hm : (i : Int) % (n : Int) = 4 := by omega
          have hn8 : ((n : Int) == 8) = true := beq_iff_eq.2 (by omega)
          have hTn : Tn = [sb (at_ T0 0), sb (at_ T0 1), sb (at_ T0 2), sb (at_ T0 3)] := by
            rw [← HTE.out]; unfold turnW; rw [if_neg hA, if_pos ⟨hB8, by rw [← hB8]; exact hB4⟩]
          have hpv : pw n (i+1) = pw n i := pw_same HN.out hni hA
          have HTN := Lib.hid hTn
          have HPV := Lib.hid hpv
          clear hTn hpv hA hB8 hB4 htbe x0 x1 x2 x3 t0 t1 t2 t3 u0 u1 u2 u3 tw
          go_wp2_with (first
            | (with_reducible refine at_slot 37 ?_
               refine wpList_load_mid rfl _ _ rfl gw (off + lo) rfl (bvs T0) (.array 4 5) HRG.out Tryz.underlying191 rfl (by rw [HBL.out]; kernel_rfl) ?_)
            | (with_reducible refine at_store 6 ?_
               refine wpList_store_new rfl _ _ _ rfl _ _ (bvs T0) rfl rfl (by rw [HBL.out]; kernel_rfl) (by rw [HBL.out]; rfl) (bvs_one _) ?_))
          rw [HTB.out]
          clear hsl har s1 s2 hm i1 hn8
          generalize wr.alloc (.cells (bvs T0).toArray 191) = wa at *
          go_loopw [85] (fun r wi => ∃ r' : Nat, r' ≤ 4 ∧ r = .int .i64 r' ∧ RowV wi 191 tb (bvs (upto r' Tn T0)) ∧ OwnV wi 5 w.heap.size (.slice (some ⟨gw, off, none⟩) q cw) (bvs Fl) ∧ RowV wi 117 g (keyObj (.slice A L c) (.slice none 0 0) d st sbs uss) ∧ Frame (But w g) w wi) (fun r _ => 4 - (intOf r).toNat)
          case atStart => exact ⟨0, by omega, rfl, HXR.out, HOA.out, HGA.out, HFA.out⟩
          case round =>
            obtain ⟨r, hr4, rfl, hx, hO, hgo, hf⟩ := hrel
            clear HXR HOA HGA HFA
            by_cases hltr : r < 4
            · have ca := hx.cell (uptoN_get HTL.out HT0L.out hltr)
              have cf := hx.frozen r
              have cb := tbl_box hgo (at_ T0 r)
              have u1 : ((at_ T0 r).toNat : Int) < 256 := by have := (at_ T0 r).toNat_lt; omega
              have r4 : (r : Int) < 4 := by omega
              have hset := hx.set r (bv (at_ Tn r))
              rw [uptoN_set HTL.out HT0L.out hltr, show at_ Tn r = sb (at_ T0 r) by rw [HTN.out]; exact box4_at hltr] at hset
              rw [bv_int] at ca cb hset
              have HSET := Lib.hid hset
              have HO := Lib.hid (hO.far (p := ⟨tb, r, none⟩) (fun e => by injection e with e; exact htw e.symm) (.int .u8 ((sb (at_ T0 r)).toNat : Int)))
              have HGO := Lib.hid (hgo.far (p := ⟨tb, r, none⟩) (Ne.symm htg) (.int .u8 ((sb (at_ T0 r)).toNat : Int)))
              have HF := Lib.hid (hf.setCell (p := ⟨tb, r, none⟩) (fun h => by have h1 := h.1; change tb < w.heap.size at h1; omega) (.int .u8 ((sb (at_ T0 r)).toNat : Int)))
              clear hset hx hO hgo hf
              generalize (sb (at_ T0 r)).toNat = Y at *
              generalize (at_ T0 r).toNat = X at *
              go_wp2_with fail
              refine wp_region_still_tail 10 (by kernel_rfl) (by kernel_rfl) ?_
              change wpStill _ _ (World.drew wr) (fun a' => wpList _ _ _ _ a' (World.drew wr)) _ _
              simp only [List.take_succ_cons, List.take_zero, List.drop_succ_cons, List.drop_zero]
              repeat still_step
              refine wpStill_nil ?_
              go_wp2_with fail
              go_roundw
              case rel => exact ⟨r + 1, by omega, by go_num, HSET.out, HO.out.drew, HGO.out, HF.out.drew⟩
              case measure => simp [intOf]; omega
            · have e4 : r = 4 := by omega
              subst e4
              rw [uptoN_all HTL.out HT0L.out] at hx
              have HX3 := Lib.hid hx
              have HF3 := Lib.hid hf
              have HO3 := Lib.hid hO
              have HG3 := Lib.hid hgo
              clear hx hf hO hgo
              obtain ⟨wo, hwo⟩ : ∃ wo : World, wo = wr := ⟨_, rfl⟩
              subst hwo
              go_wp2_with fail
              rw [show ((4 : Nat) : Int) = 4 from rfl]
              go_loopw [3, 99] (fun wv r wi => ∃ r' : Nat, r' ≤ 4 ∧ r = .int .i64 r' ∧ OwnV wi 5 w.heap.size wv (bvs (Fl ++ (lay Tn Kn).take r')) ∧ wv.ownBlock ≠ some tb ∧ RowV wi 191 tb (bvs Tn) ∧ RowV wi 117 g (keyObj (.slice A L c) (.slice none 0 0) d st sbs uss) ∧ Frame (But w g) w wi) (fun _ r _ => 4 - (intOf r).toNat)
              case atStart => exact ⟨0, by omega, rfl, (by rw [List.take_zero, List.append_nil]; exact HO3.out), (fun e => by injection e with e; exact htw e.symm), HX3.out, HG3.out, HF3.out⟩
              case round =>
                obtain ⟨r, hr4, rfl, hO, hon, hx, hgo, hf⟩ := hrel
                clear HO3 HX3 HG3 HF3
                by_cases hltr : r < 4
                · obtain ⟨m, z, i1, i2, i3, hz⟩ := idx_exp (r := r) HI.out (by omega) hltr
                  obtain ⟨M, hM⟩ : ∃ M, M = q + r := ⟨_, rfl⟩
                  have hlen : (bvs (Fl ++ (lay Tn Kn).take r)).length = M := by rw [bvs_length, List.length_append, HFL.out, List.length_take, HLK.out, hM, HQ.out]; omega
                  obtain ⟨gv, ov, cv, rfl, hcv, hcvx, hvb, hvl, hcell⟩ := hO.ptr hlen (by omega)
                  have hzF : z < Fl.length := by rw [HFL.out, hz]; have := HI.out; omega
                  have ca := hcell z (bv (at_ Kn r)) (by unfold bvs; rw [List.getElem?_map, List.getElem?_append_left hzF, hz, HKN.out r hltr]; rfl)
                  have cb := hx.cell (four_bv HTL.out hltr)
                  have xx := u8x (at_ Tn r) (at_ Kn r)
                  rw [← lay_four HTL.out HKL.out hltr] at xx
                  have hst : bvs (Fl ++ (lay Tn Kn).take (r + 1)) = bvs (Fl ++ (lay Tn Kn).take r) ++ [.int .u8 ((at_ (lay Tn Kn) r).toNat : Int)] := by
                    rw [take_at HLK.out hltr, ← List.append_assoc, bvs_append]; rfl
                  have hzM : (z : Int) < (M : Int) := by have := HFL.out; have := HQ.out; omega
                  have r4 : (r : Int) < 4 := by omega
                  rw [bv_int] at ca cb
                  have HST := Lib.hid hst
                  have HLEN := Lib.hid hlen
                  have HMB : M ≤ 300 := by omega
                  have HON := Lib.hid hon
                  have hoa : OwnV (wr.drew.alloc (.cells #[.int .u8 ((at_ (lay Tn Kn) r).toNat : Int)] 5)) 5 w.heap.size (.slice (some ⟨gv, ov, none⟩) M cv) (bvs (Fl ++ (lay Tn Kn).take r)) := (OwnV.drew hO).alloc _
                  have hxa : RowV (wr.drew.alloc (.cells #[.int .u8 ((at_ (lay Tn Kn) r).toNat : Int)] 5)) 191 tb (bvs Tn) := RowV.alloc (w := wr.drew) hx _
                  have hga : RowV (wr.drew.alloc (.cells #[.int .u8 ((at_ (lay Tn Kn) r).toNat : Int)] 5)) 117 g (keyObj (.slice A L c) (.slice none 0 0) d st sbs uss) := RowV.alloc (w := wr.drew) hgo _
                  have hfa : Frame (But w g) w (wr.drew.alloc (.cells #[.int .u8 ((at_ (lay Tn Kn) r).toNat : Int)] 5)) := (Frame.drew hf).alloc (fun b h => Nat.lt_of_lt_of_le h.1 hf.size) _
                  have hsa := hfa.size
                  have hsrc := src1 wr.drew (.int .u8 ((at_ (lay Tn Kn) r).toNat : Int)) 5
                  have htbl := hx.lt
                  have HOA := Lib.hid hoa
                  have HXA := Lib.hid hxa
                  have HGA := Lib.hid hga
                  have HFA := Lib.hid hfa
                  have HSRC := Lib.hid hsrc
                  have HFB := Lib.hid (four_bv HTL.out hltr)
                  have HCZ := Lib.hid (show (bvs (Fl ++ (lay Tn Kn).take r))[z]? = some (.int .u8 ((at_ Kn r).toNat : Int)) by unfold bvs; rw [List.getElem?_map, List.getElem?_append_left hzF, hz, HKN.out r hltr]; rfl)
                  rw [bv_int] at HFB
                  clear hoa hxa hga hfa hsrc hst hlen hon hO hx hgo hf hcell hz hzF hM
                  generalize (at_ (lay Tn Kn) r).toNat = X at *
                  generalize (at_ Tn r).toNat = Y at *
                  generalize (at_ Kn r).toNat = Z at *
                  go_wp2_with fail
                  go_region_held3 (fun w' => w'.cell? ⟨tb, r, none⟩ = some (.int .u8 (Y : Int)) ∧ w'.cell? ⟨gv, ov + z, none⟩ = some (.int .u8 (Z : Int))) (first | exact ⟨cb, ca⟩ | exact ⟨d1, d2⟩ | go_keep)
                    ((refine step_append_k Go.Proofs.YtkgnnlglabihkaaGreatDoor.u8.el (by rfl) (.tmp 102) (.tmp 116) rfl w.heap.size _ (bvs (Fl ++ (lay Tn Kn).take r)) _ 1 1 [.int .u8 (X : Int)] rfl rfl HOA.out rfl HSRC.out (by intro u hu; simp only [List.mem_singleton] at hu; subst hu; rfl) (by rw [HLEN.out]; omega) (by rw [HLEN.out]; omega) hsa ?_
                      intro v2 w2 hO2 hg2 hat2 hk2
                      have hx2 := HXA.out.grown hg2 (fun e => HON.out e.symm)
                      have d1 := hx2.cell HFB.out
                      have d2 := hk2.again HCZ.out
                      have hg3 := HGA.out.grown hg2 (fun e => by injection e with e; change g = gv at e; omega)
                      have hf2 : Frame (But w g) w w2 := Frame.trans HFA.out (Frame.of_grown (S := fun k => k < w.heap.size) hg2 (fun k hk => ⟨Nat.lt_of_lt_of_le hk hsa, fun e => by injection e with e; change k = gv at e; omega⟩)) (fun k hk => hk.1)
                      have hon2 : v2.ownBlock ≠ some tb := by
                        rcases hat2 with h | h
                        · rw [h]; exact HON.out
                        · rw [h]; intro e; injection e with e; simp at e; omega
                      obtain ⟨A2, c2, hv2, _, _⟩ := hO2.len
                      rw [List.length_append, HLEN.out] at hv2
                      subst hv2
                      have HO2 := Lib.hid hO2
                      have HX2 := Lib.hid hx2
                      have HG2 := Lib.hid hg3
                      have HF2 := Lib.hid hf2
                      have HON2 := Lib.hid hon2
                      clear hO2 hg2 hat2 hk2 hx2 hg3 hf2 hon2))
                  clear i1 i2 i3 xx ca cb d1 d2
                  go_wp2_with fail
                  go_roundw
                  case rel => exact ⟨r + 1, by omega, by go_num, by rw [HST.out]; exact HO2.out, HON2.out, HX2.out, HG2.out, HF2.out⟩
                  case measure => simp [intOf]; omega
                · have e4 : r = 4 := by omega
                  subst e4
                  rw [List.take_of_length_le (by rw [HLK.out]; exact Nat.le_refl _), ← HNX.out] at hO
                  have HO := Lib.hid hO
                  have HGO := Lib.hid hgo
                  have HF := Lib.hid hf
                  clear hO hon hx hgo hf
                  go_wp2_with fail
                  go_roundw
                  case rel => exact ⟨j + 1, i + 1, (by have := HI.out; omega), by omega, by go_num, (by first | rfl | rw [HPV.out]), HO.out, HGO.out, HF.out⟩
                  case measure => simp [intOf] <;> (have := HI.out; omega)
        · obtain ⟨ρ, hρ⟩ : ∃ ρ, i % n = ρ := ⟨_, rfl⟩
          have hm : (i : Int) % (n : Int) = (ρ : Int) := by rw [← hρ]; push_cast; rfl
          have hρ0 : ((ρ : Int) == 0) = false := beq_eq_false_iff_ne.2 (by omega)
          have hTn : Tn = T0 := by
            rw [← HTE.out]; unfold turnW
            rw [if_neg hA, if_neg (fun h => hB ⟨h.1, by rw [h.1]; exact h.2⟩)]
          have hpv : pw n (i+1) = pw n i := pw_same HN.out hni hA
          have HPV := Lib.hid hpv
          have HX3 := Lib.hid (show RowV (wr.alloc (.cells (bvs T0).toArray 191)) 191 tb (bvs Tn) from by rw [hTn]; exact HXR.out)
          have HO3 := HOA
          have HG3 := HGA
          have HF3 := HFA
          by_cases h8 : n = 8
          · have hn8 : ((n : Int) == 8) = true := beq_iff_eq.2 (by omega)
            have hρ4 : ((ρ : Int) == 4) = false := beq_eq_false_iff_ne.2 (by intro e; exact hB ⟨h8, by omega⟩)
            clear hTn hpv hA hB h8 hρ htbe x0 x1 x2 x3 t0 t1 t2 t3 u0 u1 u2 u3 tw
            go_wp2_with (first
              | (with_reducible refine at_slot 37 ?_
                 refine wpList_load_mid rfl _ _ rfl gw (off + lo) rfl (bvs T0) (.array 4 5) HRG.out Tryz.underlying191 rfl (by rw [HBL.out]; kernel_rfl) ?_)
              | (with_reducible refine at_store 6 ?_
                 refine wpList_store_new rfl _ _ _ rfl _ _ (bvs T0) rfl rfl (by rw [HBL.out]; kernel_rfl) (by rw [HBL.out]; rfl) (bvs_one _) ?_))
            rw [HTB.out]
            clear hsl har s1 s2 hm i1 hn8 hρ0 hρ4
            go_loopw [3, 99] (fun wv r wi => ∃ r' : Nat, r' ≤ 4 ∧ r = .int .i64 r' ∧ OwnV wi 5 w.heap.size wv (bvs (Fl ++ (lay Tn Kn).take r')) ∧ wv.ownBlock ≠ some tb ∧ RowV wi 191 tb (bvs Tn) ∧ RowV wi 117 g (keyObj (.slice A L c) (.slice none 0 0) d st sbs uss) ∧ Frame (But w g) w wi) (fun _ r _ => 4 - (intOf r).toNat)
            case atStart => exact ⟨0, by omega, rfl, (by rw [List.take_zero, List.append_nil]; exact HO3.out), (fun e => by injection e with e; exact htw e.symm), HX3.out, HG3.out, HF3.out⟩
            case round =>
              obtain ⟨r, hr4, rfl, hO, hon, hx, hgo, hf⟩ := hrel
              clear HO3 HX3 HG3 HF3
              by_cases hltr : r < 4
              · obtain ⟨m, z, i1, i2, i3, hz⟩ := idx_exp (r := r) HI.out (by omega) hltr
                obtain ⟨M, hM⟩ : ∃ M, M = q + r := ⟨_, rfl⟩
                have hlen : (bvs (Fl ++ (lay Tn Kn).take r)).length = M := by rw [bvs_length, List.length_append, HFL.out, List.length_take, HLK.out, hM, HQ.out]; omega
                obtain ⟨gv, ov, cv, rfl, hcv, hcvx, hvb, hvl, hcell⟩ := hO.ptr hlen (by omega)
                have hzF : z < Fl.length := by rw [HFL.out, hz]; have := HI.out; omega
                have ca := hcell z (bv (at_ Kn r)) (by unfold bvs; rw [List.getElem?_map, List.getElem?_append_left hzF, hz, HKN.out r hltr]; rfl)
                have cb := hx.cell (four_bv HTL.out hltr)
                have xx := u8x (at_ Tn r) (at_ Kn r)
                rw [← lay_four HTL.out HKL.out hltr] at xx
                have hst : bvs (Fl ++ (lay Tn Kn).take (r + 1)) = bvs (Fl ++ (lay Tn Kn).take r) ++ [.int .u8 ((at_ (lay Tn Kn) r).toNat : Int)] := by
                  rw [take_at HLK.out hltr, ← List.append_assoc, bvs_append]; rfl
                have hzM : (z : Int) < (M : Int) := by have := HFL.out; have := HQ.out; omega
                have r4 : (r : Int) < 4 := by omega
                rw [bv_int] at ca cb
                have HST := Lib.hid hst
                have HLEN := Lib.hid hlen
                have HMB : M ≤ 300 := by omega
                have HON := Lib.hid hon
                have hoa : OwnV (wr.drew.alloc (.cells #[.int .u8 ((at_ (lay Tn Kn) r).toNat : Int)] 5)) 5 w.heap.size (.slice (some ⟨gv, ov, none⟩) M cv) (bvs (Fl ++ (lay Tn Kn).take r)) := (OwnV.drew hO).alloc _
                have hxa : RowV (wr.drew.alloc (.cells #[.int .u8 ((at_ (lay Tn Kn) r).toNat : Int)] 5)) 191 tb (bvs Tn) := RowV.alloc (w := wr.drew) hx _
                have hga : RowV (wr.drew.alloc (.cells #[.int .u8 ((at_ (lay Tn Kn) r).toNat : Int)] 5)) 117 g (keyObj (.slice A L c) (.slice none 0 0) d st sbs uss) := RowV.alloc (w := wr.drew) hgo _
                have hfa : Frame (But w g) w (wr.drew.alloc (.cells #[.int .u8 ((at_ (lay Tn Kn) r).toNat : Int)] 5)) := (Frame.drew hf).alloc (fun b h => Nat.lt_of_lt_of_le h.1 hf.size) _
                have hsa := hfa.size
                have hsrc := src1 wr.drew (.int .u8 ((at_ (lay Tn Kn) r).toNat : Int)) 5
                have htbl := hx.lt
                have HOA := Lib.hid hoa
                have HXA := Lib.hid hxa
                have HGA := Lib.hid hga
                have HFA := Lib.hid hfa
                have HSRC := Lib.hid hsrc
                have HFB := Lib.hid (four_bv HTL.out hltr)
                have HCZ := Lib.hid (show (bvs (Fl ++ (lay Tn Kn).take r))[z]? = some (.int .u8 ((at_ Kn r).toNat : Int)) by unfold bvs; rw [List.getElem?_map, List.getElem?_append_left hzF, hz, HKN.out r hltr]; rfl)
                rw [bv_int] at HFB
                clear hoa hxa hga hfa hsrc hst hlen hon hO hx hgo hf hcell hz hzF hM
                generalize (at_ (lay Tn Kn) r).toNat = X at *
                generalize (at_ Tn r).toNat = Y at *
                generalize (at_ Kn r).toNat = Z at *
                go_wp2_with fail
                go_region_held3 (fun w' => w'.cell? ⟨tb, r, none⟩ = some (.int .u8 (Y : Int)) ∧ w'.cell? ⟨gv, ov + z, none⟩ = some (.int .u8 (Z : Int))) (first | exact ⟨cb, ca⟩ | exact ⟨d1, d2⟩ | go_keep)
                  ((refine step_append_k Go.Proofs.YtkgnnlglabihkaaGreatDoor.u8.el (by rfl) (.tmp 102) (.tmp 116) rfl w.heap.size _ (bvs (Fl ++ (lay Tn Kn).take r)) _ 1 1 [.int .u8 (X : Int)] rfl rfl HOA.out rfl HSRC.out (by intro u hu; simp only [List.mem_singleton] at hu; subst hu; rfl) (by rw [HLEN.out]; omega) (by rw [HLEN.out]; omega) hsa ?_
                    intro v2 w2 hO2 hg2 hat2 hk2
                    have hx2 := HXA.out.grown hg2 (fun e => HON.out e.symm)
                    have d1 := hx2.cell HFB.out
                    have d2 := hk2.again HCZ.out
                    have hg3 := HGA.out.grown hg2 (fun e => by injection e with e; change g = gv at e; omega)
                    have hf2 : Frame (But w g) w w2 := Frame.trans HFA.out (Frame.of_grown (S := fun k => k < w.heap.size) hg2 (fun k hk => ⟨Nat.lt_of_lt_of_le hk hsa, fun e => by injection e with e; change k = gv at e; omega⟩)) (fun k hk => hk.1)
                    have hon2 : v2.ownBlock ≠ some tb := by
                      rcases hat2 with h | h
                      · rw [h]; exact HON.out
                      · rw [h]; intro e; injection e with e; simp at e; omega
                    obtain ⟨A2, c2, hv2, _, _⟩ := hO2.len
                    rw [List.length_append, HLEN.out] at hv2
                    subst hv2
                    have HO2 := Lib.hid hO2
                    have HX2 := Lib.hid hx2
                    have HG2 := Lib.hid hg3
                    have HF2 := Lib.hid hf2
                    have HON2 := Lib.hid hon2
                    clear hO2 hg2 hat2 hk2 hx2 hg3 hf2 hon2))
                clear i1 i2 i3 xx ca cb d1 d2
                go_wp2_with fail
                go_roundw
                case rel => exact ⟨r + 1, by omega, by go_num, by rw [HST.out]; exact HO2.out, HON2.out, HX2.out, HG2.out, HF2.out⟩
                case measure => simp [intOf]; omega
              · have e4 : r = 4 := by omega
                subst e4
                rw [List.take_of_length_le (by rw [HLK.out]; exact Nat.le_refl _), ← HNX.out] at hO
                have HO := Lib.hid hO
                have HGO := Lib.hid hgo
                have HF := Lib.hid hf
                clear hO hon hx hgo hf
                go_wp2_with fail
                go_roundw
                case rel => exact ⟨j + 1, i + 1, (by have := HI.out; omega), by omega, by go_num, (by first | rfl | rw [HPV.out]), HO.out, HGO.out, HF.out⟩
                case measure => simp [intOf] <;> (have := HI.out; omega)
          · have hn8 : ((n : Int) == 8) = false := beq_eq_false_iff_ne.2 (by omega)
            clear hTn hpv hA hB h8 hρ htbe x0 x1 x2 x3 t0 t1 t2 t3 u0 u1 u2 u3 tw
            go_wp2_with (first
              | (with_reducible refine at_slot 37 ?_
                 refine wpList_load_mid rfl _ _ rfl gw (off + lo) rfl (bvs T0) (.array 4 5) HRG.out Tryz.underlying191 rfl (by rw [HBL.out]; kernel_rfl) ?_)
              | (with_reducible refine at_store 6 ?_
                 refine wpList_store_new rfl _ _ _ rfl _ _ (bvs T0) rfl rfl (by rw [HBL.out]; kernel_rfl) (by rw [HBL.out]; rfl) (bvs_one _) ?_))
            rw [HTB.out]
            clear hsl har s1 s2 hm i1 hn8 hρ0
            go_loopw [3, 99] (fun wv r wi => ∃ r' : Nat, r' ≤ 4 ∧ r = .int .i64 r' ∧ OwnV wi 5 w.heap.size wv (bvs (Fl ++ (lay Tn Kn).take r')) ∧ wv.ownBlock ≠ some tb ∧ RowV wi 191 tb (bvs Tn) ∧ RowV wi 117 g (keyObj (.slice A L c) (.slice none 0 0) d st sbs uss) ∧ Frame (But w g) w wi) (fun _ r _ => 4 - (intOf r).toNat)
            case atStart => exact ⟨0, by omega, rfl, (by rw [List.take_zero, List.append_nil]; exact HO3.out), (fun e => by injection e with e; exact htw e.symm), HX3.out, HG3.out, HF3.out⟩
            case round =>
              obtain ⟨r, hr4, rfl, hO, hon, hx, hgo, hf⟩ := hrel
              clear HO3 HX3 HG3 HF3
              by_cases hltr : r < 4
              · obtain ⟨m, z, i1, i2, i3, hz⟩ := idx_exp (r := r) HI.out (by omega) hltr
                obtain ⟨M, hM⟩ : ∃ M, M = q + r := ⟨_, rfl⟩
                have hlen : (bvs (Fl ++ (lay Tn Kn).take r)).length = M := by rw [bvs_length, List.length_append, HFL.out, List.length_take, HLK.out, hM, HQ.out]; omega
                obtain ⟨gv, ov, cv, rfl, hcv, hcvx, hvb, hvl, hcell⟩ := hO.ptr hlen (by omega)
                have hzF : z < Fl.length := by rw [HFL.out, hz]; have := HI.out; omega
                have ca := hcell z (bv (at_ Kn r)) (by unfold bvs; rw [List.getElem?_map, List.getElem?_append_left hzF, hz, HKN.out r hltr]; rfl)
                have cb := hx.cell (four_bv HTL.out hltr)
                have xx := u8x (at_ Tn r) (at_ Kn r)
                rw [← lay_four HTL.out HKL.out hltr] at xx
                have hst : bvs (Fl ++ (lay Tn Kn).take (r + 1)) = bvs (Fl ++ (lay Tn Kn).take r) ++ [.int .u8 ((at_ (lay Tn Kn) r).toNat : Int)] := by
                  rw [take_at HLK.out hltr, ← List.append_assoc, bvs_append]; rfl
                have hzM : (z : Int) < (M : Int) := by have := HFL.out; have := HQ.out; omega
                have r4 : (r : Int) < 4 := by omega
                rw [bv_int] at ca cb
                have HST := Lib.hid hst
                have HLEN := Lib.hid hlen
                have HMB : M ≤ 300 := by omega
                have HON := Lib.hid hon
                have hoa : OwnV (wr.drew.alloc (.cells #[.int .u8 ((at_ (lay Tn Kn) r).toNat : Int)] 5)) 5 w.heap.size (.slice (some ⟨gv, ov, none⟩) M cv) (bvs (Fl ++ (lay Tn Kn).take r)) := (OwnV.drew hO).alloc _
                have hxa : RowV (wr.drew.alloc (.cells #[.int .u8 ((at_ (lay Tn Kn) r).toNat : Int)] 5)) 191 tb (bvs Tn) := RowV.alloc (w := wr.drew) hx _
                have hga : RowV (wr.drew.alloc (.cells #[.int .u8 ((at_ (lay Tn Kn) r).toNat : Int)] 5)) 117 g (keyObj (.slice A L c) (.slice none 0 0) d st sbs uss) := RowV.alloc (w := wr.drew) hgo _
                have hfa : Frame (But w g) w (wr.drew.alloc (.cells #[.int .u8 ((at_ (lay Tn Kn) r).toNat : Int)] 5)) := (Frame.drew hf).alloc (fun b h => Nat.lt_of_lt_of_le h.1 hf.size) _
                have hsa := hfa.size
                have hsrc := src1 wr.drew (.int .u8 ((at_ (lay Tn Kn) r).toNat : Int)) 5
                have htbl := hx.lt
                have HOA := Lib.hid hoa
                have HXA := Lib.hid hxa
                have HGA := Lib.hid hga
                have HFA := Lib.hid hfa
                have HSRC := Lib.hid hsrc
                have HFB := Lib.hid (four_bv HTL.out hltr)
                have HCZ := Lib.hid (show (bvs (Fl ++ (lay Tn Kn).take r))[z]? = some (.int .u8 ((at_ Kn r).toNat : Int)) by unfold bvs; rw [List.getElem?_map, List.getElem?_append_left hzF, hz, HKN.out r hltr]; rfl)
                rw [bv_int] at HFB
                clear hoa hxa hga hfa hsrc hst hlen hon hO hx hgo hf hcell hz hzF hM
                generalize (at_ (lay Tn Kn) r).toNat = X at *
                generalize (at_ Tn r).toNat = Y at *
                generalize (at_ Kn r).toNat = Z at *
                go_wp2_with fail
                go_region_held3 (fun w' => w'.cell? ⟨tb, r, none⟩ = some (.int .u8 (Y : Int)) ∧ w'.cell? ⟨gv, ov + z, none⟩ = some (.int .u8 (Z : Int))) (first | exact ⟨cb, ca⟩ | exact ⟨d1, d2⟩ | go_keep)
                  ((refine step_append_k Go.Proofs.YtkgnnlglabihkaaGreatDoor.u8.el (by rfl) (.tmp 102) (.tmp 116) rfl w.heap.size _ (bvs (Fl ++ (lay Tn Kn).take r)) _ 1 1 [.int .u8 (X : Int)] rfl rfl HOA.out rfl HSRC.out (by intro u hu; simp only [List.mem_singleton] at hu; subst hu; rfl) (by rw [HLEN.out]; omega) (by rw [HLEN.out]; omega) hsa ?_
                    intro v2 w2 hO2 hg2 hat2 hk2
                    have hx2 := HXA.out.grown hg2 (fun e => HON.out e.symm)
                    have d1 := hx2.cell HFB.out
                    have d2 := hk2.again HCZ.out
                    have hg3 := HGA.out.grown hg2 (fun e => by injection e with e; change g = gv at e; omega)
                    have hf2 : Frame (But w g) w w2 := Frame.trans HFA.out (Frame.of_grown (S := fun k => k < w.heap.size) hg2 (fun k hk => ⟨Nat.lt_of_lt_of_le hk hsa, fun e => by injection e with e; change k = gv at e; omega⟩)) (fun k hk => hk.1)
                    have hon2 : v2.ownBlock ≠ some tb := by
                      rcases hat2 with h | h
                      · rw [h]; exact HON.out
                      · rw [h]; intro e; injection e with e; simp at e; omega
                    obtain ⟨A2, c2, hv2, _, _⟩ := hO2.len
                    rw [List.length_append, HLEN.out] at hv2
                    subst hv2
                    have HO2 := Lib.hid hO2
                    have HX2 := Lib.hid hx2
                    have HG2 := Lib.hid hg3
                    have HF2 := Lib.hid hf2
                    have HON2 := Lib.hid hon2
                    clear hO2 hg2 hat2 hk2 hx2 hg3 hf2 hon2))
                clear i1 i2 i3 xx ca cb d1 d2
                go_wp2_with fail
                go_roundw
                case rel => exact ⟨r + 1, by omega, by go_num, by rw [HST.out]; exact HO2.out, HON2.out, HX2.out, HG2.out, HF2.out⟩
                case measure => simp [intOf]; omega
              · have e4 : r = 4 := by omega
                subst e4
                rw [List.take_of_length_le (by rw [HLK.out]; exact Nat.le_refl _), ← HNX.out] at hO
                have HO := Lib.hid hO
                have HGO := Lib.hid hgo
                have HF := Lib.hid hf
                clear hO hon hx hgo hf
                go_wp2_with fail
                go_roundw
                case rel => exact ⟨j + 1, i + 1, (by have := HI.out; omega), by omega, by go_num, (by first | rfl | rw [HPV.out]), HO.out, HGO.out, HF.out⟩
                case measure => simp [intOf] <;> (have := HI.out; omega)
    · have hjm : j = more n := by omega
      subst hjm
      have hW4 := words_four HK.out (show 0 < n by omega) (more n)
      obtain ⟨N, hN⟩ : ∃ N, N = 16 * (n + 7) := ⟨_, rfl⟩
      have hfl : (words n key (more n)).flatten.length = N := by rw [four_flat hW4, words_length]; omega
      obtain ⟨Fl, hFe⟩ : ∃ Fl, (words n key (more n)).flatten = Fl := ⟨_, rfl⟩
      have hrb : ∀ k, k < n + 7 → (Fl.drop (16 * k)).take 16 = rkey (rounds n key) k := fun k hk => by rw [← hFe]; exact rounds_bytes HK.out (by omega) hk
      rw [hFe] at hO hfl
      obtain ⟨gw, off, cw, rfl, hcw, hcwx, hgb, hgl, _⟩ := hO.ptr (n := N) (by rw [bvs_length, hfl]) (by omega)
      have hi1 : decide ((i : Int) < 4 * ((n : Int) + 7)) = false := decide_eq_false (by omega)
      have hrk := rounds_ok HK.out (show 0 < n by omega) n8
      have hrl := rounds_length n key
      have HRB := Lib.hid hrb
      have HO := Lib.hid hO
      have HFL := Lib.hid hfl
      have HNN := Lib.hid hN
      have HRK := Lib.hid hrk
      have HRL := Lib.hid hrl
      have hgg : g < w.heap.size := HG.out.lt
      have i2 : ¬ (i : Int) < 4 * ((n : Int) + 7) := by omega
      clear hrb hO hfl hN hrk hrl hFe hW4 hlt hj hmn h4n hi
      go_wp2_with fail
      clear hi1 i2
      go_loopw [9] (fun cc wi => ∃ k c16 : Nat, c16 = 16 * k ∧ k ≤ n + 7 ∧ cc = .int .i64 (c16 : Int) ∧ ∃ rv, RowV wi 117 g (keyObj (.slice A L c) rv d st sbs uss) ∧ wi.ownsRow w.heap.size 166 16 rv k (bvs ((rounds n key).take k).flatten) ∧ rv.ownBlock ≠ some gw ∧ OwnV wi 5 w.heap.size (.slice (some ⟨gw, off, none⟩) N cw) (bvs Fl) ∧ Frame (But w g) w wi) (fun cc _ => 300 - (intOf cc).toNat)
      case atStart => exact ⟨0, 0, rfl, by omega, rfl, _, HGR.out, World.ownsRow_nil _ _ _ _, (fun e => by cases e), HO.out, HWR.out⟩
      case round =>
        obtain ⟨k, c16, hc16, hk, rfl, rv, hgo, hrv, hrn, hO, hf⟩ := hrel
        clear HO HGR HWR
        have HGO := Lib.hid hgo
        have HRV := Lib.hid hrv
        have HRN := Lib.hid hrn
        have HO := Lib.hid hO
        have HF := Lib.hid hf
        have n7 : n + 7 ≤ 15 := by omega
        by_cases hlk : k < n + 7
        · obtain ⟨A1, c1, rfl, hc1, hc1x⟩ := roww_len hrv
          obtain ⟨gw', off', cw', he, _, _, _, hgl', hcell⟩ := hO.ptr (n := N) (by rw [bvs_length, HFL.out]) (by have := HNN.out; omega)
          injection he with he1 he2 he3
          injection he1 with he1
          injection he1 with he1 he4
          subst he1 he4 he3
          have hrg := ownv_range hcell (16 * k) 16
          rw [HRB.out k hlk, ← hc16] at hrg
          have hRl : (bvs (rkey (rounds n key) k)).length = 16 := by rw [bvs_length]; exact HRK.out.at_ (by rw [HRL.out]; exact hlk)
          have hst : bvs ((rounds n key).take (k+1)).flatten = bvs ((rounds n key).take k).flatten ++ bvs (rkey (rounds n key) k) := by
            rw [take_round (by rw [HRL.out]; exact hlk), List.flatten_append, bvs_append]; simp
          have hNb : c16 + 16 ≤ N := by have := HNN.out; omega
          obtain ⟨hi, hhi⟩ : ∃ hi, hi = c16 + 16 := ⟨_, rfl⟩
          have s1 : IntKind.i64.wrap ((c16 : Int) + 16) = (hi : Int) := by rw [IntWalk.i64_in _ (by omega)]; omega
          have hsl := slice_own gw off N cw c16 16 hNb hcw (by omega) (hi : Int) (c16 : Int) (by omega) rfl
          have har := fun w => arr16_at gw (off + c16) 16 (cw - c16) w rfl
          have hcN : (c16 : Int) < (N : Int) := by omega
          have c0 := hgo.cell (ko_rv sbs_length uss_length)
          have f0 := hgo.frozen 516
          have HRG := Lib.hid hrg
          have HRLN := Lib.hid hRl
          have HST := Lib.hid hst
          have HHI := Lib.hid hhi
          have HC16 := Lib.hid hc16
          obtain ⟨Rk, hRk⟩ : ∃ Rk, rkey (rounds n key) k = Rk := ⟨_, rfl⟩
          rw [hRk] at HRG HRLN HST
          have hcNN : c16 + 16 ≤ 240 := by have := HNN.out; omega
          clear hgo hrv hrn hO hf hcell hrg hRl hst hhi hc16 hRk hNb
          go_wp2_with fail
          refine wp_region_last (S := fun w' => w'.cell? ⟨g, 516, none⟩ = some (.slice A1 k c1) ∧ w'.rangeAt gw (off + c16) (bvs Rk)) 16 (by kernel_rfl) (⟨c0, HRG.out⟩) (fun hHeld => ?_)
          refine wpAnyS_take (i := 0) (v := ?_) rfl (by kernel_rfl) (by kernel_rfl) (by kernel_rfl) (by kernel_rfl) (fun _ _ _ h => h) (Or.inl ⟨by kernel_rfl, ?_⟩) (by assumption) ?_
          rotate_left
          · (intro w hSw; (try dsimp only at hSw); go_simp; first | done | with_reducible rfl)
          (try simp only [Act.put, List.setIfInBounds_toArray, List.set_cons_zero, List.set_cons_succ, List.getElem_toArray, List.getElem_cons_zero, List.getElem_cons_succ])
          refine wpAnyS_take (i := 1) (v := ?_) rfl (by kernel_rfl) (by kernel_rfl) (by kernel_rfl) (by kernel_rfl) (fun _ _ _ h => h) (Or.inl ⟨by kernel_rfl, ?_⟩) (by assumption) ?_
          rotate_left
          · (intro w hSw; (try dsimp only at hSw); go_simp; first | done | with_reducible rfl)
          (try simp only [Act.put, List.setIfInBounds_toArray, List.set_cons_zero, List.set_cons_succ, List.getElem_toArray, List.getElem_cons_zero, List.getElem_cons_succ])
          refine wpAnyS_take (i := 2) (v := ?_) rfl (by kernel_rfl) (by kernel_rfl) (by kernel_rfl) (by kernel_rfl) (fun _ _ _ h => h) (Or.inl ⟨by kernel_rfl, ?_⟩) (by assumption) ?_
          rotate_left
          · (intro w hSw; (try dsimp only at hSw); go_simp; first | done | with_reducible rfl)
          (try simp only [Act.put, List.setIfInBounds_toArray, List.set_cons_zero, List.set_cons_succ, List.getElem_toArray, List.getElem_cons_zero, List.getElem_cons_succ])
          refine wpAnyS_take (i := 3) (v := ?_) rfl (by kernel_rfl) (by kernel_rfl) (by kernel_rfl) (by kernel_rfl) (fun _ _ _ h => h) (Or.inl ⟨by kernel_rfl, ?_⟩) (by assumption) ?_
          rotate_left
          · (intro w hSw; (try dsimp only at hSw); go_simp; first | done | with_reducible rfl)
          (try simp only [Act.put, List.setIfInBounds_toArray, List.set_cons_zero, List.set_cons_succ, List.getElem_toArray, List.getElem_cons_zero, List.getElem_cons_succ])
          refine wpAnyS_take (i := 4) (v := ?_) rfl (by kernel_rfl) (by kernel_rfl) (by kernel_rfl) (by kernel_rfl) (fun _ _ _ h => h) (Or.inl ⟨by kernel_rfl, ?_⟩) (by assumption) ?_
          rotate_left
          · (intro w hSw; (try dsimp only at hSw); go_simp; first | done | with_reducible rfl)
          (try simp only [Act.put, List.setIfInBounds_toArray, List.set_cons_zero, List.set_cons_succ, List.getElem_toArray, List.getElem_cons_zero, List.getElem_cons_succ])
          refine wpAnyS_take (i := 5) (v := ?_) rfl (by kernel_rfl) (by kernel_rfl) (by kernel_rfl) (by kernel_rfl) (fun _ _ _ h => h) (Or.inl ⟨by kernel_rfl, ?_⟩) (by assumption) ?_
          rotate_left
          · (intro w hSw; (try dsimp only at hSw); go_simp; first | done | with_reducible rfl)
          (try simp only [Act.put, List.setIfInBounds_toArray, List.set_cons_zero, List.set_cons_succ, List.getElem_toArray, List.getElem_cons_zero, List.getElem_cons_succ])
          refine wpAnyS_take (i := 6) (v := ?_) rfl (by kernel_rfl) (by kernel_rfl) (by kernel_rfl) (by kernel_rfl) (fun _ _ _ h => h) (Or.inl ⟨by kernel_rfl, ?_⟩) (by assumption) ?_
          rotate_left
          · (intro w hSw; (try dsimp only at hSw); go_simp; first | done | with_reducible rfl)
          (try simp only [Act.put, List.setIfInBounds_toArray, List.set_cons_zero, List.set_cons_succ, List.getElem_toArray, List.getElem_cons_zero, List.getElem_cons_succ])
          refine wpAnyS_take (i := 7) (v := ?_) rfl (by kernel_rfl) (by kernel_rfl) (by kernel_rfl) (by kernel_rfl) (fun _ _ _ h => h) (Or.inl ⟨by kernel_rfl, ?_⟩) (by assumption) ?_
          rotate_left
          · (intro w hSw; (try dsimp only at hSw); go_simp; first | done | with_reducible rfl)
          (try simp only [Act.put, List.setIfInBounds_toArray, List.set_cons_zero, List.set_cons_succ, List.getElem_toArray, List.getElem_cons_zero, List.getElem_cons_succ])
          refine wpAnyS_take (i := 8) (v := ?_) rfl (by kernel_rfl) (by kernel_rfl) (by kernel_rfl) (by kernel_rfl) (fun _ _ _ h => h) (Or.inl ⟨by kernel_rfl, ?_⟩) (by assumption) ?_
          rotate_left
          · (intro w hSw; (try dsimp only at hSw); go_simp; first | done | with_reducible rfl)
          (try simp only [Act.put, List.setIfInBounds_toArray, List.set_cons_zero, List.set_cons_succ, List.getElem_toArray, List.getElem_cons_zero, List.getElem_cons_succ])
          refine wpAnyS_take (i := 9) (v := ?_) rfl (by kernel_rfl) (by kernel_rfl) (by kernel_rfl) (by kernel_rfl) (fun _ _ _ h => h) (Or.inl ⟨by kernel_rfl, ?_⟩) (by assumption) ?_
          rotate_left
          · (intro w hSw; (try dsimp only at hSw); go_simp; first | done | with_reducible rfl)
          (try simp only [Act.put, List.setIfInBounds_toArray, List.set_cons_zero, List.set_cons_succ, List.getElem_toArray, List.getElem_cons_zero, List.getElem_cons_succ])
          refine wpAnyS_take (i := 10) (v := ?_) rfl (by kernel_rfl) (by kernel_rfl) (by kernel_rfl) (by kernel_rfl) (fun _ _ _ h => h) (Or.inl ⟨by kernel_rfl, ?_⟩) (by assumption) ?_
          rotate_left
          · (intro w hSw; (try dsimp only at hSw); go_simp; first | done | with_reducible rfl)
          (try simp only [Act.put, List.setIfInBounds_toArray, List.set_cons_zero, List.set_cons_succ, List.getElem_toArray, List.getElem_cons_zero, List.getElem_cons_succ])
          refine wpAnyS_take (i := 11) (v := .agg (bvs Rk).toArray) rfl (by kernel_rfl) (by kernel_rfl) (by kernel_rfl) (by kernel_rfl) (fun _ _ _ h => h) (yieldsIf_load_mid (by kernel_rfl) _ _ rfl gw (off + c16) rfl (bvs Rk) (.array 16 5) (fun w' h => h.2) Tryz.underlying166 rfl (by rw [HRLN.out]; kernel_rfl)) (by assumption) ?_
          (try simp only [Act.put, List.setIfInBounds_toArray, List.set_cons_zero, List.set_cons_succ, List.getElem_toArray, List.getElem_cons_zero, List.getElem_cons_succ])
          refine wpAnyS_one (i := 12) (by kernel_rfl) rfl (fun KK hKK => ?_)
          refine step_buildSlice_one elb (by omega) (by rfl) (.tmp 136) rfl (bvs Rk).toArray (by simpa using HRLN.out) rfl ?_
          refine hKK.out _ _ ?_ (fun hHeld => ?_)
          · (exact ⟨(RowV.alloc (w := wr.drew) HGO.out _).cell (ko_rv sbs_length uss_length), World.rangeAt_alloc (w := wr.drew) HRG.out _⟩)
          clear hKK KK
          (try simp only [Act.put, List.setIfInBounds_toArray, List.set_cons_zero, List.set_cons_succ, List.getElem_toArray, List.getElem_cons_zero, List.getElem_cons_succ])
          refine wpAnyS_one (i := 13) (by kernel_rfl) rfl (fun KK hKK => ?_)
          have hsz := HF.out.size
          refine step_append_w elb (by rfl) (.tmp 129) (.tmp 137) rfl w.heap.size _ k _ _ 1 1 (bvs Rk) rfl rfl (roww_below (w := wr.drew) HRV.out ((Below.refl _ _).alloc (Nat.le_refl _) _)) (by rw [HRLN.out]) (src16 wr.drew (bvs Rk) 166) (bvs_one _) (by omega) (by omega) (by simp; omega) ?_
          intro v2 w2 hr2 hg2 hat2
          have hgk : RowV w2 117 g (keyObj (.slice A L c) (.slice A1 k c1) d st sbs uss) := (RowV.alloc (w := wr.drew) HGO.out (.cells (bvs Rk).toArray 166)).grown hg2 (fun e => by have := (World.ownsRow.lt HRV.out g e.symm).1; omega)
          have hge : ∀ b, b < wr.heap.size → Value.ownBlock (.slice A1 k c1) ≠ some b → w2.heap[b]? = wr.heap[b]? := fun b hb hne => (hg2.block b (by simp; omega) (fun e => hne e.symm)).trans (heap_alloc_old wr.drew _ hb)
          have hgwl : gw < wr.heap.size := by omega
          have hrg2 : w2.rangeAt gw (off + c16) (bvs Rk) := fun j v hj => (World.cell?_of_block (a := ⟨gw, off + c16 + j, none⟩) (hge gw hgwl HRN.out)).trans (HRG.out j v hj)
          have hO2 : OwnV w2 5 w.heap.size (.slice (some ⟨gw, off, none⟩) N cw) (bvs Fl) := HO.out.keep (fun b hb => by injection hb with hb; change gw = b at hb; subst hb; exact hge gw hgwl HRN.out)
          have hf2 : Frame (But w g) w w2 := Frame.trans HF.out.drew (Frame.of_grown (S := fun b => b < w.heap.size) hg2 (fun b hb => ⟨by simp; omega, fun e => by have := (World.ownsRow.lt HRV.out b e.symm).1; omega⟩) |> fun h => (⟨h.os, h.tape, h.output, Nat.le_trans (by simp) h.size, fun b hb => (h.block b hb).trans (heap_alloc_old wr.drew _ (by have := hb; show b < wr.heap.size; omega))⟩ : Frame (fun b => b < w.heap.size) wr.drew w2)) (fun b hb => hb.1)
          have hrn2 : v2.ownBlock ≠ some gw := by
            rcases hat2 with h | h
            · rw [h]; exact HRN.out
            · rw [h]; intro e; injection e with e; simp at e; omega
          have d0 := hgk.cell (ko_rv sbs_length uss_length)
          have e0 := hgk.frozen 516
          have hkey := hgk.set 516 v2
          rw [ko_set_rv sbs_length uss_length] at hkey
          have HKEY := Lib.hid hkey
          have hr2' : (w2.setCell ⟨g, 516, none⟩ v2).ownsRow w.heap.size 166 16 v2 (k + 1) (bvs ((rounds n key).take k).flatten ++ bvs Rk) := roww_keep hr2 (fun b hb => heap_setCell_other w2 ⟨g, 516, none⟩ b _ (fun e => by have e' : b = g := e; have := (World.ownsRow.lt hr2 b hb).1; omega))
          have HRV2 := Lib.hid hr2'
          have HRN2 := Lib.hid hrn2
          have HO2 := Lib.hid (hO2.far (p := ⟨g, 516, none⟩) (fun e => by injection e with e; change gw = g at e; omega) v2)
          have HF2 := Lib.hid (hf2.setCell (p := ⟨g, 516, none⟩) (fun h => h.2 rfl) v2)
          have HRG2 := Lib.hid hrg2
          obtain ⟨A2, c2, hv2, _, _⟩ := roww_len hr2
          subst hv2
          clear hr2 hg2 hat2 hgk hge hrg2 hO2 hf2 hrn2 hkey hr2'
          refine hKK.out _ _ ?_ (fun hHeld => ?_)
          · (exact ⟨d0, HRG2.out⟩)
          clear hKK KK
          (try simp only [Act.put, List.setIfInBounds_toArray, List.set_cons_zero, List.set_cons_succ, List.getElem_toArray, List.getElem_cons_zero, List.getElem_cons_succ])
          refine wpAnyS_one (i := 14) (by kernel_rfl) rfl (fun KK hKK => ?_)
          go_simp
          refine hKK.out _ _ ?_ (fun hHeld => ?_)
          · (exact ⟨d0, HRG2.out⟩)
          clear hKK KK
          (try simp only [Act.put, List.setIfInBounds_toArray, List.set_cons_zero, List.set_cons_succ, List.getElem_toArray, List.getElem_cons_zero, List.getElem_cons_succ])
          refine wpAnyS_one (i := 15) (by kernel_rfl) rfl (fun KK hKK => ?_)
          go_simp
          refine hKK.out _ _ ?_ (fun hHeld => ?_)
          · (exact ⟨d0, HRG2.out⟩)
          clear hKK KK
          (try simp only [Act.put, List.setIfInBounds_toArray, List.set_cons_zero, List.set_cons_succ, List.getElem_toArray, List.getElem_cons_zero, List.getElem_cons_succ])
          refine wpAnyS_last (by kernel_rfl) rfl (by kernel_rfl) (fun KK hKK => ?_)
          go_simp
          refine hKK.out _ _ ?_
          clear hKK KK
          (try simp only [Act.put, List.setIfInBounds_toArray, List.set_cons_zero, List.set_cons_succ, List.getElem_toArray, List.getElem_cons_zero, List.getElem_cons_succ])
          clear s1 hsl har
          go_wp2_with fail
          go_roundw
          case rel => exact ⟨k + 1, c16 + 16, (by have := HC16.out; omega), by omega, by go_num, _, HKEY.out, (by rw [HST.out]; exact HRV2.out), HRN2.out, HO2.out, HF2.out⟩
          case measure => simp [intOf] <;> omega
        · have e7 : k = n + 7 := by omega
          subst e7
          have hx : ¬ (c16 : Int) < (N : Int) := by have := HNN.out; omega
          have hd : decide ((c16 : Int) < (N : Int)) = false := decide_eq_false hx
          clear hgo hrv hrn hO hf hc16
          go_wp2_with fail
          go_end0
          have := HRV.out
          rw [List.take_of_length_le (by rw [HRL.out]; exact Nat.le_refl _)] at this
          exact ⟨rfl, _, HGO.out, this, HF.out⟩
end Go.Proofs.YtkgnnlglabihkaaGreatDoor.Aes
