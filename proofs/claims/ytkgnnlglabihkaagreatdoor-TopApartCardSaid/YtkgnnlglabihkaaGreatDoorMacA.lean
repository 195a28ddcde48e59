/- A digest under a key: words; New; the key's halves: contracts. -/
import Derived.Test.YtkgnnlglabihkaaGreatDoorShaAll
import Derived.Test.YtkgnnlglabihkaaGreatDoorMemAll
import Derived.Test.YtkgnnlglabihkaaGreatDoorAesOnce
import Derived.Deep.RegionHeld3
namespace Go.Proofs.YtkgnnlglabihkaaGreatDoor.Mac
open Go Go.ChangeShapes Go.WideShapes Go.ChangeAt Go.RowKit Go.Proofs.YtkgnnlglabihkaaGreatDoor.Sha
set_option linter.unusedVariables false
set_option linter.unusedSimpArgs false
abbrev But := Aes.But
/-- the key's own bytes, or their digest -/
def kk (key : List UInt8) : List UInt8 := if 64 < key.length then sha key else key
theorem sha_len (l : List UInt8) : (sha l).length = 32 := by
  unfold sha
  obtain ⟨a, b, c, d, e, f, g, i, h, _⟩ := (blocks_eight ((padded l).length / 64) hw_eight (padded l)).parts
  rw [h]; rfl
theorem kk_len (key : List UInt8) : (kk key).length ≤ 64 := by
  unfold kk
  split
  · rw [sha_len]; omega
  · omega
def pad0 (l : List UInt8) : List UInt8 := l ++ List.replicate (64 - l.length) 0
theorem pad0_length {l : List UInt8} (h : l.length ≤ 64) : (pad0 l).length = 64 := by unfold pad0; rw [List.length_append, List.length_replicate]; omega
def padK (key : List UInt8) : List UInt8 := pad0 (kk key)
theorem padK_length (key : List UInt8) : (padK key).length = 64 := pad0_length (kk_len key)
def xk (c : UInt8) (l : List UInt8) : List UInt8 := l.map (· ^^^ c)
theorem xk_length (c : UInt8) (l : List UInt8) : (xk c l).length = l.length := by simp [xk]
def xkU (c : UInt8) (l : List UInt8) (i : Nat) : List UInt8 := (l.take i).map (· ^^^ c) ++ l.drop i
theorem xkU_length (c : UInt8) (l : List UInt8) (i : Nat) (h : i ≤ l.length) : (xkU c l i).length = l.length := by simp [xkU]; omega
theorem xkU_zero (c : UInt8) (l : List UInt8) : xkU c l 0 = l := by simp [xkU]
theorem xkU_all (c : UInt8) {l : List UInt8} {n : Nat} (h : l.length = n) : xkU c l n = xk c l := by subst h; simp [xkU, xk]
theorem xkU_at (c : UInt8) (l : List UInt8) {i : Nat} (h : i < l.length) : (xkU c l i)[i]? = some l[i] := by
  unfold xkU
  rw [List.getElem?_append_right (by simp; exact Nat.min_le_left _ _), show i - ((l.take i).map (· ^^^ c)).length = 0 by simp; omega, List.getElem?_drop, Nat.add_zero, List.getElem?_eq_getElem h]
theorem xkU_set (c : UInt8) (l : List UInt8) {i : Nat} (h : i < l.length) : (xkU c l i).set i (l[i] ^^^ c) = xkU c l (i + 1) := by
  unfold xkU
  have h1 : ((l.take i).map (· ^^^ c)).length = i := by simp; omega
  rw [List.set_append_right _ _ (by rw [h1]; exact Nat.le_refl _), h1, Nat.sub_self, List.drop_eq_getElem_cons h, List.set_cons_zero, List.take_succ_eq_append_getElem h, List.map_append, List.append_assoc]
  rfl
/-- the digest under a key -/
def macL (key b : List UInt8) : List UInt8 := sha (xk 92 (padK key) ++ sha (xk 54 (padK key) ++ b))
theorem macL_len (key b : List UInt8) : (macL key b).length = 32 := sha_len _
/-- a maker, cell by cell -/
def mo (raw : Value) (d st : Int) (xs ys : List UInt8) : List Value := [raw, .int .u32 d, .int .i32 st, .int .u32 0] ++ (bvs xs ++ bvs ys)
def Z64 : List UInt8 := List.replicate 64 0
section
variable {raw : Value} {d st : Int} {xs ys : List UInt8} {i : Nat} {b : UInt8}
theorem mo_raw : (mo raw d st xs ys)[0]? = some raw := rfl
theorem mo_done : (mo raw d st xs ys)[1]? = some (.int .u32 d) := rfl
theorem mo_state : (mo raw d st xs ys)[2]? = some (.int .i32 st) := rfl
theorem mo_len (hx : xs.length = 64) (hy : ys.length = 64) : (mo raw d st xs ys).length = 132 := by unfold mo; simp [bvs_length, hx, hy]
theorem mo_x (hx : xs.length = 64) (h : xs[i]? = some b) : (mo raw d st xs ys)[4 + i]? = some (bv b) := by
  have hi : i < xs.length := (List.getElem?_eq_some_iff.1 h).1
  unfold mo
  rw [List.getElem?_append_right (by show 4 ≤ 4 + i; omega), show 4 + i - [raw, Value.int .u32 d, .int .i32 st, .int .u32 0].length = i by show 4 + i - 4 = i; omega, List.getElem?_append_left (by rw [bvs_length]; exact hi)]
  simp [bvs, h]
theorem mo_y (hx : xs.length = 64) (h : ys[i]? = some b) : (mo raw d st xs ys)[68 + i]? = some (bv b) := by
  unfold mo
  rw [List.getElem?_append_right (by show 4 ≤ 68 + i; omega), show 68 + i - [raw, Value.int .u32 d, .int .i32 st, .int .u32 0].length = 64 + i by show 68 + i - 4 = 64 + i; omega, List.getElem?_append_right (by rw [bvs_length, hx]; omega), bvs_length, hx, show 64 + i - 64 = i by omega]
  simp [bvs, h]
theorem mo_setx (hx : xs.length = 64) (h : i < 64) : (mo raw d st xs ys).set (4 + i) (bv b) = mo raw d st (xs.set i b) ys := by
  unfold mo
  rw [List.set_append_right _ _ (by show 4 ≤ 4 + i; omega), show 4 + i - [raw, Value.int .u32 d, .int .i32 st, .int .u32 0].length = i by show 4 + i - 4 = i; omega, List.set_append_left _ _ (by rw [bvs_length, hx]; exact h), Aes.bvs_set]
theorem mo_sety (hx : xs.length = 64) : (mo raw d st xs ys).set (68 + i) (bv b) = mo raw d st xs (ys.set i b) := by
  unfold mo
  rw [List.set_append_right _ _ (by show 4 ≤ 68 + i; omega), show 68 + i - [raw, Value.int .u32 d, .int .i32 st, .int .u32 0].length = 64 + i by show 68 + i - 4 = 64 + i; omega, List.set_append_right _ _ (by rw [bvs_length, hx]; omega), bvs_length, hx, show 64 + i - 64 = i by omega, Aes.bvs_set]
theorem z_drop {k : Nat} : (bvs Z64).drop k = bvs (List.replicate (64 - k) 0) := by unfold Z64 bvs; rw [List.map_replicate, List.drop_replicate, List.map_replicate]
theorem mo_cpx {l : List UInt8} (hl : l.length ≤ 64) : (mo raw d st Z64 ys).take 4 ++ bvs l ++ (mo raw d st Z64 ys).drop (4 + l.length) = mo raw d st (pad0 l) ys := by
  unfold mo
  rw [List.take_left' (show [raw, Value.int .u32 d, .int .i32 st, .int .u32 0].length = 4 from rfl), List.drop_append, show [raw, Value.int .u32 d, .int .i32 st, .int .u32 0].drop (4 + l.length) = [] from List.drop_eq_nil_of_le (by show 4 ≤ 4 + l.length; omega), List.nil_append, show 4 + l.length - [raw, Value.int .u32 d, .int .i32 st, .int .u32 0].length = l.length by show 4 + l.length - 4 = _; omega,
    List.drop_append, z_drop, bvs_length, show l.length - Z64.length = 0 by show l.length - (List.replicate 64 (0 : UInt8)).length = 0; rw [List.length_replicate]; omega, List.drop_zero]
  unfold pad0
  rw [bvs_append, List.append_assoc, List.append_assoc]
theorem mo_cpy {l : List UInt8} (hx : xs.length = 64) (hl : l.length ≤ 64) : (mo raw d st xs Z64).take 68 ++ bvs l ++ (mo raw d st xs Z64).drop (68 + l.length) = mo raw d st xs (pad0 l) := by
  have e : mo raw d st xs Z64 = ([raw, Value.int .u32 d, .int .i32 st, .int .u32 0] ++ bvs xs) ++ bvs Z64 := by unfold mo; rw [List.append_assoc]
  have h68 : ([raw, Value.int .u32 d, .int .i32 st, .int .u32 0] ++ bvs xs).length = 68 := by rw [List.length_append, bvs_length, hx]; rfl
  rw [e, List.take_left' h68, List.drop_append, List.drop_eq_nil_of_le (by rw [h68]; omega), List.nil_append, h68, show 68 + l.length - 68 = l.length by omega, z_drop]
  unfold mo pad0
  rw [bvs_append, List.append_assoc, List.append_assoc]
end
/-- a copy of bytes into a block known whole -/
theorem wpList_copy_rd {P : Program} {t e : TypeId} (hP : U8 P t e) {w : World} {ops : Array Oper} {rest : List Oper} {o : Oper} {a : Act} {Q : Exit → Act → World → Prop}
    (hgd : Region.wanted o (yielded ops a.tmps) = true) (d s : Operand) (ho : o.op = .call { callee := .builtin .copy, args := #[d, s], argTypes := #[t, t] })
    (g off n m : Nat) (A : Option Addr) (k c : Nat) (T : TypeId) (cur : List Value) (l : List UInt8) (B : Nat) (hd : a.eval d = .slice (some ⟨g, off, none⟩) n m) (hs : a.eval s = .slice A k c)
    (hrow : RowV w T g cur) (hr : Rd w B A l) (hk : l.length = k) (hkn : k ≤ n) (hfit : off + k ≤ cur.length)
    (h : ∀ w', RowV w' T g (cur.take off ++ bvs l ++ cur.drop (off + l.length)) → w.grownBy w' (some g) → wpList P ops Q rest (a.put o.dst (goInt ((l.length : Nat) : Int))) w') : wpList P ops Q (o :: rest) a w := by
  subst hk
  have hsz : (P.info? e).map (·.size) = some 1 := by
    obtain ⟨i, hi, _, hz1, _⟩ := info_parts hP.info
    rw [hi]; simp [hz1]
  refine wpList_wanted hgd fun K hK => ?_
  by_cases h0 : l.length = 0
  · have hrun := run_copy_none (P := P) w t t o.type e (some ⟨g, off, none⟩) A n m l.length c hP.slice hsz (by rw [h0]; exact Nat.zero_min _)
    have hl : l = [] := List.eq_nil_of_length_eq_zero h0
    have := h w (by
      rw [hl]
      show RowV w T g (cur.take off ++ [] ++ cur.drop (off + 0))
      rw [List.append_nil, Nat.add_zero, List.take_append_drop]
      exact hrow) (World.grownBy.refl _ _)
    rw [h0] at this
    unfold Oper.wp
    simp [execOp, ho, resolve, invoke, builtin, hd, hs, hrun, Result.andThen]
    exact hK _ _ this
  · obtain ⟨ad, rfl, hc⟩ := hr.src (by omega)
    have hrun := run_copy_row (P := P) w t t o.type e g off n m ad l.length c cur.toArray T (bvs l) hP.slice hsz hrow (by rw [bvs_length]; exact (Nat.min_eq_left hkn).symm) hc (by rw [bvs_length]; simpa using hfit) (bvs_one _)
    unfold Oper.wp
    simp only [execOp, ho, resolve, invoke, builtin, Sem.run_bind, Sem.run_pure, Result.andThen_ok, List.map_toArray, List.map_cons, List.map_nil, hd, hs, hrun]
    rw [bvs_length]
    refine hK _ _ (h _ ?_ ⟨rfl, rfl, rfl, by simp, fun j _ hne => setRow_other w g j _ (fun hj => hne (congrArg some hj))⟩)
    unfold RowV
    rw [setRow_heap _ g _ _ T (0, 0) hrow]
theorem slice_all (g off : Nat) (w : World) : (Instr.sliceAt 135 (.pointer (some ⟨g, off, none⟩)) none none none).run Tryz.prog w = .ok (.slice (some ⟨g, off, none⟩) 64 64) w := by
  have hu : Tryz.prog.underlying 135 = some (.array (Tryz.prog.arrayLen 135) (Tryz.prog.elem 135)) := by kernel_rfl
  have hl : Tryz.prog.arrayLen 135 = 64 := by kernel_rfl
  have hz : (sizeOf (Tryz.prog.elem 135)).run Tryz.prog w = .ok 1 w := by kernel_rfl
  rw [run_sliceAt_array_all w _ _ hu, hz, Result.andThen_ok, slicedAt, hl]
  rfl
set_option maxRecDepth 100000 in
theorem run_build_mac (A : Option Addr) (n c : Nat) (w : World) : (Instr.build 137 #[(0, .slice A n c)]).run Tryz.prog w = .ok (.agg (mo (.slice A n c) 0 0 Z64 Z64).toArray) w := by kernel_rfl
theorem wpList_build_mac {ops : Array Oper} {rest : List Oper} {o : Oper} {a : Act} {w : World} {Q : Exit → Act → World → Prop} (hgd : o.guard = none) (x : Operand) (ho : o.op = .build 137 #[(0, x)]) (A : Option Addr) (n c : Nat) (hx : a.eval x = .slice A n c)
    (h : wpList Tryz.prog ops Q rest (a.put o.dst (.agg (mo (.slice A n c) 0 0 Z64 Z64).toArray)) w) : wpList Tryz.prog ops Q (o :: rest) a w := by
  refine wpList_plain hgd fun _ hK => ?_
  have hr := run_build_mac A n c w
  unfold Oper.wp execOp
  simp only [ho, List.map_toArray, List.map_cons, List.map_nil, hx, hr, Sem.run_bind, Sem.run_pure, Result.andThen_ok]
  exact hK _ _ h
set_option maxRecDepth 100000 in
set_option maxHeartbeats 1000000 in
theorem macnew_any (A : Option Addr) (n c : Nat) (l : List UInt8) (w : World) (Bd : Nat) (hB : Bd ≤ w.heap.size) (hn : l.length = n) (hm : n ≤ 140737488355328) (hr : Rd w Bd A l) :
    Calls Tryz.prog 48 #[.slice A n c] w fun e w' => ∃ g A1 c1, e = .returned (.pointer (some ⟨g, 0, none⟩)) ∧ RowV w' 137 g (mo (.slice A1 n c1) 0 0 Z64 Z64) ∧ Rd w' w'.heap.size A1 l ∧ (∀ a, A1 = some a → a.block ≠ g) ∧ n ≤ c1 ∧ c1 ≤ 9223372036854775807 ∧ w.heap.size ≤ g ∧ Below w.heap.size w w' := by
  have HN := Lib.hid hn
  have HR := Lib.hid hr
  have HM := Lib.hid hm
  clear hn hr hm
  go_enter Tryz.func48, Tryz.ntmps48
  go_wp2_with fail
  refine (bclone_any A _ c l _ Bd hB HN.out HM.out HR.out).mono ?_
  rintro e w1 ⟨v, rfl, hO, hb⟩
  obtain ⟨A1, c1, rfl, hr1, hc1⟩ := hO.form
  obtain ⟨_, hcn, hcm⟩ := own_len hO
  rw [HN.out] at hO ⊢
  have HO := Lib.hid hO
  have HB := Lib.hid hb
  have HR1 := Lib.hid hr1
  have hz := hb.size
  clear hO hb hr1
  go_wp2_with (with_reducible refine at_slot 5 ?_
               refine wpList_build_mac rfl _ rfl A1 _ c1 rfl ?_)
  go_ret
  refine ⟨w1.heap.size, A1, c1, rfl, heap_alloc_new w1 _, (HR1.out.alloc (Nat.le_refl _) _).more (by simp), fun a e => ?_, by have := HN.out; omega, hcm, hz, HB.out.alloc hz _⟩
  subst e
  have := (HO.out.lt a.block rfl).2
  omega
set_option maxRecDepth 100000 in
set_option maxHeartbeats 4000000 in
theorem halves_any (g n c : Nat) (A : Option Addr) (key : List UInt8) (d st : Int) (w : World) (hkl : key.length = n) (hn : n ≤ 35184372088832) (hnc : n ≤ c) (hcm : c ≤ 9223372036854775807)
    (hg : RowV w 137 g (mo (.slice A n c) d st Z64 Z64)) (hA : ∀ a, A = some a → a.block ≠ g) (hr : Rd w w.heap.size A key) :
    Calls Tryz.prog 68 #[.pointer (some ⟨g, 0, none⟩)] w fun e w' => e = .returned (.tuple #[]) ∧ RowV w' 137 g (mo (.slice A n c) d st (xk 54 (padK key)) (xk 92 (padK key))) ∧ Frame (But w g) w w' := by
  have hsl := slice_all
  have hraw := hg.cell mo_raw
  have HKL := Lib.hid hkl
  have HG := Lib.hid hg
  have HR := Lib.hid hr
  have HA := Lib.hid hA
  have HN := Lib.hid hn
  have HNC := Lib.hid (And.intro hnc hcm)
  have hgl := hg.lt
  clear hkl hg hr hA hn hnc hcm
  by_cases hlong : 64 < n
  · have hk1 : kk key = sha key := if_pos (by rw [HKL.out]; exact hlong)
    have d1 : decide ((64 : Int) < (n : Int)) = true := decide_eq_true (by omega)
    have HK1 := Lib.hid hk1
    clear hk1 hlong
    go_enter Tryz.func68, Tryz.ntmps68
    go_wp2_with fail
    have hq := parts_new (w := w) (S := fun k => k < w.heap.size) (T' := fun x => x < (w.alloc (.cells #[.slice A n c] 22)).heap.size) 22 [(⟨A, n, c, key⟩ : Part)]
      (by
        intro p hp
        simp only [List.mem_cons, List.not_mem_nil, or_false] at hp
        subst hp
        exact ⟨HKL.out, HNC.out.1, HNC.out.2, HR.out.s (fun _ h => h)⟩) (fun _ h => h) (by simp) (fun x hx => by simp; omega)
    refine (shasum_any _ 1 1 [(⟨A, n, c, key⟩ : Part)] _ hq rfl (by omega) (by simp [bytesOf]; have := HKL.out; have := HN.out; omega)).mono ?_
    rw [show bytesOf [(⟨A, n, c, key⟩ : Part)] = key by simp [bytesOf]]
    rintro e w1 ⟨v1, rfl, hO1, hb1⟩
    have hb1w : Below w.heap.size w w1 := ((Below.refl _ _).alloc (Nat.le_refl _) _).trans (hb1.mono (by simp))
    obtain ⟨A1, c1, rfl, hr1, _⟩ := hO1.form
    rw [sha_len] at hO1 ⊢
    have hne1 : ∀ a, A1 = some a → a.block ≠ g := fun a e => by subst e; have := (hO1.lt a.block rfl).1; simp at this; omega
    have HX := Lib.hid (show Rd w1 w1.heap.size A1 (kk key) by rw [HK1.out]; exact hr1)
    have HL := Lib.hid (show (kk key).length = 32 by rw [HK1.out]; exact sha_len _)
    have HGX := Lib.hid (show RowV w1 137 g (mo (.slice A n c) d st Z64 Z64) from HG.out.below hb1w hgl)
    have HNE := Lib.hid hne1
    have HF := Lib.hid (Frame.of_below hb1w (S := But w g) (fun k hk => hk.1))
    have hz1 := hb1w.size
    clear hq hO1 hb1 hb1w hr1 hne1 hraw d1
    go_wp2_with (first
      | (with_reducible refine at_slot 19 ?_
         refine wpList_copy_rd Go.Proofs.YtkgnnlglabihkaaGreatDoor.u8 rfl (.tmp 17) (.tmp 18) rfl g 4 64 64 A1 32 c1 137 (mo (.slice A n c) d st Z64 Z64) (kk key) _ rfl rfl HGX.out HX.out HL.out (by have := kk_len key; have := HL.out; omega) (by rw [mo_len rfl rfl]; have := kk_len key; have := HL.out; omega) ?_
         intro w5 h5 hg5
         rw [mo_cpx (kk_len key)] at h5
         have HG5 := Lib.hid h5
         have HF5 := Lib.hid (Frame.of_grown (S := But w1 g) hg5 (fun k hk => ⟨hk.1, fun e => by injection e with e; exact hk.2 e⟩))
         have HX5 := Lib.hid (show Rd w5 w5.heap.size A1 (kk key) from fun h0 => by
           obtain ⟨ad, e, hb, hc⟩ := HX.out h0
           refine ⟨ad, e, Nat.lt_of_lt_of_le hb HF5.out.size, fun j hj => (World.cell?_of_block ?_).trans (hc j hj)⟩
           rw [add_block]; exact HF5.out.block _ ⟨hb, HNE.out _ e⟩)
         clear h5 hg5)
      | (with_reducible refine at_slot 25 ?_
         refine wpList_copy_rd Go.Proofs.YtkgnnlglabihkaaGreatDoor.u8 rfl (.tmp 23) (.tmp 24) rfl g 68 64 64 A1 32 c1 137 (mo (.slice A n c) d st (pad0 (kk key)) Z64) (kk key) _ rfl rfl HG5.out HX5.out HL.out (by have := kk_len key; have := HL.out; omega) (by rw [mo_len (pad0_length (kk_len key)) rfl]; have := kk_len key; have := HL.out; omega) ?_
         intro w6 h6 hg6
         rw [mo_cpy (pad0_length (kk_len key)) (kk_len key)] at h6
         have HG6 := Lib.hid (show RowV w6 137 g (mo (.slice A n c) d st (xkU 54 (padK key) 0) (xkU 92 (padK key) 0)) by rw [xkU_zero, xkU_zero]; exact h6)
         have HF6 := Lib.hid (Frame.trans HF.out (Frame.trans HF5.out (Frame.of_grown (S := But w5 g) hg6 (fun k hk => ⟨hk.1, fun e => by injection e with e; exact hk.2 e⟩)) (fun k hk => ⟨Nat.lt_of_lt_of_le hk.1 HF5.out.size, hk.2⟩)) (fun k hk => ⟨Nat.lt_of_lt_of_le hk.1 HF.out.size, hk.2⟩))
         clear h6 hg6))
    obtain ⟨K, hK⟩ : ∃ K, padK key = K := ⟨_, rfl⟩
    have HKE := Lib.hid hK
    have HKK := Lib.hid (show K.length = 64 by rw [← hK]; exact padK_length key)
    have HGK := HG6.out
    rw [hK] at HGK
    have HG7 := Lib.hid HGK
    clear HGK hK HG6
    go_loopw [26] (fun i wr => ∃ t : Nat, t ≤ 64 ∧ i = .int .i64 (t : Int) ∧ RowV wr 137 g (mo (.slice A n c) d st (xkU 54 K t) (xkU 92 K t)) ∧ Frame (But w g) w wr) (fun i _ => 64 - (intOf i).toNat)
    case atStart => exact ⟨0, by omega, rfl, HG7.out, HF6.out⟩
    case round =>
      obtain ⟨t, ht, rfl, hgr, hfr⟩ := hrel
      have HGR := Lib.hid hgr
      have HFR := Lib.hid hfr
      clear hgr hfr
      by_cases hlt : t < 64
      · have hlx := xkU_length 54 K t (by rw [HKK.out]; exact ht)
        have hly := xkU_length 92 K t (by rw [HKK.out]; exact ht)
        rw [HKK.out] at hlx hly
        have htK : t < K.length := by rw [HKK.out]; exact hlt
        have q1 := xkU_at 54 K htK
        have q2 := xkU_set 54 K htK
        have q3 := xkU_at 92 K htK
        have q4 := xkU_set 92 K htK
        generalize K[t] = b at q1 q2 q3 q4
        have hlx1 := xkU_length 54 K (t + 1) (by rw [HKK.out]; omega)
        rw [HKK.out] at hlx1
        have c0 := HGR.out.cell (mo_x hlx q1)
        have h1 := RowV.set (w := wr.drew) HGR.out (4 + t) (bv (b ^^^ 54))
        rw [mo_setx hlx hlt, q2] at h1
        have f0 := HGR.out.frozen (4 + t)
        have c1 := h1.cell (mo_y hlx1 q3)
        have f1 := HGR.out.frozen (68 + t)
        have h2 := RowV.set (w := (wr.drew.setCell ⟨g, 4 + t, none⟩ (bv (b ^^^ 54))).drew) h1 (68 + t) (bv (b ^^^ 92))
        rw [mo_sety hlx1, q4] at h2
        have x54 : bits BinOp.xor IntKind.u8 ((b.toNat : Nat) : Int) 54 = (((b ^^^ 54).toNat : Nat) : Int) := Aes.u8x b 54
        have x92 : bits BinOp.xor IntKind.u8 ((b.toNat : Nat) : Int) 92 = (((b ^^^ 92).toNat : Nat) : Int) := Aes.u8x b 92
        have hfr2 : Frame (But w g) w ((wr.drew.setCell ⟨g, 4 + t, none⟩ (bv (b ^^^ 54))).drew.setCell ⟨g, 68 + t, none⟩ (bv (b ^^^ 92))) := Frame.setCell (Frame.drew (Frame.setCell (Frame.drew HFR.out) (fun hk => hk.2 rfl) _)) (fun hk => hk.2 rfl) _
        rw [Aes.bv_int] at c0
        rw [Aes.bv_int, Aes.bv_int] at c1 h2 hfr2
        generalize (b ^^^ 54).toNat = z1 at *
        generalize (b ^^^ 92).toNat = z2 at *
        generalize b.toNat = z0 at *
        have H2 := Lib.hid h2
        have HF2 := Lib.hid hfr2
        have X92 := Lib.hid x92
        have C1 := Lib.hid (show (wr.setCell ⟨g, 4 + t, none⟩ (.int .u8 (z1 : Int))).cell? ⟨g, 68 + t, none⟩ = some (.int .u8 (z0 : Int)) from c1)
        have F1 := Lib.hid f1
        have t64 : (t : Int) < 64 := by omega
        clear q1 q2 q3 q4 h1 h2 hfr2 x92 c1 f1 hlx hly hlx1 htK
        go_wp2_with fail
        refine wp_region_still_tail 10 (by kernel_rfl) (by kernel_rfl) ?_
        change wpStill _ _ (World.drew wr) (fun a' => wpList _ _ _ _ a' (World.drew wr)) _ _
        simp only [List.take_succ_cons, List.take_zero, List.drop_succ_cons, List.drop_zero]
        repeat still_step
        refine wpStill_nil ?_
        have c1 := C1.out
        have f1 := F1.out
        have x92 := X92.out
        go_wp2_with fail
        refine wp_region_still_tail 10 (by kernel_rfl) (by kernel_rfl) ?_
        change wpStill _ _ (World.drew (World.drew (wr.setCell ⟨g, 4 + t, none⟩ (.int .u8 (z1 : Int))))) (fun a' => wpList _ _ _ _ a' (World.drew (World.drew (wr.setCell ⟨g, 4 + t, none⟩ (.int .u8 (z1 : Int)))))) _ _
        simp only [List.take_succ_cons, List.take_zero, List.drop_succ_cons, List.drop_zero]
        repeat still_step
        refine wpStill_nil ?_
        go_wp2_with fail
        go_roundw
        case rel => exact ⟨t + 1, by omega, by go_num, H2.out, HF2.out⟩
        case measure => simp [intOf] <;> omega
      · have e64 : t = 64 := by omega
        subst e64
        have hgf := HGR.out
        rw [xkU_all 54 HKK.out, xkU_all 92 HKK.out, ← HKE.out] at hgf
        have HGF := Lib.hid hgf
        clear hgf
        go_wp2_with fail
        go_end0
        exact ⟨rfl, HGF.out, HFR.out⟩
  · have hk1 : kk key = key := if_neg (by rw [HKL.out]; exact hlong)
    have d1 : decide ((64 : Int) < (n : Int)) = false := decide_eq_false (by omega)
    have HX := Lib.hid (show Rd w w.heap.size A (kk key) by rw [hk1]; exact HR.out)
    have HL := Lib.hid (show (kk key).length = n by rw [hk1]; exact HKL.out)
    have HGX := HG
    have HNE := HA
    have HF := Lib.hid (Frame.refl (But w g) w)
    clear hk1 hlong
    go_enter Tryz.func68, Tryz.ntmps68
    go_wp2_with (first
      | (with_reducible refine at_slot 19 ?_
         refine wpList_copy_rd Go.Proofs.YtkgnnlglabihkaaGreatDoor.u8 rfl (.tmp 17) (.tmp 18) rfl g 4 64 64 A n c 137 (mo (.slice A n c) d st Z64 Z64) (kk key) _ rfl rfl HGX.out HX.out HL.out (by have := kk_len key; have := HL.out; omega) (by rw [mo_len rfl rfl]; have := kk_len key; have := HL.out; omega) ?_
         intro w5 h5 hg5
         rw [mo_cpx (kk_len key)] at h5
         have HG5 := Lib.hid h5
         have HF5 := Lib.hid (Frame.of_grown (S := But w g) hg5 (fun k hk => ⟨hk.1, fun e => by injection e with e; exact hk.2 e⟩))
         have HX5 := Lib.hid (show Rd w5 w5.heap.size A (kk key) from fun h0 => by
           obtain ⟨ad, e, hb, hc⟩ := HX.out h0
           refine ⟨ad, e, Nat.lt_of_lt_of_le hb HF5.out.size, fun j hj => (World.cell?_of_block ?_).trans (hc j hj)⟩
           rw [add_block]; exact HF5.out.block _ ⟨hb, HNE.out _ e⟩)
         clear h5 hg5)
      | (with_reducible refine at_slot 25 ?_
         refine wpList_copy_rd Go.Proofs.YtkgnnlglabihkaaGreatDoor.u8 rfl (.tmp 23) (.tmp 24) rfl g 68 64 64 A n c 137 (mo (.slice A n c) d st (pad0 (kk key)) Z64) (kk key) _ rfl rfl HG5.out HX5.out HL.out (by have := kk_len key; have := HL.out; omega) (by rw [mo_len (pad0_length (kk_len key)) rfl]; have := kk_len key; have := HL.out; omega) ?_
         intro w6 h6 hg6
         rw [mo_cpy (pad0_length (kk_len key)) (kk_len key)] at h6
         have HG6 := Lib.hid (show RowV w6 137 g (mo (.slice A n c) d st (xkU 54 (padK key) 0) (xkU 92 (padK key) 0)) by rw [xkU_zero, xkU_zero]; exact h6)
         have HF6 := Lib.hid (Frame.trans HF.out (Frame.trans HF5.out (Frame.of_grown (S := But w5 g) hg6 (fun k hk => ⟨hk.1, fun e => by injection e with e; exact hk.2 e⟩)) (fun k hk => ⟨Nat.lt_of_lt_of_le hk.1 HF5.out.size, hk.2⟩)) (fun k hk => ⟨Nat.lt_of_lt_of_le hk.1 HF.out.size, hk.2⟩))
         clear h6 hg6))
    obtain ⟨K, hK⟩ : ∃ K, padK key = K := ⟨_, rfl⟩
    have HKE := Lib.hid hK
    have HKK := Lib.hid (show K.length = 64 by rw [← hK]; exact padK_length key)
    have HGK := HG6.out
    rw [hK] at HGK
    have HG7 := Lib.hid HGK
    clear HGK hK HG6
    go_loopw [26] (fun i wr => ∃ t : Nat, t ≤ 64 ∧ i = .int .i64 (t : Int) ∧ RowV wr 137 g (mo (.slice A n c) d st (xkU 54 K t) (xkU 92 K t)) ∧ Frame (But w g) w wr) (fun i _ => 64 - (intOf i).toNat)
    case atStart => exact ⟨0, by omega, rfl, HG7.out, HF6.out⟩
    case round =>
      obtain ⟨t, ht, rfl, hgr, hfr⟩ := hrel
      have HGR := Lib.hid hgr
      have HFR := Lib.hid hfr
      clear hgr hfr
      by_cases hlt : t < 64
      · have hlx := xkU_length 54 K t (by rw [HKK.out]; exact ht)
        have hly := xkU_length 92 K t (by rw [HKK.out]; exact ht)
        rw [HKK.out] at hlx hly
        have htK : t < K.length := by rw [HKK.out]; exact hlt
        have q1 := xkU_at 54 K htK
        have q2 := xkU_set 54 K htK
        have q3 := xkU_at 92 K htK
        have q4 := xkU_set 92 K htK
        generalize K[t] = b at q1 q2 q3 q4
        have hlx1 := xkU_length 54 K (t + 1) (by rw [HKK.out]; omega)
        rw [HKK.out] at hlx1
        have c0 := HGR.out.cell (mo_x hlx q1)
        have h1 := RowV.set (w := wr.drew) HGR.out (4 + t) (bv (b ^^^ 54))
        rw [mo_setx hlx hlt, q2] at h1
        have f0 := HGR.out.frozen (4 + t)
        have c1 := h1.cell (mo_y hlx1 q3)
        have f1 := HGR.out.frozen (68 + t)
        have h2 := RowV.set (w := (wr.drew.setCell ⟨g, 4 + t, none⟩ (bv (b ^^^ 54))).drew) h1 (68 + t) (bv (b ^^^ 92))
        rw [mo_sety hlx1, q4] at h2
        have x54 : bits BinOp.xor IntKind.u8 ((b.toNat : Nat) : Int) 54 = (((b ^^^ 54).toNat : Nat) : Int) := Aes.u8x b 54
        have x92 : bits BinOp.xor IntKind.u8 ((b.toNat : Nat) : Int) 92 = (((b ^^^ 92).toNat : Nat) : Int) := Aes.u8x b 92
        have hfr2 : Frame (But w g) w ((wr.drew.setCell ⟨g, 4 + t, none⟩ (bv (b ^^^ 54))).drew.setCell ⟨g, 68 + t, none⟩ (bv (b ^^^ 92))) := Frame.setCell (Frame.drew (Frame.setCell (Frame.drew HFR.out) (fun hk => hk.2 rfl) _)) (fun hk => hk.2 rfl) _
        rw [Aes.bv_int] at c0
        rw [Aes.bv_int, Aes.bv_int] at c1 h2 hfr2
        generalize (b ^^^ 54).toNat = z1 at *
        generalize (b ^^^ 92).toNat = z2 at *
        generalize b.toNat = z0 at *
        have H2 := Lib.hid h2
        have HF2 := Lib.hid hfr2
        have X92 := Lib.hid x92
        have C1 := Lib.hid (show (wr.setCell ⟨g, 4 + t, none⟩ (.int .u8 (z1 : Int))).cell? ⟨g, 68 + t, none⟩ = some (.int .u8 (z0 : Int)) from c1)
        have F1 := Lib.hid f1
        have t64 : (t : Int) < 64 := by omega
        clear q1 q2 q3 q4 h1 h2 hfr2 x92 c1 f1 hlx hly hlx1 htK
        go_wp2_with fail
        refine wp_region_still_tail 10 (by kernel_rfl) (by kernel_rfl) ?_
        change wpStill _ _ (World.drew wr) (fun a' => wpList _ _ _ _ a' (World.drew wr)) _ _
        simp only [List.take_succ_cons, List.take_zero, List.drop_succ_cons, List.drop_zero]
        repeat still_step
        refine wpStill_nil ?_
        have c1 := C1.out
        have f1 := F1.out
        have x92 := X92.out
        go_wp2_with fail
        refine wp_region_still_tail 10 (by kernel_rfl) (by kernel_rfl) ?_
        change wpStill _ _ (World.drew (World.drew (wr.setCell ⟨g, 4 + t, none⟩ (.int .u8 (z1 : Int))))) (fun a' => wpList _ _ _ _ a' (World.drew (World.drew (wr.setCell ⟨g, 4 + t, none⟩ (.int .u8 (z1 : Int)))))) _ _
        simp only [List.take_succ_cons, List.take_zero, List.drop_succ_cons, List.drop_zero]
        repeat still_step
        refine wpStill_nil ?_
        go_wp2_with fail
        go_roundw
        case rel => exact ⟨t + 1, by omega, by go_num, H2.out, HF2.out⟩
        case measure => simp [intOf] <;> omega
      · have e64 : t = 64 := by omega
        subst e64
        have hgf := HGR.out
        rw [xkU_all 54 HKK.out, xkU_all 92 HKK.out, ← HKE.out] at hgf
        have HGF := Lib.hid hgf
        clear hgf
        go_wp2_with fail
        go_end0
        exact ⟨rfl, HGF.out, HFR.out⟩
end Go.Proofs.YtkgnnlglabihkaaGreatDoor.Mac
