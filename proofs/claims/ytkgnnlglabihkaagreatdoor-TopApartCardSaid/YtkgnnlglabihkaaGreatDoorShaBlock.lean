/- One block of a digest: what the program's function makes of the state. -/
import Derived.Test.YtkgnnlglabihkaaGreatDoorShaRight
import Derived.Test.YtkgnnlglabihkaaGreatDoorMemAll
import Derived.Deep.MidRow
import Derived.RegionTactic
import Derived.BigRegion
import Derived.ChangeAlike
import Derived.StillTailTactics
namespace Go.Proofs.YtkgnnlglabihkaaGreatDoor.Sha
open Go Go.ChangeShapes Go.WideShapes Go.ChangeAt Go.RowKit
set_option linter.unusedVariables false
set_option linter.unusedSimpArgs false

def u32s (l : List Nat) : List Value := l.map fun n => .int .u32 ((n : Nat) : Int)
theorem u32s_length (l : List Nat) : (u32s l).length = l.length := by simp [u32s]
theorem u32s_get {l : List Nat} {i : Nat} (h : i < l.length) : (u32s l)[i]? = some (.int .u32 ((l.getD i 0 : Nat) : Int)) := by simp [u32s, List.getD, h]
/-- a block known whole -/
def RowV (w : World) (T : TypeId) (g : Nat) (xs : List Value) : Prop := w.heap[g]? = some (.cells xs.toArray T (0, 0))
section
variable {w w' : World} {T : TypeId} {g : Nat} {xs : List Value}
theorem RowV.lt (h : RowV w T g xs) : g < w.heap.size := (Array.getElem?_eq_some_iff.1 h).1
theorem RowV.cell (h : RowV w T g xs) {i : Nat} {v : Value} (hi : xs[i]? = some v) : w.cell? ⟨g, i, none⟩ = some v := by rw [cell_of_row w g i _ T (0, 0) h]; simpa using hi
theorem RowV.frozen (h : RowV w T g xs) (i : Nat) : w.frozen? ⟨g, i, none⟩ = false := frozen_of_row w g i _ T h
theorem RowV.below {B : Nat} (h : RowV w T g xs) (hb : Below B w w') (hg : g < B) : RowV w' T g xs := (hb.block g hg).trans h
theorem RowV.alloc (h : RowV w T g xs) (o : Obj) : RowV (w.alloc o) T g xs := (heap_alloc_old w o h.lt).trans h
theorem RowV.drew (h : RowV w T g xs) : RowV w.drew T g xs := h
theorem RowV.drewN (h : RowV w T g xs) (n : Nat) : RowV (w.drewN n) T g xs := h
theorem RowV.far (h : RowV w T g xs) {p : Addr} (hp : g ≠ p.block) (u : Value) : RowV (w.setCell p u) T g xs := (heap_setCell_other w p g u hp).trans h
theorem RowV.set (h : RowV w T g xs) (i : Nat) (u : Value) : RowV (w.setCell ⟨g, i, none⟩ u) T g (xs.set i u) := by
  have := heap_setCell_same w g i _ T u h
  unfold RowV; rw [this]; simp
theorem RowV.grown {row : Option Nat} (h : RowV w T g xs) (hg : w.grownBy w' row) (hne : row ≠ some g) : RowV w' T g xs := (hg.block g h.lt (Ne.symm hne)).trans h
end
theorem getD_l {α : Type} (a b : List α) (d : α) {i : Nat} (h : i < a.length) : (a ++ b).getD i d = a.getD i d := by
  rw [List.getD_eq_getElem?_getD, List.getD_eq_getElem?_getD, List.getElem?_append_left h]
theorem getD_end {α : Type} (a : List α) (x d : α) {i : Nat} (h : a.length = i) : (a ++ [x]).getD i d = x := by
  rw [List.getD_eq_getElem?_getD, List.getElem?_append_right (by omega), h, Nat.sub_self]; rfl
theorem sched_at (b : List UInt8) (t i : Nat) (h : i < t) : ∀ n, t ≤ n → (sched b n).getD i 0 = (sched b t).getD i 0 := by
  intro n hn
  induction n with
  | zero => omega
  | succ n ih =>
    by_cases e : t = n + 1
    · rw [e]
    · rw [sched, getD_l _ _ _ (by rw [sched_length]; omega), ih (by omega)]
/-- the block of words when t of them are made -/
def made (b : List UInt8) (t : Nat) : List Nat := sched b t ++ List.replicate (64 - t) 0
theorem made_length (b : List UInt8) (t : Nat) (h : t ≤ 64) : (made b t).length = 64 := by simp [made, sched_length]; omega
theorem made_get (b : List UInt8) (t i : Nat) (h : i < t) (ht : t ≤ 64) : (u32s (made b t))[i]? = some (.int .u32 (((sched b t).getD i 0 : Nat) : Int)) := by
  rw [u32s_get (by rw [made_length b t ht]; omega), made, getD_l _ _ _ (by rw [sched_length]; exact h)]
theorem made_step (b : List UInt8) (t : Nat) (h : t < 64) : (u32s (made b t)).set t (.int .u32 (((sched b (t+1)).getD t 0 : Nat) : Int)) = u32s (made b (t+1)) := by
  unfold u32s
  rw [← List.map_set]
  congr 1
  apply List.ext_getElem
  · rw [List.length_set, made_length b t (by omega), made_length b (t+1) (by omega)]
  · intro i h1 h2
    rw [List.length_set, made_length b t (by omega)] at h1
    have e : ∀ n, n ≤ 64 → ∀ (hi : i < (made b n).length), (made b n)[i] = if i < n then (sched b n).getD i 0 else 0 := by
      intro n hn hi
      unfold made at hi ⊢
      rw [List.getElem_append]
      by_cases hin : i < n
      · rw [dif_pos (by rw [sched_length]; exact hin), if_pos hin]
        rw [List.getD_eq_getElem?_getD, List.getElem?_eq_getElem (by rw [sched_length]; exact hin)]; rfl
      · rw [dif_neg (by rw [sched_length]; exact hin), if_neg hin]; simp
    rw [List.getElem_set]
    by_cases hti : t = i
    · subst hti
      rw [if_pos rfl, e (t+1) (by omega), if_pos (by omega)]
    · rw [if_neg hti, e t (by omega), e (t+1) (by omega)]
      by_cases hit : i < t
      · rw [if_pos hit, if_pos (by omega), sched_at b t i hit (t+1) (by omega)]
      · rw [if_neg hit, if_neg (by omega)]
theorem sched_low (b : List UInt8) (t : Nat) (h : t < 16) : (sched b (t+1)).getD t 0 = word b t := by
  rw [sched, getD_end _ _ _ (sched_length b t), if_pos h]
theorem sched_high (b : List UInt8) (t : Nat) (h : 16 ≤ t) : (sched b (t+1)).getD t 0 = wnext (sched b t) t := by
  rw [sched, getD_end _ _ _ (sched_length b t), if_neg (by omega)]
theorem word_drop (b : List UInt8) (t : Nat) : word (b.drop (4*t)) 0 = word b t := by
  unfold word
  simp [List.getD, List.getElem?_drop]

theorem x_facts (e f g : Nat) (he : e < 4294967296) (hf : f < 4294967296) (hg : g < 4294967296) : ∃ r6 r11 r25 n1 E p1 p2 C : Nat, rotr e 6 = r6 ∧ rotr e 11 = r11 ∧ rotr e 25 = r25 ∧
    bits BinOp.xor IntKind.u32 (r6 : Int) (r11 : Int) = (n1 : Int) ∧ bits BinOp.xor IntKind.u32 (n1 : Int) (r25 : Int) = (E : Int) ∧ bits BinOp.xor IntKind.u32 (f : Int) (g : Int) = (p1 : Int) ∧
    bits BinOp.and IntKind.u32 (e : Int) (p1 : Int) = (p2 : Int) ∧ bits BinOp.xor IntKind.u32 (g : Int) (p2 : Int) = (C : Int) ∧ be e = E ∧ ch e f g = C ∧ E < 4294967296 ∧ C < 4294967296 := by
  have h6 := rotr_lt e 6 he; have h11 := rotr_lt e 11 he; have h25 := rotr_lt e 25 he
  have hfg := xor_lt hf hg
  exact ⟨_, _, _, _, _, _, _, _, rfl, rfl, rfl, u32_xor_nat _ _ h6 h11, u32_xor_nat _ _ (xor_lt h6 h11) h25, u32_xor_nat _ _ hf hg, u32_and_nat _ _ he hfg, u32_xor_nat _ _ hg (and_lt he), rfl, rfl, be_lt e he, ch_lt e f g he hg⟩
theorem y_facts (a b c : Nat) (ha : a < 4294967296) (hb : b < 4294967296) (hc : c < 4294967296) : ∃ r2 r13 r22 n1 A p1 p2 p3 p4 M : Nat, rotr a 2 = r2 ∧ rotr a 13 = r13 ∧ rotr a 22 = r22 ∧
    bits BinOp.xor IntKind.u32 (r2 : Int) (r13 : Int) = (n1 : Int) ∧ bits BinOp.xor IntKind.u32 (n1 : Int) (r22 : Int) = (A : Int) ∧ bits BinOp.and IntKind.u32 (a : Int) (b : Int) = (p1 : Int) ∧
    bits BinOp.and IntKind.u32 (a : Int) (c : Int) = (p2 : Int) ∧ bits BinOp.xor IntKind.u32 (p1 : Int) (p2 : Int) = (p3 : Int) ∧ bits BinOp.and IntKind.u32 (b : Int) (c : Int) = (p4 : Int) ∧ bits BinOp.xor IntKind.u32 (p3 : Int) (p4 : Int) = (M : Int) ∧
    ba a = A ∧ maj a b c = M ∧ A < 4294967296 ∧ M < 4294967296 := by
  have h2 := rotr_lt a 2 ha; have h13 := rotr_lt a 13 ha; have h22 := rotr_lt a 22 ha
  exact ⟨_, _, _, _, _, _, _, _, _, _, rfl, rfl, rfl, u32_xor_nat _ _ h2 h13, u32_xor_nat _ _ (xor_lt h2 h13) h22, u32_and_nat _ _ ha hb, u32_and_nat _ _ ha hc, u32_xor_nat _ _ (and_lt ha) (and_lt ha), u32_and_nat _ _ hb hc, u32_xor_nat _ _ (xor_lt (and_lt ha) (and_lt ha)) (and_lt hb), rfl, rfl, ba_lt a ha, maj_lt a b c ha hb⟩
/-- 'copy(d, s)', both rows known, one block or two -/
theorem wpList_copy_v {P : Program} {t e : TypeId} {z : Value} {bytes : Nat} (hE : El P t e z bytes) {w : World} {ops : Array Oper} {rest : List Oper} {o : Oper} {a : Act} {Q : Exit → Act → World → Prop}
    (hgd : Region.wanted o (yielded ops a.tmps) = true) (d s : Operand) (ho : o.op = .call { callee := .builtin .copy, args := #[d, s], argTypes := #[t, t] })
    (g off n m : Nat) (ad : Addr) (k c : Nat) (T : TypeId) (cur news : List Value) (hd : a.eval d = .slice (some ⟨g, off, none⟩) n m) (hs : a.eval s = .slice (some ad) k c)
    (hrow : RowV w T g cur) (hk : news.length = min k n) (hsrc : ∀ j u, news[j]? = some u → w.cell? (ad.add j) = some u) (hfit : off + news.length ≤ cur.length) (h1 : ∀ u ∈ news, u.oneCell' = true)
    (h : ∀ w', RowV w' T g (cur.take off ++ news ++ cur.drop (off + news.length)) → w.grownBy w' (some g) → wpList P ops Q rest (a.put o.dst (goInt ((news.length : Nat) : Int))) w') : wpList P ops Q (o :: rest) a w := by
  have hsz : (P.info? e).map (·.size) = some 1 := by
    obtain ⟨i, hi, _, hz1, _⟩ := info_parts hE.info
    rw [hi]; simp [hz1]
  refine wpList_wanted hgd fun K hK => ?_
  have hrun := run_copy_row (P := P) w t t o.type e g off n m ad k c cur.toArray T news hE.slice hsz hrow hk hsrc (by simpa using hfit) h1
  unfold Oper.wp
  simp only [execOp, ho, resolve, invoke, builtin, Sem.run_bind, Sem.run_pure, Result.andThen_ok, List.map_toArray, List.map_cons, List.map_nil, hd, hs, hrun]
  refine hK _ _ (h _ ?_ ⟨rfl, rfl, rfl, by simp, fun j _ hne => setRow_other w g j _ (fun hj => hne (congrArg some hj))⟩)
  unfold RowV
  rw [setRow_heap _ g _ _ T (0, 0) hrow]
theorem sum5 (a b c d e : Nat) : ((((a : Int) + (b : Int) + (c : Int) + (d : Int)) % 4294967296 + (e : Int)) % 4294967296) = (((a + b + c + d + e) % 4294967296 : Nat) : Int) := by omega
theorem sum2 (a b : Nat) : (((a : Int) + (b : Int)) % 4294967296) = (((a + b) % 4294967296 : Nat) : Int) := by omega
theorem rnd_is (a b c d e f g h k w X Y E C A M : Nat) (hE : be e = E) (hC : ch e f g = C) (hA : ba a = A) (hM : maj a b c = M) (hX : X = (h + E + C + k + w) % 4294967296) (hY : Y = (A + M) % 4294967296) :
    rnd [a, b, c, d, e, f, g, h] k w = [(X + Y) % 4294967296, a, b, c, (d + X) % 4294967296, e, f, g] := by
  subst hE hC hA hM hX hY
  simp only [rnd]
  congr 1
  · omega
  · congr 4
    omega
theorem el32 : El Tryz.prog 189 55 (.int .u32 0) 4 := ⟨Tryz.underlying189, by kernel_rfl, rfl⟩
theorem add8_get {a b : List Nat} (ha : a.length = 8) (hb : b.length = 8) (i : Nat) (hi : i < 8) : (add8 a b).getD i 0 = (a.getD i 0 + b.getD i 0) % 4294967296 := by
  unfold add8
  rw [List.getD_eq_getElem?_getD, List.getElem?_zipWith, List.getD_eq_getElem?_getD, List.getD_eq_getElem?_getD, List.getElem?_eq_getElem (by omega : i < a.length), List.getElem?_eq_getElem (by omega : i < b.length)]
  rfl
/-- the state when t of its words are added -/
def added (a b : List Nat) (t : Nat) : List Nat := (add8 a b).take t ++ a.drop t
theorem added_length {a b : List Nat} (ha : a.length = 8) (hb : b.length = 8) (t : Nat) (ht : t ≤ 8) : (added a b t).length = 8 := by
  simp [added, add8, ha, hb]; omega
theorem added_get {a b : List Nat} (ha : a.length = 8) (hb : b.length = 8) (t i : Nat) (ht : t ≤ 8) (hi : i < 8) : (added a b t).getD i 0 = if i < t then (a.getD i 0 + b.getD i 0) % 4294967296 else a.getD i 0 := by
  have hl : (add8 a b).length = 8 := by simp [add8, ha, hb]
  have htl : ((add8 a b).take t).length = t := by simp [hl]; omega
  unfold added
  by_cases h : i < t
  · rw [if_pos h, getD_l _ _ _ (by omega), ← add8_get ha hb i hi]
    rw [List.getD_eq_getElem?_getD, List.getD_eq_getElem?_getD, List.getElem?_take, if_pos h]
  · rw [if_neg h, List.getD_eq_getElem?_getD, List.getElem?_append_right (by omega), htl, List.getElem?_drop, show t + (i - t) = i by omega, List.getD_eq_getElem?_getD]
theorem added_step {a b : List Nat} (ha : a.length = 8) (hb : b.length = 8) (t : Nat) (ht : t < 8) (more : List Value) :
    (u32s (added a b t) ++ more).set t (.int .u32 (((a.getD t 0 + b.getD t 0) % 4294967296 : Nat) : Int)) = u32s (added a b (t+1)) ++ more := by
  have h1 := added_length ha hb t (by omega)
  have h2 := added_length ha hb (t+1) (by omega)
  rw [List.set_append_left _ _ (by rw [u32s_length, h1]; exact ht)]
  congr 1
  apply List.ext_getElem?
  intro i
  by_cases hi : i < 8
  · rw [List.getElem?_set, u32s_get (by omega), u32s_get (by omega), added_get ha hb (t+1) i (by omega) hi, added_get ha hb t i (by omega) hi]
    by_cases e : t = i
    · subst e
      rw [if_pos rfl, if_pos (by rw [u32s_length, h1]; exact ht), if_pos (by omega)]
    · rw [if_neg e]
      by_cases h : i < t
      · rw [if_pos h, if_pos (by omega)]
      · rw [if_neg h, if_neg (by omega)]
  · rw [List.getElem?_eq_none (by rw [List.length_set, u32s_length, h1]; omega), List.getElem?_eq_none (by rw [u32s_length, h2]; omega)]
theorem added_zero (a b : List Nat) : added a b 0 = a := by simp [added]
theorem added_all {a b : List Nat} (ha : a.length = 8) (hb : b.length = 8) : added a b 8 = add8 a b := by
  unfold added
  rw [List.take_of_length_le (by simp [add8, ha, hb]), List.drop_eq_nil_of_le (by omega), List.append_nil]
theorem added_cell {a b : List Nat} (ha : a.length = 8) (hb : b.length = 8) (t : Nat) (ht : t < 8) (more : List Value) : (u32s (added a b t) ++ more)[t]? = some (.int .u32 ((a.getD t 0 : Nat) : Int)) := by
  have h1 := added_length ha hb t (by omega)
  rw [List.getElem?_append_left (by rw [u32s_length, h1]; exact ht), u32s_get (by omega), added_get ha hb t t (by omega) ht, if_neg (by omega)]
theorem still_of {P : Program} {f : FuncId} {args : Array Value} {w : World} {v u : Value} (h : Calls P f args w fun e w' => e = .returned v ∧ w = w') (e : v = u) : Calls P f args w fun e w' => e = .returned u ∧ w' = w :=
  h.mono fun _ _ h => ⟨by rw [← e]; exact h.1, h.2.symm⟩
set_option maxRecDepth 100000 in
set_option maxHeartbeats 4000000 in
theorem block_any (g kb : Nat) (T : TypeId) (hv : List Nat) (more : List Value) (A : Option Addr) (n c : Nat) (l : List UInt8) (w : World) (B : Nat) (h8 : Eight hv) (hg : RowV w T g (u32s hv ++ more)) (hk : RowV w 157 kb (u32s kw)) (hne : kb ≠ g)
    (hB : B ≤ w.heap.size) (hr : Rd w B A l) (hn : l.length = n) (h64 : 64 ≤ n) (hnc : n ≤ c) (hc : c ≤ 9223372036854775807) :
    Calls Tryz.prog 87 #[.pointer (some ⟨g, 0, none⟩), .pointer (some ⟨kb, 0, none⟩), .slice A n c] w fun e w' => e = .returned (.tuple #[]) ∧ RowV w' T g (u32s (comp hv l) ++ more) ∧ w.grownBy w' (some g) := by
  subst hn
  obtain ⟨ad, rfl, hadB, hcl⟩ := hr (by omega)
  go_enter Tryz.func87, Tryz.ntmps87
  go_wp2
  go_loopw [17] (fun i wr => ∃ t : Nat, t ≤ 64 ∧ i = .int .i64 t ∧ RowV wr 157 w.heap.size (u32s (made l t)) ∧ Below w.heap.size w wr) (fun i _ => 64 - (intOf i).toNat)
  case atStart => exact ⟨0, by omega, rfl, heap_alloc_new w _, (Below.refl _ _).alloc (Nat.le_refl _) _⟩
  case round =>
    obtain ⟨t, ht, rfl, hW, hb⟩ := hrel
    by_cases hlt : t < 64
    · by_cases h16 : t < 16
      · have k0 : (4 : Int) * (t : Int) ≤ (l.length : Int) := by omega
        have k1 : (l.length : Int) ≤ (c : Int) := by omega
        have k2 : (0 : Int) ≤ 4 * (t : Int) := by omega
        have k3 : ((4 : Int) * (t : Int)).toNat = 4 * t := by omega
        have k4 : (c = 4 * t) = False := by simp; omega
        have hfz := hW.frozen t
        have hset := hW.set t (.int .u32 ((word l t : Nat) : Int))
        rw [← sched_low l t h16, made_step l t hlt, sched_low l t h16] at hset
        have hcell := hW.cell (i := t) (u32s_get (by rw [made_length l t ht]; exact hlt))
        have hrd := (hr.drop (4*t) (cap := c) (by omega)).below (hb.mono hB)
        rw [if_neg (by omega)] at hrd
        have hdl : (l.drop (4*t)).length = l.length - 4*t := by simp
        have HDL := Lib.hid hdl
        have HSET := Lib.hid hset
        have hbs := hb.setCell (p := ⟨w.heap.size, t, none⟩) (Nat.le_refl _) (.int .u32 ((word l t : Nat) : Int))
        have HW := Lib.hid hW
        clear hdl hset hW
        go_wp2_with (go_at_call 109
                     refine (word_any _ (l.length - 4*t) (c - 4*t) (l.drop (4*t)) wr B HDL.out (by omega) (by omega) hrd).mono ?_
                     rw [word_drop]
                     rintro e w2 ⟨rfl, nq, rfl⟩)
        go_roundw
        case rel =>
          exact ⟨t + 1, by omega, by go_num, HSET.out, (hb.trans (below_drewN _ _ nq)).setCell (Nat.le_refl _) _⟩
        case measure => simp [intOf]; omega
      · obtain ⟨k, rfl⟩ : ∃ k, t = k + 16 := ⟨t - 16, by omega⟩
        have hX := (sched_fit l (k+16)).get (k+1)
        have hY := (sched_fit l (k+16)).get (k+14)
        have c1 := hW.cell (made_get l (k+16) (k+1) (by omega) ht)
        have c14 := hW.cell (made_get l (k+16) (k+14) (by omega) ht)
        have c0 := hW.cell (made_get l (k+16) k (by omega) ht)
        have c9 := hW.cell (made_get l (k+16) (k+9) (by omega) ht)
        have hfz := hW.frozen (k+16)
        have hcell := hW.cell (i := k+16) (u32s_get (by rw [made_length l (k+16) ht]; exact hlt))
        have hset := hW.set (k+16) (.int .u32 ((wnext (sched l (k+16)) (k+16) : Nat) : Int))
        rw [← sched_high l (k+16) (by omega), made_step l (k+16) hlt, sched_high l (k+16) (by omega)] at hset
        have hwn : wnext (sched l (k+16)) (k+16) = ((sched l (k+16)).getD k 0 + sa ((sched l (k+16)).getD (k+1) 0) + (sched l (k+16)).getD (k+9) 0 + sb ((sched l (k+16)).getD (k+14) 0)) % 4294967296 := rfl
        generalize wnext (sched l (k+16)) (k+16) = N at *
        generalize (sched l (k+16)).getD k 0 = w0 at *
        generalize (sched l (k+16)).getD (k+1) 0 = x at *
        generalize (sched l (k+16)).getD (k+9) 0 = w9 at *
        generalize (sched l (k+16)).getD (k+14) 0 = y at *
        obtain ⟨x7, hx7⟩ : ∃ z, rotr x 7 = z := ⟨_, rfl⟩
        obtain ⟨x18, hx18⟩ : ∃ z, rotr x 18 = z := ⟨_, rfl⟩
        obtain ⟨y17, hy17⟩ : ∃ z, rotr y 17 = z := ⟨_, rfl⟩
        obtain ⟨y19, hy19⟩ : ∃ z, rotr y 19 = z := ⟨_, rfl⟩
        have lx7 := rotr_lt x 7 hX
        have lx18 := rotr_lt x 18 hX
        have ly17 := rotr_lt y 17 hY
        have ly19 := rotr_lt y 19 hY
        have hsa : sa x = rotr x 7 ^^^ rotr x 18 ^^^ x / 8 := rfl
        have hsb : sb y = rotr y 17 ^^^ rotr y 19 ^^^ y / 1024 := rfl
        have lsa := sa_lt x hX
        have lsb := sb_lt y hY
        rw [hx7, hx18] at hsa
        rw [hy17, hy19] at hsb
        rw [hx7] at lx7
        rw [hx18] at lx18
        rw [hy17] at ly17
        rw [hy19] at ly19
        have q1 : bits BinOp.xor IntKind.u32 (x7 : Int) (x18 : Int) = ((x7 ^^^ x18 : Nat) : Int) := u32_xor_nat _ _ lx7 lx18
        have q2 : bits BinOp.xor IntKind.u32 ((x7 ^^^ x18 : Nat) : Int) ((x : Int) / 8) = ((sa x : Nat) : Int) := by
          rw [show ((x : Int) / 8) = ((x / 8 : Nat) : Int) by omega, u32_xor_nat _ _ (xor_lt lx7 lx18) (by omega), hsa]
        have q3 : bits BinOp.xor IntKind.u32 (y17 : Int) (y19 : Int) = ((y17 ^^^ y19 : Nat) : Int) := u32_xor_nat _ _ ly17 ly19
        have q4 : bits BinOp.xor IntKind.u32 ((y17 ^^^ y19 : Nat) : Int) ((y : Int) / 1024) = ((sb y : Nat) : Int) := by
          rw [show ((y : Int) / 1024) = ((y / 1024 : Nat) : Int) by omega, u32_xor_nat _ _ (xor_lt ly17 ly19) (by omega), hsb]
        generalize sa x = s0 at *
        generalize sb y = s1 at *
        generalize x7 ^^^ x18 = x25 at *
        generalize y17 ^^^ y19 = y36 at *
        have k1 : IntKind.i64.wrap ((k : Int) + 16 - 15) = (k : Int) + 1 := by rw [show (k : Int) + 16 - 15 = (k : Int) + 1 by omega]; exact i64_wraps _ (by omega) (by omega)
        have k2 : IntKind.i64.wrap ((k : Int) + 16 - 2) = (k : Int) + 14 := by rw [show (k : Int) + 16 - 2 = (k : Int) + 14 by omega]; exact i64_wraps _ (by omega) (by omega)
        have k3 : IntKind.i64.wrap ((k : Int) + 16 - 7) = (k : Int) + 9 := by rw [show (k : Int) + 16 - 7 = (k : Int) + 9 by omega]; exact i64_wraps _ (by omega) (by omega)
        have k4 : IntKind.i64.wrap (k : Int) = (k : Int) := i64_wraps _ (by omega) (by omega)
        have n1 : ((k : Int) + 1).toNat = k + 1 := by omega
        have n2 : ((k : Int) + 14).toNat = k + 14 := by omega
        have n3 : ((k : Int) + 9).toNat = k + 9 := by omega
        have n5 : ((k : Int) + 16).toNat = k + 16 := by omega
        have b1 : (k : Int) + 1 < 64 := by omega
        have b2 : (k : Int) + 14 < 64 := by omega
        have b3 : (k : Int) + 9 < 64 := by omega
        have b4 : (k : Int) < 64 := by omega
        have b5 : (k : Int) + 16 < 64 := by omega
        have a1 : (0 : Int) ≤ (k : Int) + 1 := by omega
        have a2 : (0 : Int) ≤ (k : Int) + 14 := by omega
        have a3 : (0 : Int) ≤ (k : Int) + 9 := by omega
        have a4 : (0 : Int) ≤ (k : Int) := by omega
        have a5 : (0 : Int) ≤ (k : Int) + 16 := by omega
        have HX7 := Lib.hid hx7
        have HX18 := Lib.hid hx18
        have HY17 := Lib.hid hy17
        have HY19 := Lib.hid hy19
        have HSET := Lib.hid hset
        have HN := Lib.hid hwn
        have HW := Lib.hid hW
        clear hx7 hx18 hy17 hy19 hset hwn hW hsa hsb hcl hr
        go_wp2_with fail
        go_quiet (fail)
        have R7 : ∀ w, Calls Tryz.prog 110 #[.int .u32 (x : Int), .int .i64 7] w fun e w' => e = .returned (.int .u32 (x7 : Int)) ∧ w' = w := fun w => still_of (right7 x hX w) (by rw [HX7.out])
        have R18 : ∀ w, Calls Tryz.prog 110 #[.int .u32 (x : Int), .int .i64 18] w fun e w' => e = .returned (.int .u32 (x18 : Int)) ∧ w' = w := fun w => still_of (right18 x hX w) (by rw [HX18.out])
        have R17 : ∀ w, Calls Tryz.prog 110 #[.int .u32 (y : Int), .int .i64 17] w fun e w' => e = .returned (.int .u32 (y17 : Int)) ∧ w' = w := fun w => still_of (right17 y hY w) (by rw [HY17.out])
        have R19 : ∀ w, Calls Tryz.prog 110 #[.int .u32 (y : Int), .int .i64 19] w fun e w' => e = .returned (.int .u32 (y19 : Int)) ∧ w' = w := fun w => still_of (right19 y hY w) (by rw [HY19.out])
        have H7 := Lib.hid R7
        have H18 := Lib.hid R18
        have H17 := Lib.hid R17
        have H19 := Lib.hid R19
        clear R7 R18 R17 R19 HX7 HX18 HY17 HY19
        go_wp2_with fail
        refine wp_region_still_tail 29 (by kernel_rfl) (by kernel_rfl) ?_
        change wpStill _ _ (World.drew (wr.drewN nq)) (fun a' => wpList _ _ _ _ a' (World.drew (wr.drewN nq))) _ _
        simp only [List.take_succ_cons, List.take_zero, List.drop_succ_cons, List.drop_zero]
        repeat (refine wpStill_step (fun K hK => ?_); go_simp; first | (with_reducible refine hK _ ?_; clear hK K) | (with_reducible refine ⟨_, H7.out _, hK _ ?_⟩; clear hK K) | (with_reducible refine ⟨_, H18.out _, hK _ ?_⟩; clear hK K) | (with_reducible refine ⟨_, H17.out _, hK _ ?_⟩; clear hK K) | (with_reducible refine ⟨_, H19.out _, hK _ ?_⟩; clear hK K))
        refine wpStill_nil ?_
        go_wp2_with fail
        go_roundw
        case rel =>
          refine ⟨k + 16 + 1, by omega, by go_num, ?_, (hb.trans (below_drewN _ _ (nq + 1))).setCell (Nat.le_refl _) _⟩
          rw [show ((w0 : Int) + (s0 : Int) + (w9 : Int) + (s1 : Int)) % 4294967296 = (N : Int) by rw [HN.out]; omega]
          exact HSET.out
        case measure => simp [intOf]; omega
    · have e64 : t = 64 := by omega
      subst e64
      rw [show ((64 : Nat) : Int) = 64 from rfl]
      obtain ⟨w1, rfl⟩ : ∃ w1 : World, w1 = wr := ⟨_, rfl⟩
      have hgr := hg.below hb hg.lt
      have hkr := hk.below hb hk.lt
      have hz1 := hg.lt
      have hz2 := hk.lt
      have hz3 := hW.lt
      have h8' := h8
      obtain ⟨a0, a1, a2, a3, a4, a5, a6, a7, e8, l0, l1, l2, l3, l4, l5, l6, l7⟩ := h8.parts
      have d0 : w1.cell? ⟨g, 0, none⟩ = some (.int .u32 (a0 : Int)) := hgr.cell (by rw [e8]; rfl)
      have d1 : w1.cell? ⟨g, 1, none⟩ = some (.int .u32 (a1 : Int)) := hgr.cell (by rw [e8]; rfl)
      have d2 : w1.cell? ⟨g, 2, none⟩ = some (.int .u32 (a2 : Int)) := hgr.cell (by rw [e8]; rfl)
      have d3 : w1.cell? ⟨g, 3, none⟩ = some (.int .u32 (a3 : Int)) := hgr.cell (by rw [e8]; rfl)
      have d4 : w1.cell? ⟨g, 4, none⟩ = some (.int .u32 (a4 : Int)) := hgr.cell (by rw [e8]; rfl)
      have d5 : w1.cell? ⟨g, 5, none⟩ = some (.int .u32 (a5 : Int)) := hgr.cell (by rw [e8]; rfl)
      have d6 : w1.cell? ⟨g, 6, none⟩ = some (.int .u32 (a6 : Int)) := hgr.cell (by rw [e8]; rfl)
      have d7 : w1.cell? ⟨g, 7, none⟩ = some (.int .u32 (a7 : Int)) := hgr.cell (by rw [e8]; rfl)
      have HE8 := Lib.hid e8
      clear e8
      go_wp2
      have hV0 : RowV (w1.alloc (.cells #[.int .u32 (a0 : Int), .int .u32 (a1 : Int), .int .u32 (a2 : Int), .int .u32 (a3 : Int), .int .u32 (a4 : Int), .int .u32 (a5 : Int), .int .u32 (a6 : Int), .int .u32 (a7 : Int)] 153)) 153 w1.heap.size (u32s (rnds hv (sched l 64) 0)) := by
        have := heap_alloc_new w1 (.cells #[.int .u32 (a0 : Int), .int .u32 (a1 : Int), .int .u32 (a2 : Int), .int .u32 (a3 : Int), .int .u32 (a4 : Int), .int .u32 (a5 : Int), .int .u32 (a6 : Int), .int .u32 (a7 : Int)] 153)
        show _ = _
        rw [this, rnds, HE8.out]
        rfl
      have hbV := (Below.refl w1.heap.size w1).alloc (Nat.le_refl _) (.cells #[.int .u32 (a0 : Int), .int .u32 (a1 : Int), .int .u32 (a2 : Int), .int .u32 (a3 : Int), .int .u32 (a4 : Int), .int .u32 (a5 : Int), .int .u32 (a6 : Int), .int .u32 (a7 : Int)] 153)
      generalize w1.alloc _ = wv at hV0 hbV ⊢
      obtain ⟨V, hV⟩ : ∃ V, V = w1.heap.size := ⟨_, rfl⟩
      rw [← hV] at hV0 hbV ⊢
      have hVb : w.heap.size ≤ V := by rw [hV]; exact hb.size
      have hVW : w.heap.size < V := by rw [hV]; exact hz3
      have HV2' : V ≤ w1.heap.size := by omega
      clear hV d0 d1 d2 d3 d4 d5 d6 d7 hr hcl
      go_loopw [70] (fun i wr => ∃ t : Nat, t ≤ 64 ∧ i = .int .i64 t ∧ RowV wr 153 V (u32s (rnds hv (sched l 64) t)) ∧ Below V w1 wr) (fun i _ => 64 - (intOf i).toNat)
      case atStart => exact ⟨0, by omega, rfl, hV0, hbV⟩
      case round =>
        obtain ⟨t, ht', rfl, hVr, hbr⟩ := hrel
        have hWs := hW.below hbr hVW
        have hks := hkr.below hbr (by omega)
        clear hV0 hbV
        by_cases hlt' : t < 64
        · have h8r := rnds_eight h8 (sched l 64) t
          have hnx : rnds hv (sched l 64) (t+1) = rnd (rnds hv (sched l 64) t) (kw.getD t 0) ((sched l 64).getD t 0) := rfl
          obtain ⟨ra, rb, rc, rd, re, rf, rg, rh, er, la, lb, lc, ld, le, lf, lg, lh⟩ := h8r.parts
          rw [er] at hVr hnx
          have v0 : wr.cell? ⟨V, 0, none⟩ = some (.int .u32 (ra : Int)) := hVr.cell rfl
          have v4 : wr.cell? ⟨V, 4, none⟩ = some (.int .u32 (re : Int)) := hVr.cell rfl
          have hkt := kw_fit.get t
          have hwt := (sched_fit l 64).get t
          have ck : (u32s kw)[t]? = some (.int .u32 ((kw.getD t 0 : Nat) : Int)) := u32s_get (by rw [kw_length]; exact hlt')
          have cw := made_get l 64 t hlt' (Nat.le_refl _)
          generalize kw.getD t 0 = kt at *
          generalize (sched l 64).getD t 0 = wt at *
          have CK := Lib.hid ck
          have CW := Lib.hid cw
          clear ck cw
          have HNX := Lib.hid hnx
          have HER := Lib.hid er
          have HVR := Lib.hid hVr
          have HWS := Lib.hid hWs
          have HKS := Lib.hid hks
          clear hnx er hVr hWs hks
          have i0 : (0 : Int) ≤ (t : Int) := by omega
          have i1 : (t : Int) < 64 := by omega
          obtain ⟨r6, r11, r25, n1, E, p1, p2, C, e6, e11, e25, q1, q2, q3, q4, q5, eE, eC, lE, lC⟩ := x_facts re rf rg le lf lg
          obtain ⟨r2, r13, r22, m1, A1, s1, s2, s3, s4, M1, e2, e13, e22, z1, z2, z3, z4, z5, z6, z7, eA, eM, lA, lM⟩ := y_facts ra rb rc la lb lc
          have X6 := Lib.hid (fun w => still_of (right6 re le w) (by rw [e6] : _ = Value.int .u32 (r6 : Int)))
          have X11 := Lib.hid (fun w => still_of (right11 re le w) (by rw [e11] : _ = Value.int .u32 (r11 : Int)))
          have X25 := Lib.hid (fun w => still_of (right25 re le w) (by rw [e25] : _ = Value.int .u32 (r25 : Int)))
          have X2 := Lib.hid (fun w => still_of (right2 ra la w) (by rw [e2] : _ = Value.int .u32 (r2 : Int)))
          have X13 := Lib.hid (fun w => still_of (right13 ra la w) (by rw [e13] : _ = Value.int .u32 (r13 : Int)))
          have X22 := Lib.hid (fun w => still_of (right22 ra la w) (by rw [e22] : _ = Value.int .u32 (r22 : Int)))
          have EE := Lib.hid eE
          have EC := Lib.hid eC
          have EA := Lib.hid eA
          have EM := Lib.hid eM
          clear e6 e11 e25 e2 e13 e22 eE eC eA eM
          go_wp2_with fail
          go_quiet (fail)
          generalize hwq : wr.drewN nq = wq
          have HVQ := HVR.out.drewN nq
          have HWQ := HWS.out.drewN nq
          have HKQ := HKS.out.drewN nq
          have HBQ := hbr.trans (below_drewN V wr nq)
          rw [hwq] at HVQ HWQ HKQ HBQ
          have v1 : wq.cell? ⟨V, 1, none⟩ = some (.int .u32 (rb : Int)) := HVQ.cell rfl
          have v2 : wq.cell? ⟨V, 2, none⟩ = some (.int .u32 (rc : Int)) := HVQ.cell rfl
          have v5 : wq.cell? ⟨V, 5, none⟩ = some (.int .u32 (rf : Int)) := HVQ.cell rfl
          have v6 : wq.cell? ⟨V, 6, none⟩ = some (.int .u32 (rg : Int)) := HVQ.cell rfl
          have v7 : wq.cell? ⟨V, 7, none⟩ = some (.int .u32 (rh : Int)) := HVQ.cell rfl
          have ck := HKQ.cell (i := t) (v := .int .u32 (kt : Int)) (by have := CK.out; exact this)
          have cw := HWQ.cell (i := t) (v := .int .u32 (wt : Int)) (by have := CW.out; exact this)
          clear hwq hbr
          go_wp2_with fail
          go_quiet ((first | with_reducible exact Calls.quiet_of_same (X6.out _) | with_reducible exact Calls.quiet_of_same (X11.out _) | with_reducible exact Calls.quiet_of_same (X25.out _)))
          rw [sum5 rh E C kt wt]
          obtain ⟨X, hX⟩ : ∃ X, X = (rh + E + C + kt + wt) % 4294967296 := ⟨_, rfl⟩
          have lX : X < 4294967296 := by rw [hX]; exact Nat.mod_lt _ (by decide)
          rw [← hX]
          have HX := Lib.hid hX
          clear hX
          generalize hwq2 : wq.drewN nq = wq2
          have HVQ2 := HVQ.drewN nq
          have HBQ2 := HBQ.trans (below_drewN V wq nq)
          rw [hwq2] at HVQ2 HBQ2
          have v1 : wq2.cell? ⟨V, 1, none⟩ = some (.int .u32 (rb : Int)) := HVQ2.cell rfl
          have v2 : wq2.cell? ⟨V, 2, none⟩ = some (.int .u32 (rc : Int)) := HVQ2.cell rfl
          clear hwq2 HBQ v5 v6 v7 ck cw
          have HVQ := HVQ2
          clear HVQ2
          go_wp2_with fail
          go_quiet ((first | with_reducible exact Calls.quiet_of_same (X2.out _) | with_reducible exact Calls.quiet_of_same (X13.out _) | with_reducible exact Calls.quiet_of_same (X22.out _)))
          rw [sum2 A1 M1]
          obtain ⟨Y, hY⟩ : ∃ Y, Y = (A1 + M1) % 4294967296 := ⟨_, rfl⟩
          have lY : Y < 4294967296 := by rw [hY]; exact Nat.mod_lt _ (by decide)
          rw [← hY]
          have HY := Lib.hid hY
          clear hY
          generalize hwq3 : wq2.drewN nq = wq3
          have HVQ3 := HVQ.drewN nq
          have HBQ3 := HBQ2.trans (below_drewN V wq2 nq)
          rw [hwq3] at HVQ3 HBQ3
          clear hwq3 HBQ2 v1 v2
          have hsrc : ∀ j u, (u32s [ra, rb, rc, rd, re, rf, rg])[j]? = some u → wq3.drew.cell? (Addr.add ⟨V, 0, none⟩ j) = some u := by
            intro j u hj
            rw [addr_add, Nat.zero_add]
            refine (HVQ3.drew).cell ?_
            have hj' : j < 7 := (List.getElem?_eq_some_iff.1 hj).1
            rw [← hj]
            rcases j with _ | _ | _ | _ | _ | _ | _ | j <;> first | rfl | omega
          have HS := Lib.hid hsrc
          clear hsrc
          go_wp2_with fail
          refine wp_region_still_tail 2 (by kernel_rfl) (by kernel_rfl) ?_
          change wpStill _ _ (World.drew wq3) (fun a' => wpList _ _ _ _ a' (World.drew wq3)) _ _
          simp only [List.take_succ_cons, List.take_zero, List.drop_succ_cons, List.drop_zero]
          repeat still_step
          refine wpStill_nil ?_
          refine wpList_copy_v el32 rfl (.tmp 133) (.tmp 134) rfl V 1 7 7 ⟨V, 0, none⟩ 7 8 153 (u32s [ra, rb, rc, rd, re, rf, rg, rh]) (u32s [ra, rb, rc, rd, re, rf, rg]) rfl rfl HVQ3.drew rfl HS.out (by simp [u32s]) (by intro u hu; simp only [u32s, List.mem_map] at hu; obtain ⟨_, _, rfl⟩ := hu; rfl) ?_
          intro w5 hV5 hg5
          have hV5' : RowV w5 153 V (u32s [ra, ra, rb, rc, rd, re, rf, rg]) := hV5
          have HB5 : Below V w1 w5 := HBQ3.drew.grown hg5 (Nat.le_trans HV2' HBQ3.size) (fun k hk => by injection hk with hk; omega)
          have f0 := hV5'.frozen 0
          have f4 := hV5'.frozen 4
          have c0 : w5.cell? ⟨V, 0, none⟩ = some (.int .u32 (ra : Int)) := hV5'.cell rfl
          have c4 : w5.cell? ⟨V, 4, none⟩ = some (.int .u32 (rd : Int)) := hV5'.cell rfl
          have HV5 := Lib.hid hV5'
          clear hV5 hV5' hg5 HVQ3 HBQ3
          go_wp2_with fail
          go_roundw
          case rel =>
            refine ⟨t + 1, by omega, by go_num, ?_, (HB5.setCell (Nat.le_refl _) _).setCell (Nat.le_refl _) _⟩
            rw [HNX.out, rnd_is _ _ _ _ _ _ _ _ _ _ X Y E C A1 M1 EE.out EC.out EA.out EM.out HX.out HY.out, sum2 X Y, sum2 rd X]
            exact (HV5.out.set 0 _).set 4 _
          case measure => simp [intOf]; omega
        · have e64 : t = 64 := by omega
          subst e64
          rw [show ((64 : Nat) : Int) = 64 from rfl]
          obtain ⟨w3, rfl⟩ : ∃ w3 : World, w3 = wr := ⟨_, rfl⟩
          have h8r := rnds_eight h8 (sched l 64) 64
          have hcomp : comp hv l = add8 hv (rnds hv (sched l 64) 64) := rfl
          have hgs := hgr.below hbr (by omega)
          obtain ⟨rs, hrs⟩ : ∃ rs, rnds hv (sched l 64) 64 = rs := ⟨_, rfl⟩
          rw [hrs] at h8r hcomp hVr
          have hl8 := h8.len
          have hr8 := h8r.len
          have HC := Lib.hid hcomp
          have HG0 : World.grownBy w w3 (some g) := ⟨(hbr.trans (Below.refl _ _)).os.trans hb.os, hbr.tape.trans hb.tape, hbr.output.trans hb.output, Nat.le_trans hb.size hbr.size, fun k hk _ => (hbr.block k (by omega)).trans (hb.block k hk)⟩
          have hgs0 : RowV w3 T g (u32s (added hv rs 0) ++ more) := by rw [added_zero]; exact hgs
          have hgV : V ≠ g := by omega
          have H8l := Lib.hid hl8
          have H8r := Lib.hid hr8
          clear hrs hcomp hWs hks hgr hkr hg hk hW hb hgs hl8 hr8
          go_wp2
          go_loopw [146] (fun i wx => ∃ t : Nat, t ≤ 8 ∧ i = .int .i64 t ∧ RowV wx T g (u32s (added hv rs t) ++ more) ∧ RowV wx 153 V (u32s rs) ∧ World.grownBy w wx (some g)) (fun i _ => 8 - (intOf i).toNat)
          case atStart => exact ⟨0, by omega, rfl, hgs0, hVr, HG0⟩
          case round =>
            obtain ⟨t, ht8, rfl, hgx, hVx, hGx⟩ := hrel
            clear hgs0 hVr HG0
            by_cases hlt8 : t < 8
            · have cg := hgx.cell (added_cell H8l.out H8r.out t hlt8 more)
              have cv := hVx.cell (i := t) (u32s_get (by rw [H8r.out]; exact hlt8))
              have hset := hgx.set t (.int .u32 (((hv.getD t 0 + rs.getD t 0) % 4294967296 : Nat) : Int))
              rw [added_step H8l.out H8r.out t hlt8 more] at hset
              have hfar := hVx.far (p := ⟨g, t, none⟩) hgV (.int .u32 (((hv.getD t 0 + rs.getD t 0) % 4294967296 : Nat) : Int))
              have hfz := hgx.frozen t
              have lh := h8.fit.get t
              have lr := h8r.fit.get t
              have hGs : World.grownBy w (wr.setCell ⟨g, t, none⟩ (.int .u32 (((hv.getD t 0 + rs.getD t 0) % 4294967296 : Nat) : Int))) (some g) :=
                ⟨hGx.os, hGx.tape, hGx.output, by simpa using hGx.size, fun k hk hne => (heap_setCell_other wr ⟨g, t, none⟩ k _ (fun e => hne (congrArg some e))).trans (hGx.block k hk hne)⟩
              have i0 : (0 : Int) ≤ (t : Int) := by omega
              have i1 : (t : Int) < 8 := by omega
              rw [← sum2] at hset hfar hGs
              generalize hv.getD t 0 = x at *
              generalize rs.getD t 0 = y at *
              have HS := Lib.hid hset
              have HF := Lib.hid hfar
              have HGS := Lib.hid hGs
              clear hset hfar hGs hgx hVx hGx
              go_wp2_with fail
              go_region
              all_goals
                go_wp2
                go_roundw
                case rel => exact ⟨t + 1, by omega, by go_num, HS.out.drew, HF.out.drew, ⟨HGS.out.os, HGS.out.tape, HGS.out.output, HGS.out.size, HGS.out.block⟩⟩
                case measure => simp [intOf]; omega
            · have e8 : t = 8 := by omega
              subst e8
              rw [added_all H8l.out H8r.out, ← HC.out] at hgx
              have HGX := Lib.hid hgx
              have HX := Lib.hid hGx
              clear hgx hGx hVx
              go_wp2
              go_end0
              exact ⟨rfl, HGX.out, HX.out⟩
end Go.Proofs.YtkgnnlglabihkaaGreatDoor.Sha
