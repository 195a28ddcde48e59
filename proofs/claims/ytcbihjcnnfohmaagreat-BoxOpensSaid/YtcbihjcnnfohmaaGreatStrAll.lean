/- What Xor refuses: contracts. Laws of bytes under the pad. -/
import Derived.Test.YtcbihjcnnfohmaaGreatStrXor
import Derived.Test.YtcbihjcnnfohmaaGreatStrVal
import Derived.Lib.SlBytesConst
namespace Go.Proofs.YtcbihjcnnfohmaaGreat.Str
open Go Go.ChangeShapes Go.WideShapes Go.ChangeAt Go.RowKit Go.Proofs.YtcbihjcnnfohmaaGreat.Aes
set_option linter.unusedVariables false
set_option linter.unusedSimpArgs false
set_option maxRecDepth 100000 in
set_option maxHeartbeats 1000000 in
theorem xor_no1 (A : Option Addr) (n c : Nat) (l : List UInt8) (A2 : Option Addr) (pn2 pc : Nat) (nonce a : Int) (w : World) (hn : l.length = n) (hr : Rd w w.heap.size A l) (hnm : nonce < 9223372036854775808) (h : ¬ KeyOk l ∨ nonce < 0 ∨ a < 0) :
    Calls Tryz.prog 22 #[.slice A n c, .int .i64 nonce, .int .i64 a, .slice A2 pn2 pc] w fun e w' => e = .returned (.tuple #[.slice none 0 0, .int .i64 1]) ∧ Below w.heap.size w w' := by
  have HN := Lib.hid hn
  have HR := Lib.hid hr
  clear hr hn
  by_cases h1 : ¬ KeyOk l ∨ nonce < 0
  · have H1 := Lib.hid h1
    clear h h1 hnm
    go_enter Tryz.func22, Tryz.ntmps22
    go_wp2_with fail
    refine (blocks_no A n c l nonce _ w.heap.size (Nat.le_refl _) HN.out HR.out H1.out).mono ?_
    rintro e w1 ⟨rfl, hb1⟩
    go_wp2_with fail
    go_ret2
    exact ⟨rfl, hb1⟩
  · have hk : KeyOk l := Classical.byContradiction fun hk => h1 (.inl hk)
    have hn0 : 0 ≤ nonce := by
      rcases Int.lt_or_le nonce 0 with h' | h'
      · exact absurd (.inr h') h1
      · exact h'
    have hneg : a < 0 := by
      rcases h with h | h | h
      · exact absurd hk h
      · omega
      · exact h
    obtain ⟨nc, rfl⟩ := Int.eq_ofNat_of_zero_le hn0
    have HNC := Lib.hid (show nc < 9223372036854775808 by omega)
    have HK := Lib.hid hk
    clear h h1 hnm hk hn0
    go_enter Tryz.func22, Tryz.ntmps22
    go_wp2_with fail
    refine (blocks_yes A n c l nc HNC.out _ w.heap.size (Nat.le_refl _) HN.out HR.out HK.out).mono ?_
    rintro e w1 ⟨g, pk, pn, B1, rfl, hst, hpk, hpn, hb1⟩
    have HB1 := Lib.hid hb1
    clear hst hb1
    go_wp2_with fail
    go_ret2
    exact ⟨rfl, HB1.out⟩
set_option maxRecDepth 100000 in
set_option maxHeartbeats 1000000 in
theorem xor_no2 (A : Option Addr) (n c : Nat) (l : List UInt8) (A2 : Option Addr) (pn2 pc : Nat) (nonce a : Nat) (w : World) (hn : l.length = n) (hr : Rd w w.heap.size A l) (hk : KeyOk l) (hnm : nonce < 9223372036854775808) (h : 65536 < pn2 ∨ 1099511627776 < a) :
    Calls Tryz.prog 22 #[.slice A n c, .int .i64 (nonce : Int), .int .i64 (a : Int), .slice A2 pn2 pc] w fun e w' => e = .returned (.tuple #[.slice none 0 0, .int .i64 2]) ∧ Below w.heap.size w w' := by
  have HN := Lib.hid hn
  have HR := Lib.hid hr
  have HK := Lib.hid hk
  have HNC := Lib.hid hnm
  have a0 : decide ((a : Int) < 0) = false := decide_eq_false (by omega)
  clear hr hn hk hnm
  by_cases hp : 65536 < pn2
  · have b1 : decide ((65536 : Int) < (pn2 : Int)) = true := decide_eq_true (by omega)
    clear h hp
    go_enter Tryz.func22, Tryz.ntmps22
    go_wp2_with fail
    refine (blocks_yes A n c l nonce HNC.out _ w.heap.size (Nat.le_refl _) HN.out HR.out HK.out).mono ?_
    rintro e w1 ⟨g, pk, pn, B1, rfl, hst, hpk, hpn, hb1⟩
    have HB1 := Lib.hid hb1
    clear hst hb1
    go_wp2_with fail
    go_ret2
    exact ⟨rfl, HB1.out⟩
  · have b1 : decide ((65536 : Int) < (pn2 : Int)) = false := decide_eq_false (by omega)
    have b2 : decide ((1099511627776 : Int) < (a : Int)) = true := decide_eq_true (by omega)
    clear h hp
    go_enter Tryz.func22, Tryz.ntmps22
    go_wp2_with fail
    refine (blocks_yes A n c l nonce HNC.out _ w.heap.size (Nat.le_refl _) HN.out HR.out HK.out).mono ?_
    rintro e w1 ⟨g, pk, pn, B1, rfl, hst, hpk, hpn, hb1⟩
    have HB1 := Lib.hid hb1
    clear hst hb1
    go_wp2_with fail
    go_ret2
    exact ⟨rfl, HB1.out⟩

/-! ### plain -/
theorem xorS_get {key : Blk} {nonce a : Nat} {p : List UInt8} {i : Nat} (hi : i < p.length) : (xorS key nonce a p)[i]? = some (p.getD i 0 ^^^ at_ (padL key nonce ((a + i) / 16)) ((a + i) % 16)) := by
  unfold xorS; rw [List.getElem?_map, List.getElem?_range hi]; rfl
theorem xorS_ext {l : List UInt8} {key : Blk} {nonce a : Nat} {p : List UInt8} (hl : l.length = p.length) (h : ∀ i, i < p.length → l.getD i 0 = p.getD i 0 ^^^ at_ (padL key nonce ((a + i) / 16)) ((a + i) % 16)) : l = xorS key nonce a p := by
  apply List.ext_getElem?
  intro i
  rcases Nat.lt_or_ge i p.length with hi | hi
  · rw [xorS_get hi, ← h i hi]
    simp [List.getD_eq_getElem?_getD, List.getElem?_eq_getElem (show i < l.length by omega)]
  · rw [List.getElem?_eq_none (by omega), List.getElem?_eq_none (by rw [xorS_length]; exact hi)]
theorem xorS_getD {key : Blk} {nonce a : Nat} {p : List UInt8} {i : Nat} (hi : i < p.length) : (xorS key nonce a p).getD i 0 = p.getD i 0 ^^^ at_ (padL key nonce ((a + i) / 16)) ((a + i) % 16) := by
  rw [List.getD_eq_getElem?_getD, xorS_get hi]; rfl
/-- done twice it is undone -/
theorem xorS_twice (key : Blk) (nonce a : Nat) (p : List UInt8) : xorS key nonce a (xorS key nonce a p) = p := by
  refine (xorS_ext (by rw [xorS_length]) fun i hi => ?_).symm
  rw [xorS_length] at hi
  rw [xorS_getD hi, UInt8.xor_assoc, UInt8.xor_self, UInt8.xor_zero]
/-- bytes may be cut -/
theorem xorS_cut (key : Blk) (nonce a : Nat) (p : List UInt8) (k : Nat) (hk : k ≤ p.length) : xorS key nonce a (p.take k) ++ xorS key nonce (a + k) (p.drop k) = xorS key nonce a p := by
  refine xorS_ext (by rw [List.length_append, xorS_length, xorS_length, List.length_take, List.length_drop]; omega) fun i hi => ?_
  have hl : (xorS key nonce a (p.take k)).length = k := by rw [xorS_length, List.length_take]; omega
  rw [List.getD_eq_getElem?_getD]
  rcases Nat.lt_or_ge i k with h | h
  · rw [List.getElem?_append_left (by omega), xorS_get (by rw [List.length_take]; omega)]
    simp [List.getD_eq_getElem?_getD, List.getElem?_take, h]
  · rw [List.getElem?_append_right (by omega), hl, xorS_get (by rw [List.length_drop]; omega), show a + k + (i - k) = a + i by omega]
    simp [List.getD_eq_getElem?_getD, List.getElem?_drop, show k + (i - k) = i by omega]
/-- bytes 0 become the pad -/
theorem xorS_zeros {key : Blk} (hk : KeyOk key) (nonce b : Nat) : xorS key nonce (16 * b) (List.replicate 16 0) = padL key nonce b := by
  refine (xorS_ext (by rw [padL_length hk, List.length_replicate]) fun i hi => ?_).symm
  rw [List.length_replicate] at hi
  rw [show (16 * b + i) / 16 = b by omega, show (16 * b + i) % 16 = i by omega]
  rw [show (List.replicate 16 (0 : UInt8)).getD i 0 = 0 by rw [List.getD_eq_getElem?_getD, List.getElem?_replicate, if_pos hi]; rfl, UInt8.zero_xor]
  rfl
end Go.Proofs.YtcbihjcnnfohmaaGreat.Str

/- The small case of this layer's statements: contract. -/
namespace Go.Proofs.YtcbihjcnnfohmaaGreat.Str
open Go Go.ChangeShapes Go.WideShapes Go.ChangeAt Go.RowKit Go.Proofs.YtcbihjcnnfohmaaGreat.Aes
set_option linter.unusedVariables false
set_option linter.unusedSimpArgs false
def abc : List UInt8 := [97, 98, 99]
theorem K0_ok : KeyOk K0 := .inl rfl
theorem cnt10 : cntL 1 0 = [0, 0, 0, 0, 0, 0, 0, 1, 0, 0, 0, 0, 0, 0, 0, 0] := by decide
theorem cnt00 : cntL 0 0 = [0, 0, 0, 0, 0, 0, 0, 0, 0, 0, 0, 0, 0, 0, 0, 0] := by decide
theorem three {l : List UInt8} (h : l.length = 16) : l.take 3 = [at_ l 0, at_ l 1, at_ l 2] := by
  obtain ⟨a, b, c, d, e, f, g, i, j, k, l', m, n, o, p, q, rfl⟩ := sixteen h
  rfl
theorem abc_ne : xorS K0 1 0 abc ≠ abc := fun h => by
  have hl := padL_length K0_ok 1 0
  have hv : (padL K0 1 0).take 3 ≠ [0, 0, 0] := by unfold padL; rw [cnt10]; exact val1
  rw [three hl] at hv
  have e : ∀ i, i < 3 → abc.getD i 0 ^^^ at_ (padL K0 1 0) i = abc.getD i 0 := fun i hi => by
    have h1 := xorS_getD (key := K0) (nonce := 1) (a := 0) (p := abc) (i := i) hi
    rw [h, Nat.zero_add, Nat.div_eq_of_lt (by omega), Nat.mod_eq_of_lt (by omega)] at h1
    exact h1.symm
  have z : ∀ x y : UInt8, x ^^^ y = x → y = 0 := fun x y h => by
    have := congrArg (x ^^^ ·) h
    simpa [xcc8] using this
  exact hv (by rw [z _ _ (e 0 (by omega)), z _ _ (e 1 (by omega)), z _ _ (e 2 (by omega))])
theorem pad_first : at_ (padL K0 0 0) 0 = 102 := by
  have hv : (padL K0 0 0).take 1 = [102] := by unfold padL; rw [cnt00]; exact val2
  have hl := padL_length K0_ok 0 0
  have h3 : (padL K0 0 0).take 1 = [at_ (padL K0 0 0) 0] := by
    obtain ⟨a, b, c, d, e, f, g, i, j, k, l', m, n, o, p, q, he⟩ := sixteen hl
    rw [he]; rfl
  rw [h3] at hv
  injection hv
theorem marked_rd (w : World) (e : TypeId) (l : List UInt8) (m : Nat × Nat) : Rd (w.alloc (.cells (bvs l).toArray e m)) (w.heap.size + 1) (some ⟨w.heap.size, 0, none⟩) l := fun _ => by
  refine ⟨_, rfl, Nat.lt_succ_self _, fun j hj => ?_⟩
  rw [add_zero_block, cell_of_row _ w.heap.size j _ e m (heap_alloc_new w _)]
  simp [bvs, hj]
theorem own_rd_ {w : World} {base n c : Nat} {A : Option Addr} {l : List UInt8} (h : Own w 5 base (.slice A n c) l) : Rd w w.heap.size A l := by
  obtain ⟨A', c', e, hr, _⟩ := h.form
  injection e with e1 e2 e3
  subst e1
  exact hr
theorem alloc_size (w : World) (o : Obj) : (w.alloc o).heap.size = w.heap.size + 1 := by simp
end Go.Proofs.YtcbihjcnnfohmaaGreat.Str

/- Lemmas for this layer's statements. -/
namespace Go.Proofs.YtcbihjcnnfohmaaGreat.Str
open Go Go.ChangeShapes Go.WideShapes Go.ChangeAt Go.RowKit Go.Proofs.YtcbihjcnnfohmaaGreat.Aes
set_option linter.unusedVariables false
theorem str_app (a b : List UInt8) : str a ++ str b = str (a ++ b) := by
  apply ByteArray.ext
  simp [str]
theorem str_size (a : List UInt8) : (str a).size = a.length := by show a.toArray.size = _; simp
set_option maxRecDepth 20000 in
theorem arg_to {w : World} {B : Nat} {A : Option Addr} {n c k : Nat} {l : List UInt8} (hr : Rd w B A l) (hn : l.length = n) (hk : k ≤ n) (hc : n ≤ c) : ∃ A', (∀ w' : World, (Instr.slice 22 (.slice A n c) none (some (.int .i64 (k : Int))) none).run Tryz.prog w' = .ok (.slice A' k c) w') ∧ Rd w B A' (l.take k) := by
  have hu : Tryz.prog.underlying 22 = some (.slice (Tryz.prog.elem 22)) := by kernel_rfl
  have hz : ∀ w, (sizeOf (Tryz.prog.elem 22)).run Tryz.prog w = .ok 1 w := fun w => by kernel_rfl
  refine ⟨if c = 0 then A else A.map (·.add 0), fun w' => ?_, ?_⟩
  · rw [run_slice_h w' _ _ _ _ hu .i64 (k : Int) (by omega) (by omega), hz, Result.andThen_ok, sliced]
    simp
  · have := (hr.drop 0 (cap := c) (by omega)).take k
    rwa [List.drop_zero] at this
set_option maxRecDepth 20000 in
theorem arg_from {w : World} {B : Nat} {A : Option Addr} {n c k : Nat} {l : List UInt8} (hr : Rd w B A l) (hn : l.length = n) (hk : k ≤ n) (hc : n ≤ c) : ∃ A', (∀ w' : World, (Instr.slice 22 (.slice A n c) (some (.int .i64 (k : Int))) none none).run Tryz.prog w' = .ok (.slice A' (n - k) (c - k)) w') ∧ Rd w B A' (l.drop k) := by
  have hu : Tryz.prog.underlying 22 = some (.slice (Tryz.prog.elem 22)) := by kernel_rfl
  have hz : ∀ w, (sizeOf (Tryz.prog.elem 22)).run Tryz.prog w = .ok 1 w := fun w => by kernel_rfl
  refine ⟨if c = k then A else A.map (·.add k), fun w' => ?_, hr.drop k (by omega)⟩
  rw [run_slice_l w' _ _ _ _ hu .i64 (k : Int) (by omega) (by omega), hz, Result.andThen_ok, sliced]
  simp
theorem rd_now {w w' : World} {A : Option Addr} {l : List UInt8} (hr : Rd w w.heap.size A l) (hb : Below w.heap.size w w') : Rd w' w'.heap.size A l := (hr.below hb).more hb.size
theorem own_rd {w : World} {base n c : Nat} {A : Option Addr} {l : List UInt8} (h : Own w 5 base (.slice A n c) l) : Rd w w.heap.size A l := by
  obtain ⟨A', c', e, hr, _⟩ := h.form
  injection e with e1 e2 e3
  subst e1
  exact hr
theorem zeros_rd (w : World) : Rd (w.alloc (.cells (bvs (List.replicate 16 0)).toArray 5)) (w.alloc (.cells (bvs (List.replicate 16 0)).toArray 5)).heap.size (some ⟨w.heap.size, 0, none⟩) (List.replicate 16 0) := (Row.new w 5 (List.replicate 16 0)).rd
end Go.Proofs.YtcbihjcnnfohmaaGreat.Str
