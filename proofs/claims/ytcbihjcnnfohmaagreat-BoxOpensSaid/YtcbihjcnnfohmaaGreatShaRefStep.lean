/- One block of a digest, as the document reckons it: contracts. -/
import Derived.Test.YtcbihjcnnfohmaaGreatShaRefRight
import Derived.Test.YtcbihjcnnfohmaaGreatShaBlock
import Derived.Test.YtcbihjcnnfohmaaGreatMemAll
import Derived.StillTailTactics
import Derived.Deep.RegionHeld3
namespace Go.Proofs.YtcbihjcnnfohmaaGreat.Sha
open Go Go.ChangeShapes Go.WideShapes Go.ChangeAt Go.RowKit
set_option linter.unusedVariables false
set_option linter.unusedSimpArgs false

def i64s (l : List Nat) : List Value := l.map fun n => .int .i64 ((n : Nat) : Int)
theorem i64s_length (l : List Nat) : (i64s l).length = l.length := by simp [i64s]
theorem i64s_get {l : List Nat} {i : Nat} (h : i < l.length) : (i64s l)[i]? = some (.int .i64 ((l.getD i 0 : Nat) : Int)) := by simp [i64s, List.getD, h]
theorem i64s_one (l : List Nat) : ∀ u ∈ i64s l, u.oneCell' = true := by
  intro u hu; simp only [i64s, List.mem_map] at hu; obtain ⟨_, _, rfl⟩ := hu; rfl
theorem eli : El Tryz.prog 92 3 (.int .i64 0) 8 := ⟨Tryz.underlying92, by kernel_rfl, rfl⟩
/-- values read, in a block of S -/
def RdV (w : World) (S : Nat → Prop) (A : Option Addr) (xs : List Value) : Prop :=
  0 < xs.length → ∃ ad, A = some ad ∧ S ad.block ∧ ∀ j v, xs[j]? = some v → w.cell? (ad.add j) = some v
theorem RdV.frame {S : Nat → Prop} {w w' : World} {A : Option Addr} {xs : List Value} (h : RdV w S A xs) (hf : Frame S w w') : RdV w' S A xs := fun h0 => by
  obtain ⟨ad, e, hb, hc⟩ := h h0
  exact ⟨ad, e, hb, fun j v hj => (World.cell?_of_block (by rw [add_block]; exact hf.block _ hb)).trans (hc j v hj)⟩
theorem RdV.mono {S T : Nat → Prop} {w : World} {A : Option Addr} {xs : List Value} (h : RdV w S A xs) (hS : ∀ k, S k → T k) : RdV w T A xs := fun h0 => by
  obtain ⟨ad, e, hb, hc⟩ := h h0
  exact ⟨ad, e, hS _ hb, hc⟩
theorem OwnV.rdv {w : World} {e : TypeId} {base n c : Nat} {A : Option Addr} {xs : List Value} (h : OwnV w e base (.slice A n c) xs) : RdV w (fun k => base ≤ k ∧ k < w.heap.size) A xs := fun h0 => by
  obtain ⟨g, off, c', hv, hb, hg, _⟩ := h.at_ (i := 0) h0
  injection hv with hv1 hv2 hv3
  subst hv1
  refine ⟨_, rfl, ⟨hb, hg⟩, fun j v hj => ?_⟩
  have hj' : j < xs.length := (List.getElem?_eq_some_iff.1 hj).1
  obtain ⟨g', off', c'', hv', _, _, hc, _⟩ := h.at_ (i := j) hj'
  injection hv' with hv1 _ _
  injection hv1 with hv1
  injection hv1 with hv1 hv2
  subst hv1 hv2
  rw [addr_add, hc, ← hj, List.getElem?_eq_getElem hj']
theorem OwnV.lenN {w : World} {e : TypeId} {base n : Nat} {v : Value} {xs : List Value} (h : OwnV w e base v xs) (hn : xs.length = n) : ∃ A c, v = .slice A n c ∧ n ≤ c ∧ c ≤ 9223372036854775807 := by
  subst hn
  obtain ⟨A, c, h1, h2, h3, _⟩ := h.len
  exact ⟨A, c, h1, h2, h3⟩
theorem OwnV.row {w : World} {e : TypeId} {base g : Nat} {xs : List Value} (h : RowV w e g xs) (hb : base ≤ g) {n : Nat} (hn : xs.length = n) (hm : n ≤ 9223372036854775807) : OwnV w e base (.slice (some ⟨g, 0, none⟩) n n) xs := by
  subst hn
  exact .inr ⟨g, 0, xs.length, xs.toArray, rfl, hb, h, Nat.le_refl _, by simp only [maxLen]; omega, by simp, by simp⟩
/-- eight of them -/
theorem OwnV.eight {w : World} {e : TypeId} {base : Nat} {v x0 x1 x2 x3 x4 x5 x6 x7 : Value} (h : OwnV w e base v [x0, x1, x2, x3, x4, x5, x6, x7]) : ∃ g off c, v = .slice (some ⟨g, off, none⟩) 8 c ∧ 8 ≤ c ∧ base ≤ g ∧ g < w.heap.size ∧
    w.cell? ⟨g, off, none⟩ = some x0 ∧ w.cell? ⟨g, off + 1, none⟩ = some x1 ∧ w.cell? ⟨g, off + 2, none⟩ = some x2 ∧ w.cell? ⟨g, off + 3, none⟩ = some x3 ∧ w.cell? ⟨g, off + 4, none⟩ = some x4 ∧ w.cell? ⟨g, off + 5, none⟩ = some x5 ∧ w.cell? ⟨g, off + 6, none⟩ = some x6 ∧ w.cell? ⟨g, off + 7, none⟩ = some x7 := by
  obtain ⟨A, c, hv, hc, _⟩ := OwnV.lenN (n := 8) h rfl
  subst hv
  obtain ⟨g, off, c', hv, hb, hg, h0, _⟩ := h.at_ (i := 0) (by simp)
  injection hv with hv1 hv2 hv3
  subst hv1 hv3
  have key : ∀ j (hj : j < 8), w.cell? ⟨g, off + j, none⟩ = some ([x0, x1, x2, x3, x4, x5, x6, x7][j]'hj) := by
    intro j hj
    obtain ⟨g', off', c'', hv', _, _, hcj, _⟩ := h.at_ (i := j) hj
    injection hv' with hv1 _ _
    injection hv1 with hv1
    injection hv1 with hv1 hv2
    subst hv1 hv2
    exact hcj
  exact ⟨g, off, _, rfl, hc, hb, hg, key 0 (by omega), key 1 (by omega), key 2 (by omega), key 3 (by omega), key 4 (by omega), key 5 (by omega), key 6 (by omega), key 7 (by omega)⟩
/-! ### the document's forms -/
theorem not_bit (e i : Nat) (he : e < 4294967296) : (4294967295 - e).testBit i = (decide (i < 32) && !e.testBit i) := by
  have := Nat.testBit_two_pow_sub_succ (x := e) (n := 32) he i
  rw [show 2 ^ 32 - (e + 1) = 4294967295 - e by omega] at this
  exact this
theorem high_bit (x i : Nat) (hx : x < 4294967296) (hi : ¬ i < 32) : x.testBit i = false := Nat.testBit_lt_two_pow (Nat.lt_of_lt_of_le hx (by
  have : (2 : Nat) ^ 32 ≤ 2 ^ i := Nat.pow_le_pow_right (by decide) (by omega)
  simpa using this))
theorem ch_doc (e f g : Nat) (he : e < 4294967296) (hf : f < 4294967296) (hg : g < 4294967296) : (e &&& f) ||| ((4294967295 - e) &&& g) = ch e f g := by
  unfold ch
  apply Nat.eq_of_testBit_eq
  intro i
  simp only [Nat.testBit_or, Nat.testBit_and, Nat.testBit_xor, not_bit e i he]
  by_cases hi : i < 32
  · simp only [hi, decide_true, Bool.true_and]
    cases e.testBit i <;> cases f.testBit i <;> cases g.testBit i <;> rfl
  · rw [high_bit e i he hi, high_bit f i hf hi, high_bit g i hg hi]; simp
theorem maj_doc (a b c : Nat) : (a &&& b) ||| (a &&& c) ||| (b &&& c) = maj a b c := by
  unfold maj
  apply Nat.eq_of_testBit_eq
  intro i
  simp only [Nat.testBit_or, Nat.testBit_and, Nat.testBit_xor]
  cases a.testBit i <;> cases b.testBit i <;> cases c.testBit i <;> rfl
theorem rx_facts (e f g : Nat) (he : e < 4294967296) (hf : f < 4294967296) (hg : g < 4294967296) : ∃ r6 r11 r25 n1 E p1 p2 C : Nat, rotr e 6 = r6 ∧ rotr e 11 = r11 ∧ rotr e 25 = r25 ∧
    bits BinOp.xor IntKind.i64 (r6 : Int) (r11 : Int) = (n1 : Int) ∧ bits BinOp.xor IntKind.i64 (n1 : Int) (r25 : Int) = (E : Int) ∧ bits BinOp.and IntKind.i64 (e : Int) (f : Int) = (p1 : Int) ∧
    bits BinOp.and IntKind.i64 (4294967295 - (e : Int)) (g : Int) = (p2 : Int) ∧ bits BinOp.or IntKind.i64 (p1 : Int) (p2 : Int) = (C : Int) ∧ be e = E ∧ ch e f g = C ∧ E < 4294967296 ∧ C < 4294967296 := by
  have h6 := rotr_lt e 6 he; have h11 := rotr_lt e 11 he; have h25 := rotr_lt e 25 he
  have hn := xor_lt h6 h11
  have hp1 : e &&& f < 4294967296 := and_lt he
  have hp2 : (4294967295 - e) &&& g < 4294967296 := and_lt (by omega)
  refine ⟨_, _, _, _, _, _, _, _, rfl, rfl, rfl, i64_xor _ _ (by omega) (by omega), i64_xor _ _ (by omega) (by omega), i64_and _ _ (by omega) (by omega), ?_, i64_or _ _ (by omega) (by omega), rfl, (ch_doc e f g he hf hg).symm, be_lt e he, or_lt hp1 hp2⟩
  rw [show (4294967295 - (e : Int)) = ((4294967295 - e : Nat) : Int) by omega, i64_and _ _ (by omega) (by omega)]
theorem ry_facts (a b c : Nat) (ha : a < 4294967296) (hb : b < 4294967296) (hc : c < 4294967296) : ∃ r2 r13 r22 n1 A p1 p2 p3 p4 M : Nat, rotr a 2 = r2 ∧ rotr a 13 = r13 ∧ rotr a 22 = r22 ∧
    bits BinOp.xor IntKind.i64 (r2 : Int) (r13 : Int) = (n1 : Int) ∧ bits BinOp.xor IntKind.i64 (n1 : Int) (r22 : Int) = (A : Int) ∧ bits BinOp.and IntKind.i64 (a : Int) (b : Int) = (p1 : Int) ∧
    bits BinOp.and IntKind.i64 (a : Int) (c : Int) = (p2 : Int) ∧ bits BinOp.or IntKind.i64 (p1 : Int) (p2 : Int) = (p3 : Int) ∧ bits BinOp.and IntKind.i64 (b : Int) (c : Int) = (p4 : Int) ∧ bits BinOp.or IntKind.i64 (p3 : Int) (p4 : Int) = (M : Int) ∧
    ba a = A ∧ maj a b c = M ∧ A < 4294967296 ∧ M < 4294967296 := by
  have h2 := rotr_lt a 2 ha; have h13 := rotr_lt a 13 ha; have h22 := rotr_lt a 22 ha
  have hn := xor_lt h2 h13
  have q1 : a &&& b < 4294967296 := and_lt ha
  have q2 : a &&& c < 4294967296 := and_lt ha
  have q3 := or_lt q1 q2
  have q4 : b &&& c < 4294967296 := and_lt hb
  exact ⟨_, _, _, _, _, _, _, _, _, _, rfl, rfl, rfl, i64_xor _ _ (by omega) (by omega), i64_xor _ _ (by omega) (by omega), i64_and _ _ (by omega) (by omega), i64_and _ _ (by omega) (by omega), i64_or _ _ (by omega) (by omega), i64_and _ _ (by omega) (by omega), i64_or _ _ (by omega) (by omega), rfl, (maj_doc a b c).symm, ba_lt a ha, or_lt q3 q4⟩

theorem wrp (n : Int) (h0 : 0 ≤ n) (h1 : n ≤ 4611686018427387904) : IntKind.i64.wrap n = n := i64_wraps _ h0 (by omega)
theorem tm (a b : Nat) : ((a : Int) + (b : Int)).tmod 4294967296 = (((a + b) % 4294967296 : Nat) : Int) := by rw [Int.tmod_eq_emod_of_nonneg (by omega)]; omega
theorem rnd_doc (a b c d e f g h k w X Y E C A M : Nat) (hE : be e = E) (hC : ch e f g = C) (hA : ba a = A) (hM : maj a b c = M) (hX : X = h + E + C + k + w) (hY : Y = A + M) :
    rnd [a, b, c, d, e, f, g, h] k w = [(X + Y) % 4294967296, a, b, c, (d + X) % 4294967296, e, f, g] := by
  subst hE hC hA hM hX hY
  simp only [rnd]

set_option maxHeartbeats 8000000 in
set_option maxRecDepth 100000 in
set_option maxHeartbeats 4000000 in
theorem add8_length {a b : List Nat} (ha : a.length = 8) (hb : b.length = 8) : (add8 a b).length = 8 := by simp [add8, ha, hb]
theorem add8_snoc {a b : List Nat} (ha : a.length = 8) (hb : b.length = 8) {k : Nat} (hk : k < 8) : i64s ((add8 a b).take (k + 1)) = i64s ((add8 a b).take k) ++ [.int .i64 (((a.getD k 0 + b.getD k 0) % 4294967296 : Nat) : Int)] := by
  have hl := add8_length ha hb
  rw [← add8_get ha hb k hk, List.take_add_one, List.getElem?_eq_getElem (by omega)]
  simp only [i64s, List.map_append, Option.toList, List.map_cons, List.map_nil, List.getD, List.getElem?_eq_getElem (show k < (add8 a b).length by omega), Option.getD]
set_option maxHeartbeats 8000000 in
set_option maxRecDepth 100000 in
theorem refstep_any (hA wA kA : Option Addr) (hc wc kc : Nat) (hv wl : List Nat) (w : World) (B : Nat) (hB : B ≤ w.heap.size) (h8 : Eight hv) (hwl : wl.length = 64) (hwf : Fit wl)
    (rh : RdV w (fun k => k < B) hA (i64s hv)) (rw_ : RdV w (fun k => k < B) wA (i64s wl)) (rk : RdV w (fun k => k < B) kA (i64s kw)) :
    Calls Tryz.prog 75 #[.slice hA 8 hc, .slice wA 64 wc, .slice kA 64 kc] w fun e w' => ∃ v, e = .returned v ∧ OwnV w' 3 w.heap.size v (i64s (add8 hv (rnds hv wl 64))) ∧ Below w.heap.size w w' := by
  have hh8 := h8.len
  obtain ⟨ha, rfl, hab, hac⟩ := rh (by rw [i64s_length, hh8]; omega)
  obtain ⟨wa, rfl, wab, wac⟩ := rw_ (by rw [i64s_length, hwl]; omega)
  obtain ⟨ka, rfl, kab, kac⟩ := rk (by rw [i64s_length, kw_length]; omega)
  have hOe : OwnV (w.alloc (.cells #[] 3)) 3 w.heap.size (.slice (some ⟨w.heap.size, 0, none⟩) 0 0) [] := OwnV.row (xs := []) (heap_alloc_new w _) (Nat.le_refl _) rfl (by omega)
  have hbe := (Below.refl w.heap.size w).alloc (Nat.le_refl _) (.cells #[] 3)
  have hse := hbe.size
  have hsrc : 0 < 8 → ∃ ad, (some ha : Option Addr) = some ad ∧ ∀ j u, (i64s hv)[j]? = some u → (w.alloc (.cells #[] 3)).cell? (ad.add j) = some u := fun _ => ⟨ha, rfl, fun j u hj => by
    rw [World.cell?_alloc_lt w _ _ (by rw [add_block]; have : ha.block < B := hab; omega)]; exact hac j u hj⟩
  have HSRC := Lib.hid hsrc
  have HL := Lib.hid hh8
  have HWL := Lib.hid hwl
  have HAC := Lib.hid hac
  have HWC := Lib.hid wac
  have HKC := Lib.hid kac
  clear hsrc hh8 hwl hac wac kac rh rw_ rk
  go_enter Tryz.func75, Tryz.ntmps75
  go_wp2_with (with_reducible refine at_slot 19 ?_
               refine wpList_append_v eli rfl (.tmp 17) (.tmp 18) rfl w.heap.size _ [] _ 8 hc (i64s hv) rfl rfl hOe (by rw [i64s_length]; exact HL.out) HSRC.out (i64s_one _) (by simp) (by simp) hse ?_
               intro v2 w2 hO2 hg2 hat2
               rw [List.nil_append] at hO2
               have hb2 := hbe.grown hg2 hse (fun x hx => (hOe.lt x hx).1)
               clear hg2 hat2)
  have hO0 : OwnV w2 3 w.heap.size v2 (i64s (rnds hv wl 0)) := hO2
  go_loopw [7, 8] (fun v i wr => ∃ t : Nat, t ≤ 64 ∧ i = .int .i64 t ∧ OwnV wr 3 w.heap.size v (i64s (rnds hv wl t)) ∧ Below w.heap.size w wr) (fun _ i _ => 64 - (intOf i).toNat)
  case atStart => exact ⟨0, by omega, rfl, hO0, hb2⟩
  case round =>
    obtain ⟨t, ht, rfl, hO, hbr⟩ := hrel
    clear hO0 hO2 hb2
    have h8r := rnds_eight h8 wl t
    obtain ⟨ra, rb, rc, rd, re, rf, rg, rh, er, la, lb, lc, ld, le, lf, lg, lh⟩ := h8r.parts
    by_cases hlt : t < 64
    · have hnx : rnds hv wl (t+1) = rnd (rnds hv wl t) (kw.getD t 0) (wl.getD t 0) := rfl
      rw [er] at hO hnx
      have hO' : OwnV wr 3 w.heap.size _ [.int .i64 (ra : Int), .int .i64 (rb : Int), .int .i64 (rc : Int), .int .i64 (rd : Int), .int .i64 (re : Int), .int .i64 (rf : Int), .int .i64 (rg : Int), .int .i64 (rh : Int)] := hO
      obtain ⟨g, off, c8, rfl, hc8, hgb, hgl, v0, v1, v2, v3, v4, v5, v6, v7⟩ := OwnV.eight hO'
      have hkt := kw_fit.get t
      have hwt := hwf.get t
      have ck : wr.cell? (ka.add t) = some (.int .i64 ((kw.getD t 0 : Nat) : Int)) := (hbr.cell (by rw [add_block]; have : ka.block < B := kab; omega)).trans (HKC.out t _ (i64s_get (by rw [kw_length]; exact hlt)))
      have cw : wr.cell? (wa.add t) = some (.int .i64 ((wl.getD t 0 : Nat) : Int)) := (hbr.cell (by rw [add_block]; have : wa.block < B := wab; omega)).trans (HWC.out t _ (i64s_get (by rw [HWL.out]; exact hlt)))
      generalize kw.getD t 0 = kt at *
      generalize wl.getD t 0 = wt at *
      obtain ⟨r6, r11, r25, n1, E, p1, p2, C, e6, e11, e25, q1, q2, q3, q4, q5, eE, eC, lE, lC⟩ := rx_facts re rf rg le lf lg
      obtain ⟨r2, r13, r22, m1, A1, s1, s2, s3, s4, M1, e2, e13, e22, z1, z2, z3, z4, z5, z6, z7, eA, eM, lA, lM⟩ := ry_facts ra rb rc la lb lc
      have X6 := Lib.hid (fun w => (show Calls Tryz.prog 87 #[.int .i64 (re : Int), .int .i64 6] w fun e w' => e = .returned (.int .i64 (r6 : Int)) ∧ ∃ n, w' = w.drewN n from by rw [← e6]; exact refright6 re le w))
      have X11 := Lib.hid (fun w => (show Calls Tryz.prog 87 #[.int .i64 (re : Int), .int .i64 11] w fun e w' => e = .returned (.int .i64 (r11 : Int)) ∧ ∃ n, w' = w.drewN n from by rw [← e11]; exact refright11 re le w))
      have X25 := Lib.hid (fun w => (show Calls Tryz.prog 87 #[.int .i64 (re : Int), .int .i64 25] w fun e w' => e = .returned (.int .i64 (r25 : Int)) ∧ ∃ n, w' = w.drewN n from by rw [← e25]; exact refright25 re le w))
      have X2 := Lib.hid (fun w => (show Calls Tryz.prog 87 #[.int .i64 (ra : Int), .int .i64 2] w fun e w' => e = .returned (.int .i64 (r2 : Int)) ∧ ∃ n, w' = w.drewN n from by rw [← e2]; exact refright2 ra la w))
      have X13 := Lib.hid (fun w => (show Calls Tryz.prog 87 #[.int .i64 (ra : Int), .int .i64 13] w fun e w' => e = .returned (.int .i64 (r13 : Int)) ∧ ∃ n, w' = w.drewN n from by rw [← e13]; exact refright13 ra la w))
      have X22 := Lib.hid (fun w => (show Calls Tryz.prog 87 #[.int .i64 (ra : Int), .int .i64 22] w fun e w' => e = .returned (.int .i64 (r22 : Int)) ∧ ∃ n, w' = w.drewN n from by rw [← e22]; exact refright22 ra la w))
      have EE := Lib.hid eE
      have EC := Lib.hid eC
      have EA := Lib.hid eA
      have EM := Lib.hid eM
      have HNX := Lib.hid hnx
      have HBR := Lib.hid hbr
      have w1 : IntKind.i64.wrap (4294967295 - (re : Int)) = 4294967295 - (re : Int) := wrp _ (by omega) (by omega)
      have w2 : IntKind.i64.wrap ((rh : Int) + (E : Int)) = (rh : Int) + (E : Int) := wrp _ (by omega) (by omega)
      have w3 : IntKind.i64.wrap ((rh : Int) + (E : Int) + (C : Int)) = (rh : Int) + (E : Int) + (C : Int) := wrp _ (by omega) (by omega)
      have w4 : IntKind.i64.wrap ((rh : Int) + (E : Int) + (C : Int) + (kt : Int)) = (rh : Int) + (E : Int) + (C : Int) + (kt : Int) := wrp _ (by omega) (by omega)
      have w5 : IntKind.i64.wrap ((rh : Int) + (E : Int) + (C : Int) + (kt : Int) + (wt : Int)) = (rh : Int) + (E : Int) + (C : Int) + (kt : Int) + (wt : Int) := wrp _ (by omega) (by omega)
      have i0 : (0 : Int) ≤ (t : Int) := by omega
      have i1 : (t : Int) < 64 := by omega
      clear e6 e11 e25 e2 e13 e22 eE eC eA eM hnx hbr hO hO' er
      go_wp2_with fail
      go_quiet (fail)
      go_wp2_with fail
      generalize hwq : wr.drewN nq = wq
      have hcq : ∀ p, wq.cell? p = wr.cell? p := fun p => by rw [← hwq]; rfl
      have HBQ := Lib.hid (HBR.out.trans (below_drewN w.heap.size wr nq))
      rw [hwq] at HBQ
      replace v1 := (hcq _).trans v1
      replace v2 := (hcq _).trans v2
      replace v3 := (hcq _).trans v3
      replace v5 := (hcq _).trans v5
      replace v6 := (hcq _).trans v6
      replace v7 := (hcq _).trans v7
      replace ck := (hcq _).trans ck
      replace cw := (hcq _).trans cw
      clear hwq hcq
      go_quiet ((first | with_reducible exact Calls.quiet_of (X6.out _) | with_reducible exact Calls.quiet_of (X11.out _) | with_reducible exact Calls.quiet_of (X25.out _)))
      obtain ⟨X, hX⟩ : ∃ X : Nat, X = rh + E + C + kt + wt := ⟨_, rfl⟩
      rw [show ((rh : Int) + (E : Int) + (C : Int) + (kt : Int) + (wt : Int)) = (X : Int) by rw [hX]; omega]
      have lX : X < 21474836480 := by omega
      have HX := Lib.hid hX
      clear hX w2 w3 w4 w5 q1 q2 q3 q4 q5 ck cw v7
      generalize hwq : wq.drewN nq = wq2
      have hcq : ∀ p, wq2.cell? p = wq.cell? p := fun p => by rw [← hwq]; rfl
      have HBQ2 := Lib.hid (HBQ.out.trans (below_drewN w.heap.size wq nq))
      rw [hwq] at HBQ2
      replace v1 := (hcq _).trans v1
      replace v2 := (hcq _).trans v2
      replace v3 := (hcq _).trans v3
      replace v5 := (hcq _).trans v5
      replace v6 := (hcq _).trans v6
      clear hwq hcq
      go_wp2_with fail
      go_quiet (fail)
      generalize hwq : wq2.drewN nq = wq3
      have hcq : ∀ p, wq3.cell? p = wq2.cell? p := fun p => by rw [← hwq]; rfl
      have HBQ3 := Lib.hid (HBQ2.out.trans (below_drewN w.heap.size wq2 nq))
      rw [hwq] at HBQ3
      replace v1 := (hcq _).trans v1
      replace v2 := (hcq _).trans v2
      replace v3 := (hcq _).trans v3
      replace v5 := (hcq _).trans v5
      replace v6 := (hcq _).trans v6
      clear hwq hcq
      go_wp2_with (first
        | (with_reducible refine (X2.out _).mono ?_; rintro e w' ⟨rfl, n2, rfl⟩)
        | (with_reducible refine (X13.out _).mono ?_; rintro e w' ⟨rfl, n13, rfl⟩)
        | (with_reducible refine (X22.out _).mono ?_; rintro e w' ⟨rfl, n22, rfl⟩))
      obtain ⟨Y, hY⟩ : ∃ Y : Nat, Y = A1 + M1 := ⟨_, rfl⟩
      rw [show ((A1 : Int) + (M1 : Int)) = (Y : Int) by rw [hY]; omega]
      have lY : Y < 8589934592 := by omega
      have HY := Lib.hid hY
      clear hY z1 z2 z3 z4 z5 z6 z7
      generalize hwq : wq3.drewN (n2 + n13 + n22) = wq4
      have hcq : ∀ p, wq4.cell? p = wq3.cell? p := fun p => by rw [← hwq]; rfl
      have hbq4 := HBQ3.out.trans (below_drewN w.heap.size wq3 (n2 + n13 + n22))
      rw [hwq] at hbq4
      have hs4 := hbq4.size
      have HBQ4 := Lib.hid hbq4
      replace v1 := (hcq _).trans v1
      replace v2 := (hcq _).trans v2
      replace v3 := (hcq _).trans v3
      replace v5 := (hcq _).trans v5
      replace v6 := (hcq _).trans v6
      clear hwq hcq hbq4
      refine wp_region_still_tail 24 (by kernel_rfl) (by kernel_rfl) ?_
      change wpStill _ _ (World.drew wq4) (fun a' => wpList _ _ _ _ a' (World.drew wq4)) _ _
      simp only [List.take_succ_cons, List.take_zero, List.drop_succ_cons, List.drop_zero]
      repeat still_step
      refine wpStill_nil ?_
      go_wp2_with fail
      go_roundw
      case rel =>
        refine ⟨t + 1, by omega, by go_num, ?_, HBQ4.out.drew.alloc hs4 _⟩
        rw [HNX.out, rnd_doc _ _ _ _ _ _ _ _ _ _ X Y E C A1 M1 EE.out EC.out EA.out EM.out HX.out HY.out, sum2 X Y, sum2 rd X]
        exact OwnV.row (heap_alloc_new _ _) hs4 rfl (by omega)
      case measure => simp [intOf]; omega
    · have e64 : t = 64 := by omega
      subst e64
      have hcells : ∀ i, i < 8 → wr.cell? (ha.add i) = some (.int .i64 ((hv.getD i 0 : Nat) : Int)) := fun i hi => (hbr.cell (by rw [add_block]; have : ha.block < B := hab; omega)).trans (HAC.out i _ (i64s_get (by rw [HL.out]; exact hi)))
      have h8s := rnds_eight h8 wl 64
      generalize hrs : rnds hv wl 64 = rs at *
      have HRS := Lib.hid hrs
      have hrl := h8s.len
      obtain ⟨Ar, cr, rfl, hcr, _⟩ := OwnV.lenN (n := 8) hO (by rw [i64s_length, hrl])
      have hOr := OwnV.rdv hO
      obtain ⟨ar, rfl, har, harc⟩ := hOr (by rw [i64s_length, hrl]; omega)
      have HRL := Lib.hid hrl
      have HARC := Lib.hid harc
      have HCE := Lib.hid hcells
      have hs1 := hbr.size
      clear hO hrl hrs hOr harc hcells er
      obtain ⟨w1, rfl⟩ : ∃ w1 : World, w1 = wr := ⟨_, rfl⟩
      rw [show ((64 : Nat) : Int) = 64 from rfl]
      go_wp2
      have hO1 : OwnV w1 3 w1.heap.size (.slice none 0 0) (i64s ((add8 hv rs).take 0)) := OwnV.nil _ _ _
      have hb1 := Below.refl w1.heap.size w1
      go_loopw [15, 16] (fun v i wr => ∃ k : Nat, k ≤ 8 ∧ i = .int .i64 k ∧ OwnV wr 3 w1.heap.size v (i64s ((add8 hv rs).take k)) ∧ Below w1.heap.size w1 wr) (fun _ i _ => 8 - (intOf i).toNat)
      case atStart => exact ⟨0, by omega, rfl, hO1, hb1⟩
      case round =>
        obtain ⟨k, hk, rfl, hO, hb⟩ := hrel
        clear hO1 hb1
        by_cases hlt8 : k < 8
        · have c1 : w1.cell? (ha.add k) = some (.int .i64 ((hv.getD k 0 : Nat) : Int)) := HCE.out k hlt8
          have c2 : w1.cell? (ar.add k) = some (.int .i64 ((rs.getD k 0 : Nat) : Int)) := HARC.out k _ (i64s_get (by rw [HRL.out]; exact hlt8))
          have v1 : wr.cell? (ha.add k) = some (.int .i64 ((hv.getD k 0 : Nat) : Int)) := (hb.cell (by rw [add_block]; have : ha.block < B := hab; omega)).trans c1
          have v2 : wr.cell? (ar.add k) = some (.int .i64 ((rs.getD k 0 : Nat) : Int)) := (hb.cell (by rw [add_block]; omega)).trans c2
          have hfa := h8.fit.get k
          have hfs := h8s.fit.get k
          have hsnoc := add8_snoc HL.out HRL.out hlt8
          obtain ⟨Av, cv, rfl, hcv, _⟩ := OwnV.lenN (n := k) hO (by rw [i64s_length, List.length_take, add8_length HL.out HRL.out]; omega)
          have HCC := Lib.hid (fun W (hbW : Below w1.heap.size w1 W) => And.intro ((hbW.cell (p := ha.add k) (by rw [add_block]; have : ha.block < B := hab; omega)).trans c1) ((hbW.cell (p := ar.add k) (by rw [add_block]; omega)).trans c2))
          clear c1 c2
          generalize hv.getD k 0 = x at *
          generalize rs.getD k 0 = y at *
          have s1 := wrp ((x : Int) + (y : Int)) (by omega) (by omega)
          have s2 := tm x y
          have s3 := sum2 x y
          obtain ⟨z, hz⟩ : ∃ z : Nat, z = (x + y) % 4294967296 := ⟨_, rfl⟩
          rw [← hz] at s2 s3 hsnoc
          have HZ := Lib.hid hz
          have HSN := Lib.hid hsnoc
          have i0 : (0 : Int) ≤ (k : Int) := by omega
          have i1 : (k : Int) < 8 := by omega
          generalize hll : i64s ((add8 hv rs).take k) = ll at *
          have hlk : ll.length = k := by rw [← hll, i64s_length, List.length_take, add8_length HL.out HRL.out]; omega
          have HLK := Lib.hid hlk
          have v1 : wr.drew.cell? (ha.add k) = some (.int .i64 (x : Int)) := v1
          have v2 : wr.drew.cell? (ar.add k) = some (.int .i64 (y : Int)) := v2
          replace hO : OwnV wr.drew 3 w1.heap.size (.slice Av k cv) ll := OwnV.drew hO
          replace hb : Below w1.heap.size w1 wr.drew := hb.drew
          have hOa := OwnV.alloc hO (.cells #[.int .i64 (z : Int)] 3)
          have hba := hb.alloc hb.size (.cells #[.int .i64 (z : Int)] 3)
          have hsa := hba.size
          have hsrc : 0 < 1 → ∃ ad, (some ⟨wr.drew.heap.size, 0, none⟩ : Option Addr) = some ad ∧ ∀ j u, [Value.int .i64 (z : Int)][j]? = some u → (wr.drew.alloc (.cells #[.int .i64 (z : Int)] 3)).cell? (ad.add j) = some u := fun h0 => by
            obtain ⟨ad, e1, _, e2⟩ := OwnV.rdv (OwnV.row (base := 0) (xs := [Value.int .i64 (z : Int)]) (heap_alloc_new wr.drew _) (Nat.zero_le _) (n := 1) rfl (by omega)) h0
            exact ⟨ad, e1, e2⟩
          have HSRC2 := Lib.hid hsrc
          have HOA := Lib.hid hOa
          have HBA := Lib.hid hba
          clear hz hsnoc hlk hll hO hb hOa hba hsrc hfa hfs
          go_wp2_with fail
          go_region_held3 (fun w' => w'.cell? (ha.add k) = some (.int .i64 (x : Int)) ∧ w'.cell? (ar.add k) = some (.int .i64 (y : Int))) (first | exact ⟨v1, v2⟩ | exact ⟨d1, d2⟩ | go_keep)
            ((refine step_append_v eli (by rfl) (.tmp 124) (.tmp 135) rfl w1.heap.size _ ll _ 1 1 [.int .i64 (z : Int)] rfl rfl HOA.out rfl HSRC2.out (by intro u hu; simp only [List.mem_singleton] at hu; subst hu; rfl) (by rw [HLK.out]; omega) (by rw [HLK.out]; omega) hsa ?_
              intro v2 w2 hO2 hg2 hat2
              obtain ⟨A2, c2, rfl, hc2, _⟩ := OwnV.lenN (n := k + 1) hO2 (by rw [List.length_append, HLK.out]; rfl)
              have hb2 := HBA.out.grown hg2 hsa (fun x hx => (OwnV.lt HOA.out x hx).1)
              obtain ⟨d1, d2⟩ := HCC.out _ hb2))
          go_wp2_with fail
          go_roundw
          case rel => exact ⟨k + 1, by omega, by go_num, by rw [HSN.out]; exact hO2, hb2⟩
          case measure => simp [intOf]; omega
        · have e8 : k = 8 := by omega
          subst e8
          rw [List.take_of_length_le (by rw [add8_length HL.out HRL.out]; omega)] at hO
          have hO' := OwnV.mono (base' := w.heap.size) hO (fun j hj => by have := (OwnV.lt hO j hj).1; omega)
          have hbb := hbr.trans (hb.mono hs1)
          clear hO hb
          go_wp2
          go_ret
          refine ⟨_, rfl, ?_, hbb⟩
          rw [HRS.out]
          exact hO'
end Go.Proofs.YtcbihjcnnfohmaaGreat.Sha
