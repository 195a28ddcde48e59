/- Queues behind a pointer: contracts of New, Put, Count, Drop, Slot, Next. -/
import Derived.Test.YtjlmgniachdfgaaSlMem
import Derived.Test.YtjlmgniachdfgaaLast
import Derived.Test.YtjlmgniachdfgaaBClone
import Derived.Test.YtjlmgniachdfgaaBits
import Derived.Deep.RegionHeld3
import Derived.Laws.LoneSync
import Derived.StillTailTactics
import Derived.BigQuiet
namespace Go.Proofs.Ytjlmgniachdfgaa.Slots
open Go Go.ChangeShapes Go.WideShapes Go.ChangeAt Go.RowKit
set_option linter.unusedVariables false
set_option linter.unusedSimpArgs false

theorem vlen {w : World} {e : TypeId} {base n : Nat} {v : Value} {xs : List Value} (h : OwnV w e base v xs) (hn : xs.length = n) : ∃ A c, v = .slice A n c ∧ n ≤ c ∧ c ≤ 9223372036854775807 := by
  subst hn
  obtain ⟨A, c, h1, h2, h3, _⟩ := h.len
  exact ⟨A, c, h1, h2, h3⟩
theorem results_four {fn : Func} {t u v x : Tmp} (h : fn.results = #[.tmp t, .tmp u, .tmp v, .tmp x]) (tmps : Array Value) (P : Program) (w : World) :
    (results fn tmps).run P w = .ok (.tuple #[tmps.getD t undef, tmps.getD u undef, tmps.getD v undef, tmps.getD x undef]) w := by simp [results, h]
theorem eqq : El Try.prog 51 22 (.slice none 0 0) 24 := ⟨Try.underlying51, by kernel_rfl, rfl⟩
/-- 'make([]E, n)', elements of one cell -/
theorem wpList_make_el {P : Program} {t e : TypeId} {z : Value} {bytes : Nat} (hE : El P t e z bytes) (hz : z.cells = #[z]) {w : World} {ops : Array Oper} {rest : List Oper} {o : Oper} {a : Act} {Q : Exit → Act → World → Prop}
    (hg : Region.wanted o (yielded ops a.tmps) = true) (l c : Operand) (hop : o.op = Op.makeSlice t l c) (L : Int) (n : Nat) (hl : a.eval l = .int .i64 L) (hc : a.eval c = .int .i64 L) (hL : L = (n : Int)) (hm : (bytes : Int) * (n : Int) ≤ 1048576) (hm2 : n ≤ 1048576)
    (hK : wpList P ops Q rest (a.put o.dst (.slice (some ⟨w.heap.size, 0, none⟩) n n)) (w.alloc (.cells (List.replicate n z).toArray e))) :
    wpList P ops Q (o :: rest) a w := by
  refine wpList_wanted hg fun K hK' => ?_
  subst hL
  obtain ⟨i, hi, hz0, hz1, hz2⟩ := info_parts hE.info
  have hr := run_make (P := P) w t e i z hE.slice hi hz0 .i64 .i64 n n (by omega) (by omega) (by rw [hz2]; exact Int.le_trans hm (by omega)) (by omega)
  rw [hz1] at hr
  simp only [Int.toNat_natCast, Nat.mul_one] at hr
  have hmd : madeCells z.cells n = (List.replicate n z).toArray := by
    rw [hz]
    apply Array.toList_inj.1
    rw [toList_madeCells_one]
  rw [hmd] at hr
  unfold Oper.wp
  simp [execOp, hop, hl, hc, hr, Result.andThen]
  exact hK' _ _ hK
theorem map_const (n : Nat) (z : Value) : (List.range n).map (fun _ => z) = List.replicate n z := by rw [List.map_const', List.length_range]
set_option maxRecDepth 100000 in
set_option maxHeartbeats 1000000 in
theorem new_yes (n : Nat) (h1 : 1 ≤ n) (h64 : n ≤ 64) (w : World) :
    Calls Try.prog 9 #[.int .i64 (n : Int)] w fun e w' => ∃ g tag, e = .returned (.tuple #[.pointer (some ⟨g, 0, none⟩), .int .i64 0]) ∧ Sl w' w.heap.size tag g n 0 (fun _ => []) ∧ Below w.heap.size w w' := by
  go_enter Try.func9, Try.ntmps9
  go_wp2_with (with_reducible refine at_slot 12 ?_
               refine wpList_make_el eqq rfl rfl (.tmp 11) (.tmp 11) rfl _ (n + 1) rfl rfl (by push_cast; rfl) (by omega) (by omega) ?_)
  go_ret2
  refine ⟨w.heap.size + 1, fun k => if k = w.heap.size + 1 then some (0, 0, 0) else if k = w.heap.size then some (1, 0, 0) else none, rfl, ⟨w.heap.size, fun _ => .slice none 0 0, fun _ => [], fun _ => 0, ?_⟩, ((Below.refl _ _).alloc (Nat.le_refl _) _).alloc (by simp) _⟩
  refine ⟨?_, ?_, by simp, by simp, (fun t ht => OwnV.nil _ _ _), (fun t k ht e => by cases e), (fun t ht => rfl), (fun t i l ht hl => by simp at hl), (fun k hk => ?_)⟩
  · have := heap_alloc_new (w.alloc (.cells (List.replicate (n + 1) (Value.slice none 0 0)).toArray 22)) (.cells [Value.slice (some ⟨w.heap.size, 0, none⟩) (n + 1) (n + 1), .int .i64 ((0 : Nat) : Int)].toArray 58)
    rw [show (w.alloc (.cells (List.replicate (n + 1) (Value.slice none 0 0)).toArray 22)).heap.size = w.heap.size + 1 by simp] at this
    exact this
  · rw [map_const]
    exact (heap_alloc_old _ _ (by simp)).trans (heap_alloc_new w _)
  · simp only [World.size_alloc] at *
    by_cases e1 : k = w.heap.size + 1
    · subst e1; simp
    · by_cases e2 : k = w.heap.size
      · subst e2; simp; omega
      · simp [e1, e2] at hk
set_option maxRecDepth 100000 in
set_option maxHeartbeats 1000000 in
theorem new_no (n : Int) (h : n < 1 ∨ 64 < n) (w : World) :
    Calls Try.prog 9 #[.int .i64 n] w fun e w' => e = .returned (.tuple #[.pointer none, .int .i64 1]) ∧ w = w' := by
  rcases h with h | h
  · go_enter Try.func9, Try.ntmps9
    go_wp2
    go_ret2
    exact ⟨rfl, rfl⟩
  · have h0 : ¬ n < 1 := by omega
    go_enter Try.func9, Try.ntmps9
    go_wp2
    go_ret2
    exact ⟨rfl, rfl⟩
def isT (n : Nat) (t : Int) : Bool := decide (1 ≤ t) && decide (t ≤ (n : Int))
set_option maxRecDepth 100000 in
set_option maxHeartbeats 1000000 in
theorem is_any (g gq n : Nat) (x : Value) (t : Int) (w : World) (hr : RowV w 58 g [.slice (some ⟨gq, 0, none⟩) (n + 1) (n + 1), x]) (hn : n ≤ 64) :
    Calls Try.prog 23 #[.pointer (some ⟨g, 0, none⟩), .int .i64 t] w fun e w' => e = .returned (.bool (isT n t)) ∧ w = w' := by
  have hc := hr.cell (i := 0) rfl
  clear hr
  by_cases h1 : t < 1
  · have hi : isT n t = false := by unfold isT; simp; omega
    have HI := Lib.hid hi
    clear hi
    go_enter Try.func23, Try.ntmps23
    go_wp2
    go_ret
    exact ⟨congrArg (fun b => Ending.returned (.bool b)) HI.out.symm, rfl⟩
  · have h1' : 1 ≤ t := by omega
    by_cases h2 : t < (n : Int) + 1
    · have hi : isT n t = true := by unfold isT; simp; omega
      have HI := Lib.hid hi
      clear hi
      go_enter Try.func23, Try.ntmps23
      go_wp2
      go_ret
      exact ⟨congrArg (fun b => Ending.returned (.bool b)) HI.out.symm, rfl⟩
    · have hi : isT n t = false := by unfold isT; simp; omega
      have HI := Lib.hid hi
      have h3 : (n : Int) + 1 ≤ t := by omega
      clear hi
      go_enter Try.func23, Try.ntmps23
      go_wp2
      go_ret
      exact ⟨congrArg (fun b => Ending.returned (.bool b)) HI.out.symm, rfl⟩
/-- what a queue has: how many -/
def cnt (n : Nat) (q : Qs) (t : Int) : Nat := if isT n t then (q t.toNat).length else 0
theorem isT_yes {n : Nat} {t : Int} (h : isT n t = true) : ∃ k : Nat, t = (k : Int) ∧ 1 ≤ k ∧ k ≤ n := by
  unfold isT at h
  simp only [Bool.and_eq_true, decide_eq_true_eq] at h
  exact ⟨t.toNat, by omega, by omega, by omega⟩
set_option maxRecDepth 100000 in
set_option maxHeartbeats 1000000 in
theorem count_any (base : Nat) (tag : Tags) (g n K : Nat) (q : Qs) (t : Int) (w : World) (hn : n ≤ 64) (h : Sl w base tag g n K q) :
    Calls Try.prog 12 #[.pointer (some ⟨g, 0, none⟩), .int .i64 t] w fun e w' => e = .returned (.int .i64 (cnt n q t : Int)) ∧ w = w' := by
  obtain ⟨gq, vs, iv, c, hx⟩ := h
  have HOB := Lib.hid hx.obj
  cases hi : isT n t with
  | false =>
    have hc : cnt n q t = 0 := by unfold cnt; rw [hi]; rfl
    rw [hc]
    have HI := Lib.hid hi
    clear hi hx hc
    go_enter Try.func12, Try.ntmps12
    go_wp2_with fail
    refine (is_any g gq n _ t w HOB.out hn).mono ?_
    rw [HI.out]
    rintro e w1 ⟨rfl, rfl⟩
    go_wp2_with fail
    go_ret
    exact ⟨rfl, rfl⟩
  | true =>
    obtain ⟨k, rfl, hk1, hkn⟩ := isT_yes hi
    have hc : cnt n q (k : Int) = (q k).length := by unfold cnt; rw [hi]; rfl
    have c0 := hx.obj.cell (i := 0) rfl
    have c1 := hx.row hkn
    obtain ⟨A, m, cap, hv, hm⟩ : ∃ A m cap, vs k = .slice A m cap ∧ (q k).length = m := by
      obtain ⟨A, cap, h1, _⟩ := vlen (n := (q k).length) (hx.own k hkn) (hx.len k hkn)
      exact ⟨A, _, cap, h1, rfl⟩
    rw [hv] at c1
    rw [hc, hm]
    have HI := Lib.hid hi
    have k1 : (k : Int) < (n : Int) + 1 := by omega
    clear hi hx hc hv hm
    go_enter Try.func12, Try.ntmps12
    go_wp2_with fail
    refine (is_any g gq n _ (k : Int) w HOB.out hn).mono ?_
    rw [HI.out]
    rintro e w1 ⟨rfl, rfl⟩
    go_wp2_with fail
    go_ret
    exact ⟨rfl, rfl⟩
/-- after an act, its frame: what is no block of these queues stays -/
def Rest (w : World) (tag : Tags) (k : Nat) : Prop := k < w.heap.size ∧ tag k = none
theorem upd_self (q : Qs) (t : Nat) (h : q t = []) : upd q t [] = q := by
  funext j; unfold upd; split
  · rename_i e; rw [e, h]
  · rfl
set_option maxRecDepth 100000 in
set_option maxHeartbeats 1000000 in
theorem drop_any (base : Nat) (tag : Tags) (g n K : Nat) (q : Qs) (t : Int) (w : World) (hn : n ≤ 64) (h : Sl w base tag g n K q) :
    Calls Try.prog 19 #[.pointer (some ⟨g, 0, none⟩), .int .i64 t] w fun e w' => e = .returned (.int .i64 (cnt n q t : Int)) ∧ Sl w' base tag g n K (if isT n t then upd q t.toNat [] else q) ∧ w'.heap.size = w.heap.size ∧ Frame (Rest w tag) w w' := by
  have hcw := Lib.hid (count_any base tag g n K q t w hn h)
  have HS := Lib.hid h
  obtain ⟨gq, vs, iv, c, hx⟩ := h
  cases hi : isT n t with
  | false =>
    have hc : cnt n q t = 0 := by unfold cnt; rw [hi]; rfl
    have HC := Lib.hid hc
    clear hi hx hc
    go_enter Try.func19, Try.ntmps19
    go_wp2_with fail
    refine hcw.out.mono ?_
    rw [HC.out]
    rintro e w1 ⟨rfl, rfl⟩
    go_wp2_with fail
    go_ret
    exact ⟨congrArg (fun x : Nat => Ending.returned (.int .i64 (x : Int))) HC.out.symm, HS.out, rfl, Frame.refl _ _⟩
  | true =>
    obtain ⟨k, rfl, hk1, hkn⟩ := isT_yes hi
    have hc : cnt n q (k : Int) = (q k).length := by unfold cnt; rw [hi]; rfl
    rw [if_pos rfl, Int.toNat_natCast]
    by_cases h0 : (q k).length = 0
    · have hq0 : q k = [] := List.eq_nil_of_length_eq_zero h0
      rw [h0] at hc
      have HC := Lib.hid hc
      have HU := Lib.hid (upd_self q k hq0)
      clear hi hx hc h0 hq0
      go_enter Try.func19, Try.ntmps19
      go_wp2_with fail
      refine hcw.out.mono ?_
      rw [HC.out]
      rintro e w1 ⟨rfl, rfl⟩
      go_wp2_with fail
      go_ret
      exact ⟨congrArg (fun x : Nat => Ending.returned (.int .i64 (x : Int))) HC.out.symm, by rw [HU.out]; exact HS.out, rfl, Frame.refl _ _⟩
    · have c0 := hx.obj.cell (i := 0) rfl
      have c1 := hx.row hkn
      have f1 := hx.rows.frozen k
      obtain ⟨A, m, cap, hv, hm⟩ : ∃ A m cap, vs k = .slice A m cap ∧ (q k).length = m := by
        obtain ⟨A, cap, h1, _⟩ := vlen (n := (q k).length) (hx.own k hkn) (hx.len k hkn)
        exact ⟨A, _, cap, h1, rfl⟩
      rw [hv] at c1
      rw [hm] at hc h0
      have HC := Lib.hid hc
      have k1 : (k : Int) < (n : Int) + 1 := by omega
      have m1 : 0 < m := by omega
      have HX := Lib.hid (hx.drop hkn)
      have HTQ := Lib.hid hx.tq
      clear hi hx hc hv hm h0
      go_enter Try.func19, Try.ntmps19
      go_wp2_with fail
      refine hcw.out.mono ?_
      rw [HC.out]
      rintro e w1 ⟨rfl, rfl⟩
      go_wp2_with fail
      go_ret
      exact ⟨congrArg (fun x : Nat => Ending.returned (.int .i64 (x : Int))) HC.out.symm, ⟨gq, _, _, c, HX.out⟩, by simp, (Frame.refl _ _).setCell (fun hr => by have := hr.2; rw [HTQ.out] at this; cases this) _⟩
set_option maxRecDepth 100000 in
set_option maxHeartbeats 1000000 in
theorem slot_any (base : Nat) (tag : Tags) (g n K : Nat) (q : Qs) (w : World) (h : Sl w base tag g n K q) :
    Calls Try.prog 22 #[.pointer (some ⟨g, 0, none⟩)] w fun e w' => e = .returned (.int .i64 (K : Int)) ∧ w = w' := by
  obtain ⟨gq, vs, iv, c, hx⟩ := h
  have c1 := hx.obj.cell (i := 1) rfl
  have hl := run_call_load (P := Try.prog) Try.func28 (by kernel_rfl) (by kernel_rfl) (by kernel_rfl) .i64 (by kernel_rfl) c1
  clear hx
  go_enter Try.func22, Try.ntmps22
  go_wp2
  go_ret
  exact ⟨rfl, rfl⟩
/-- the next slot's act -/
def turnOf (n K : Nat) : Nat := 1 + K % n
set_option maxRecDepth 100000 in
set_option maxHeartbeats 1000000 in
theorem next_none (base : Nat) (tag : Tags) (g n K : Nat) (q : Qs) (w : World) (h1 : 1 ≤ n) (hn : n ≤ 64) (hK : K ≤ 1000000) (h : Sl w base tag g n K q) (hq : q (turnOf n K) = []) :
    Calls Try.prog 11 #[.pointer (some ⟨g, 0, none⟩)] w fun e w' => e = .returned (.tuple #[.int .i64 (K : Int), .int .i64 (turnOf n K : Int), .slice none 0 0, .bool false]) ∧ Sl w' base tag g n (K + 1) q ∧ w'.heap.size = w.heap.size ∧ Frame (Rest w tag) w w' := by
  obtain ⟨gq, vs, iv, c, hx⟩ := h
  have c1 := hx.obj.cell (i := 1) rfl
  have f1 := hx.obj.frozen 1
  have ha := run_call_add (P := Try.prog) Try.func27 (by kernel_rfl) (by kernel_rfl) (by kernel_rfl) .i64 (by kernel_rfl) (y := 1) (s := (K : Int) + 1) c1 f1 (by simp [go_sem, IntKind.wrap_i64]; omega)
  have hx2 := hx.turn (K' := K + 1)
  rw [show (((K + 1 : Nat)) : Int) = (K : Int) + 1 by push_cast; rfl] at hx2
  have hTG := hx.tg
  have hc0 := hx2.obj.cell (i := 0) rfl
  obtain ⟨r, hr⟩ : ∃ r, r = K % n := ⟨_, rfl⟩
  have hrn : r < n := by rw [hr]; exact Nat.mod_lt _ (by omega)
  have hri : (K : Int) % (n : Int) = (r : Int) := by rw [hr]; push_cast; rfl
  have htn : turnOf n K = 1 + r := by rw [hr]; rfl
  rw [htn] at hq ⊢
  have hrow := hx2.row (t := 1 + r) (by omega)
  obtain ⟨A, cap, hv, _, _⟩ := vlen (n := 0) (hx2.own (1 + r) (by omega)) (by rw [hx2.len _ (by omega), hq]; rfl)
  rw [hv] at hrow
  have r1 : (r : Int) < (n : Int) := by omega
  have HX2 := Lib.hid hx2
  have HTG := Lib.hid hTG
  have HR := Lib.hid hr
  clear hx hx2 hTG hv hq htn hr
  go_enter Try.func11, Try.ntmps11
  go_wp2
  refine bodyPost_ret (results_four rfl _ _ _) rfl ?_
  refine ⟨by simp, ⟨gq, vs, iv, c, HX2.out⟩, by simp, (Frame.refl _ _).setCell (fun hr => by have := hr.2; rw [HTG.out] at this; cases this) _⟩
/-! ### a slot that gives -/
set_option maxRecDepth 100000 in
set_option maxHeartbeats 2000000 in
theorem next_some (base : Nat) (tag : Tags) (g n K : Nat) (q : Qs) (w : World) (h1 : 1 ≤ n) (hn : n ≤ 64) (hK : K ≤ 1000000) (h : Sl w base tag g n K q) {l : List UInt8} {rest : List (List UInt8)} (hq : q (turnOf n K) = l :: rest) :
    Calls Try.prog 11 #[.pointer (some ⟨g, 0, none⟩)] w fun e w' => ∃ v tag', e = .returned (.tuple #[.int .i64 (K : Int), .int .i64 (turnOf n K : Int), v, .bool true]) ∧ Own w' 5 base v l ∧ (∀ k, v.ownBlock = some k → tag k ≠ none ∧ tag' k = none) ∧
      Sl w' base tag' g n (K + 1) (upd q (turnOf n K) rest) ∧ (∀ k, tag' k ≠ none → tag k ≠ none) ∧ w'.heap.size = w.heap.size ∧ Frame (Rest w tag) w w' := by
  obtain ⟨gq, vs, iv, c, hx⟩ := h
  have c1 := hx.obj.cell (i := 1) rfl
  have f1 := hx.obj.frozen 1
  have ha := run_call_add (P := Try.prog) Try.func27 (by kernel_rfl) (by kernel_rfl) (by kernel_rfl) .i64 (by kernel_rfl) (y := 1) (s := (K : Int) + 1) c1 f1 (by simp [go_sem, IntKind.wrap_i64]; omega)
  have hx2 := hx.turn (K' := K + 1)
  rw [show (((K + 1 : Nat)) : Int) = (K : Int) + 1 by push_cast; rfl] at hx2
  have hTG := hx.tg
  have hTQ := hx.tq
  have hgq := hx.gne
  obtain ⟨r, hr⟩ : ∃ r, r = K % n := ⟨_, rfl⟩
  have hrn : r < n := by rw [hr]; exact Nat.mod_lt _ (by omega)
  have hri : (K : Int) % (n : Int) = (r : Int) := by rw [hr]; push_cast; rfl
  have htn : turnOf n K = 1 + r := by rw [hr]; rfl
  rw [htn] at hq ⊢
  have r1 : (r : Int) < (n : Int) := by omega
  have r2 : (0 : Int) ≤ 1 + (r : Int) := by omega
  have r3 : 1 + (r : Int) < (n : Int) + 1 := by omega
  have r4 : (1 + (r : Int)).toNat = 1 + r := by omega
  obtain ⟨m, hm⟩ : ∃ m, (q (1 + r)).length = m := ⟨_, rfl⟩
  have hm0 : 0 < m := by rw [← hm, hq]; simp
  have hlen := (hx2.len (1 + r) (by omega)).trans hm
  obtain ⟨ga, off, cap, hv, hcap, hcm, hgb, hgl, hrd⟩ := (hx2.own (1 + r) (by omega)).ptr hlen hm0
  have hgag : ga ≠ gq := fun e => by have := hx.to (1 + r) ga (by omega) (by rw [hv]; rfl); rw [e, hTQ] at this; simp at this
  obtain ⟨v, hv0, hvo, hvt, hxp⟩ := hx2.pop (t := 1 + r) (by omega) hq hv
  have hv1 := hrd 0 v hv0
  rw [Nat.add_zero] at hv1
  have hblk : ∀ k, v.ownBlock = some k → tag k ≠ none ∧ (fun k => if v.ownBlock = some k then none else tag k) k = none := fun k e => ⟨by rw [hvt k e]; simp, if_pos e⟩
  obtain ⟨Av, mv, cv, rfl⟩ : ∃ A m c, v = .slice A m c := by
    obtain ⟨A, cc, hh, _, _⟩ := hvo.form
    exact ⟨A, _, cc, hh⟩
  have HBLK := Lib.hid hblk
  have HR := Lib.hid hr
  have HTG := Lib.hid hTG
  have HTQ := Lib.hid hTQ
  by_cases hc1 : cap = 1
  · subst hc1
    obtain rfl : m = 1 := by omega
    rw [if_pos rfl] at hvo hxp
    have hc0 := hx2.obj.cell (i := 0) rfl
    have hrow := hx2.row (t := 1 + r) (by omega)
    have hfr := hx2.rows.frozen (1 + r)
    rw [hv] at hrow
    have HVO := Lib.hid hvo
    have HXP := Lib.hid hxp
    clear hx hx2 hTG hTQ hv hq htn hr hm hlen hrd hv0 hvt hvo hxp hblk
    go_enter Try.func11, Try.ntmps11
    go_wp2
    refine wp_region_still_tail 8 (by kernel_rfl) (by kernel_rfl) ?_
    change wpStill _ _ (World.drew (w.setCell ⟨g, 1, none⟩ (.int .i64 ((K : Int) + 1)))) (fun a' => wpList _ _ _ _ a' (World.drew (w.setCell ⟨g, 1, none⟩ (.int .i64 ((K : Int) + 1))))) _ _
    simp only [List.take_succ_cons, List.take_zero, List.drop_succ_cons, List.drop_zero]
    repeat still_step
    refine wpStill_nil ?_
    go_wp2
    have hF : Frame (Rest w tag) w ((w.setCell ⟨g, 1, none⟩ (.int .i64 ((K : Int) + 1))).setCell ⟨gq, 1 + r, none⟩ (.slice (some ⟨ga, off, none⟩) 0 0)) := ((Frame.refl _ _).setCell (fun hr => by have := hr.2; rw [HTG.out] at this; cases this) _).setCell (fun hr => by have := hr.2; rw [HTQ.out] at this; cases this) _
    have hsz : ((w.setCell ⟨g, 1, none⟩ (.int .i64 ((K : Int) + 1))).setCell ⟨gq, 1 + r, none⟩ (.slice (some ⟨ga, off, none⟩) 0 0)).heap.size = w.heap.size := by simp
    have hvW : ((w.setCell ⟨g, 1, none⟩ (.int .i64 ((K : Int) + 1))).setCell ⟨gq, 1 + r, none⟩ (.slice (some ⟨ga, off, none⟩) 0 0)).cell? ⟨ga, off, none⟩ = some (.slice Av mv cv) := (World.cell?_setCell_other _ ⟨gq, 1 + r, none⟩ ⟨ga, off, none⟩ _ (fun e => hgag (by injection e with e; exact e.symm))).trans hv1
    generalize (w.setCell ⟨g, 1, none⟩ (.int .i64 ((K : Int) + 1))).setCell ⟨gq, 1 + r, none⟩ (.slice (some ⟨ga, off, none⟩) 0 0) = W at *
    have HF := Lib.hid hF
    have HSZ := Lib.hid hsz
    clear hF hsz hrow hfr hc0 c1 f1 ha hv1
    go_quiet (fail)
    go_wp2
    refine bodyPost_ret (results_four rfl _ _ _) rfl ?_
    exact ⟨_, _, by simp, Own.below HVO.out ((Below.refl _ _).drew.trans (below_drewN _ _ _)), HBLK.out, Sl.below_ ⟨gq, _, _, _, HXP.out⟩ ((Below.refl _ _).drew.trans (below_drewN _ _ _)), (fun k hk e => hk (by show (if _ then none else tag k) = none; rw [e]; simp)), HSZ.out, HF.out.drew.drewN _⟩
  · rw [if_neg hc1, Option.map_some, addr_add] at hvo hxp
    have e1 : (cap = 1) = False := by simp [hc1]
    have k1 : (1 : Int) ≤ (cap : Int) := by omega
    have k2 : (1 : Int) ≤ (m : Int) := by omega
    have k3 : (m : Int) ≤ (cap : Int) := by omega
    clear hc1
    have hc0 := hx2.obj.cell (i := 0) rfl
    have hrow := hx2.row (t := 1 + r) (by omega)
    have hfr := hx2.rows.frozen (1 + r)
    rw [hv] at hrow
    have HVO := Lib.hid hvo
    have HXP := Lib.hid hxp
    clear hx hx2 hTG hTQ hv hq htn hr hm hlen hrd hv0 hvt hvo hxp hblk
    go_enter Try.func11, Try.ntmps11
    go_wp2
    refine wp_region_still_tail 8 (by kernel_rfl) (by kernel_rfl) ?_
    change wpStill _ _ (World.drew (w.setCell ⟨g, 1, none⟩ (.int .i64 ((K : Int) + 1)))) (fun a' => wpList _ _ _ _ a' (World.drew (w.setCell ⟨g, 1, none⟩ (.int .i64 ((K : Int) + 1))))) _ _
    simp only [List.take_succ_cons, List.take_zero, List.drop_succ_cons, List.drop_zero]
    repeat still_step
    refine wpStill_nil ?_
    go_wp2
    have hF : Frame (Rest w tag) w ((w.setCell ⟨g, 1, none⟩ (.int .i64 ((K : Int) + 1))).setCell ⟨gq, 1 + r, none⟩ (.slice (some ⟨ga, off + 1, none⟩) (m - 1) (cap - 1))) := ((Frame.refl _ _).setCell (fun hr => by have := hr.2; rw [HTG.out] at this; cases this) _).setCell (fun hr => by have := hr.2; rw [HTQ.out] at this; cases this) _
    have hsz : ((w.setCell ⟨g, 1, none⟩ (.int .i64 ((K : Int) + 1))).setCell ⟨gq, 1 + r, none⟩ (.slice (some ⟨ga, off + 1, none⟩) (m - 1) (cap - 1))).heap.size = w.heap.size := by simp
    have hvW : ((w.setCell ⟨g, 1, none⟩ (.int .i64 ((K : Int) + 1))).setCell ⟨gq, 1 + r, none⟩ (.slice (some ⟨ga, off + 1, none⟩) (m - 1) (cap - 1))).cell? ⟨ga, off, none⟩ = some (.slice Av mv cv) := (World.cell?_setCell_other _ ⟨gq, 1 + r, none⟩ ⟨ga, off, none⟩ _ (fun e => hgag (by injection e with e; exact e.symm))).trans hv1
    generalize (w.setCell ⟨g, 1, none⟩ (.int .i64 ((K : Int) + 1))).setCell ⟨gq, 1 + r, none⟩ (.slice (some ⟨ga, off + 1, none⟩) (m - 1) (cap - 1)) = W at *
    have HF := Lib.hid hF
    have HSZ := Lib.hid hsz
    clear hF hsz hrow hfr hc0 c1 f1 ha hv1
    go_quiet (fail)
    go_wp2
    refine bodyPost_ret (results_four rfl _ _ _) rfl ?_
    exact ⟨_, _, by simp, Own.below HVO.out ((Below.refl _ _).drew.trans (below_drewN _ _ _)), HBLK.out, Sl.below_ ⟨gq, _, _, _, HXP.out⟩ ((Below.refl _ _).drew.trans (below_drewN _ _ _)), (fun k hk e => hk (by show (if _ then none else tag k) = none; rw [e]; simp)), HSZ.out, HF.out.drew.drewN _⟩
end Go.Proofs.Ytjlmgniachdfgaa.Slots
