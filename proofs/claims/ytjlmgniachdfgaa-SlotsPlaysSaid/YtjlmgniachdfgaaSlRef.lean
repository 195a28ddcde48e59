/- The document's queues, all in one row: their words; New, Count. Contracts. -/
import Derived.Test.YtjlmgniachdfgaaSlTwo
import Derived.Test.YtjlmgniachdfgaaWide
namespace Go.Proofs.Ytjlmgniachdfgaa.Slots
open Go Go.ChangeShapes Go.WideShapes Go.ChangeAt Go.RowKit
set_option linter.unusedVariables false
set_option linter.unusedSimpArgs false

/-- an item: its tenant, its bytes as they lie, its bytes -/
abbrev It := Nat × Value × List UInt8
def cellsOf (X : List It) : List Value := X.flatMap fun x => [.int .i64 (x.1 : Int), x.2.1]
theorem cellsOf_cons (x : It) (X : List It) : cellsOf (x :: X) = .int .i64 (x.1 : Int) :: x.2.1 :: cellsOf X := rfl
theorem cellsOf_app (X Y : List It) : cellsOf (X ++ Y) = cellsOf X ++ cellsOf Y := by unfold cellsOf; rw [List.flatMap_append]
theorem cellsOf_len (X : List It) : (cellsOf X).length = X.length * 2 := by
  induction X with
  | nil => rfl
  | cons x X ih => rw [cellsOf_cons, List.length_cons, List.length_cons, ih, List.length_cons]; omega
theorem cellsOf_at : ∀ (X : List It) (i : Nat) (h : i < X.length), (cellsOf X)[i * 2]? = some (.int .i64 (X[i].1 : Int)) ∧ (cellsOf X)[i * 2 + 1]? = some X[i].2.1
  | x :: X, 0, _ => ⟨rfl, rfl⟩
  | x :: X, i + 1, h => by
    obtain ⟨h1, h2⟩ := cellsOf_at X i (by simpa using h)
    rw [cellsOf_cons]
    refine ⟨?_, ?_⟩
    · rw [show (i + 1) * 2 = i * 2 + 1 + 1 by omega, List.getElem?_cons_succ, List.getElem?_cons_succ, h1]; rfl
    · rw [show (i + 1) * 2 + 1 = i * 2 + 1 + 1 + 1 by omega, List.getElem?_cons_succ, List.getElem?_cons_succ, h2]; rfl
theorem cellsOf_split (X : List It) (i : Nat) : cellsOf X = cellsOf (X.take i) ++ cellsOf (X.drop i) := by rw [← cellsOf_app, List.take_append_drop]
theorem eitem : ElW Try.prog 45 62 (.agg #[.int .i64 0, .slice none 0 0]) 2 32 := ⟨Try.underlying45, by kernel_rfl, rfl, by omega⟩
/-- the document's queues in memory: their blocks are of dom -/
structure DcX (w : World) (base : Nat) (dom : Nat → Prop) (g n K : Nat) (v : Value) (X : List It) : Prop where
  obj : RowV w 47 g [v, .int .i64 (n : Int), .int .i64 (K : Int)]
  row : w.ownsRow base 62 2 v X.length (cellsOf X)
  item : ∀ x ∈ X, Own w 5 base x.2.1 x.2.2
  rng : ∀ x ∈ X, 1 ≤ x.1 ∧ x.1 ≤ n
  dg : dom g
  dv : ∀ k, v.ownBlock = some k → dom k ∧ k ≠ g
  di : ∀ x ∈ X, ∀ k, x.2.1.ownBlock = some k → dom k ∧ k ≠ g ∧ v.ownBlock ≠ some k
  lt : ∀ k, dom k → base ≤ k ∧ k < w.heap.size
def Dc (w : World) (base : Nat) (dom : Nat → Prop) (g n K : Nat) (X : List It) : Prop := ∃ v, DcX w base dom g n K v X
section
variable {w w' : World} {base g n K : Nat} {dom : Nat → Prop} {v : Value} {X : List It}
theorem DcX.keep (h : DcX w base dom g n K v X) (hk : ∀ k, dom k → w'.heap[k]? = w.heap[k]?) (hs : w.heap.size ≤ w'.heap.size) : DcX w' base dom g n K v X :=
  ⟨h.obj.keep (hk g h.dg), roww_keep h.row (fun k e => hk k (h.dv k e).1), fun x hx => own_keep (h.item x hx) (fun k e => hk k (h.di x hx k e).1), h.rng, h.dg, h.dv, h.di, fun k hd => ⟨(h.lt k hd).1, by have := (h.lt k hd).2; omega⟩⟩
theorem Dc.frame {S : Nat → Prop} (h : Dc w base dom g n K X) (hf : Frame S w w') (hS : ∀ k, dom k → S k) : Dc w' base dom g n K X := by
  obtain ⟨v, hx⟩ := h
  exact ⟨v, hx.keep (fun k hk => hf.block k (hS k hk)) hf.size⟩
theorem Dc.lt (h : Dc w base dom g n K X) : ∀ k, dom k → base ≤ k ∧ k < w.heap.size := by
  obtain ⟨v, hx⟩ := h
  exact hx.lt
theorem Dc.below_ (h : Dc w base dom g n K X) (hb : Below w.heap.size w w') : Dc w' base dom g n K X := h.frame (Frame.of_below hb (fun k hk => hk)) (fun k hk => (h.lt k hk).2)
theorem DcX.form (h : DcX w base dom g n K v X) : ∃ A c, v = .slice A X.length c ∧ X.length ≤ c := by
  obtain ⟨A, c, h1, h2, _⟩ := roww_len h.row
  exact ⟨A, c, h1, h2⟩
theorem DcX.at_ {A : Option Addr} {m c : Nat} (h : DcX w base dom g n K (.slice A m c) X) {i : Nat} (hi : i < X.length) : ∃ gr, A = some ⟨gr, 0, none⟩ ∧ gr < w.heap.size ∧ w.cell? ⟨gr, i * 2, none⟩ = some (.int .i64 (X[i].1 : Int)) ∧ w.cell? ⟨gr, i * 2 + 1, none⟩ = some X[i].2.1 := by
  obtain ⟨gr, c', hv, _, _, _, hl, hc⟩ := roww_at h.row (by omega)
  injection hv with hv _ _
  obtain ⟨h1, h2⟩ := cellsOf_at X i hi
  exact ⟨gr, hv, hl, hc _ _ h1, hc _ _ h2⟩
end
/-- how many of a tenant's -/
def cntX (X : List It) (t : Int) : Nat := (X.filter fun x => decide ((x.1 : Int) = t)).length
theorem cntX_step (X : List It) (t : Int) (i : Nat) (h : i < X.length) : cntX (X.take (i + 1)) t = if (X[i].1 : Int) = t then cntX (X.take i) t + 1 else cntX (X.take i) t := by
  unfold cntX
  rw [List.take_succ_eq_append_getElem h, List.filter_append, List.length_append]
  by_cases e : (X[i].1 : Int) = t
  · rw [if_pos e]; simp [List.filter_cons, e]
  · rw [if_neg e]; simp [List.filter_cons, e]
theorem cntX_le (X : List It) (t : Int) : cntX X t ≤ X.length := List.length_filter_le _ _
set_option maxRecDepth 100000 in
set_option maxHeartbeats 1000000 in
theorem refcount_any (base : Nat) (dom : Nat → Prop) (g n K : Nat) (X : List It) (t : Int) (w : World) (hX : X.length ≤ 1000) (h : Dc w base dom g n K X) :
    Calls Try.prog 21 #[.pointer (some ⟨g, 0, none⟩), .int .i64 t] w fun e w' => e = .returned (.int .i64 (cntX X t : Int)) ∧ w = w' := by
  obtain ⟨v, hx⟩ := h
  obtain ⟨A, c, hv, hmc⟩ := hx.form
  have c0 := hx.obj.cell (i := 0) rfl
  obtain ⟨m, hm⟩ : ∃ m, X.length = m := ⟨_, rfl⟩
  rw [hm] at hv hX
  subst hv
  have HX := Lib.hid hx
  have HM := Lib.hid hm
  clear hx hm hmc
  go_enter Try.func21, Try.ntmps21
  go_wp2
  go_loop [5, 6] (fun a i => ∃ k : Nat, k ≤ m ∧ i = .int .i64 (k : Int) ∧ a = .int .i64 (cntX (X.take k) t : Int)) (fun _ i => m - (intOf i).toNat)
  case atStart => exact ⟨0, by omega, rfl, rfl⟩
  case round =>
    obtain ⟨k, hk, rfl, rfl⟩ := hrel
    by_cases hlt : k < m
    · have hkX : k < X.length := by rw [HM.out]; exact hlt
      obtain ⟨gr, rfl, _, x0, x1⟩ := HX.out.at_ hkX
      have hst := cntX_step X t k hkX
      have hle : cntX (X.take k) t ≤ k := Nat.le_trans (cntX_le _ _) (by rw [List.length_take]; omega)
      have HST := Lib.hid hst
      clear hst
      generalize hxk : X[k] = x at *
      obtain ⟨xt, xv, xl⟩ := x
      simp only at x0 x1
      generalize cntX (X.take k) t = a at *
      by_cases e : (xt : Int) = t
      · have hs2 : cntX (X.take (k + 1)) t = a + 1 := by have := HST.out; rw [if_pos e] at this; exact this
        have HS2 := Lib.hid hs2
        clear HST hs2
        subst e
        go_wp2
        go_round
        case rel => exact ⟨k + 1, by omega, by go_num, by rw [HS2.out]; rfl⟩
        case measure => simp [intOf] <;> omega
      · have hs2 : cntX (X.take (k + 1)) t = a := by have := HST.out; rw [if_neg e] at this; exact this
        have HS2 := Lib.hid hs2
        clear HST hs2
        go_wp2
        go_round
        case rel => exact ⟨k + 1, by omega, by go_num, by rw [HS2.out]⟩
        case measure => simp [intOf] <;> omega
    · obtain rfl : k = m := by omega
      have hall : X.take k = X := List.take_of_length_le (by rw [HM.out]; exact Nat.le_refl _)
      rw [hall]
      go_wp2
      go_ret
      exact ⟨rfl, rfl⟩
end Go.Proofs.Ytjlmgniachdfgaa.Slots
