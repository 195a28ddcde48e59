/- The document's queues answer as the program's: plain laws, contracts in one word. -/
import Derived.Test.YtjlmgniachdfgaaSlRefD
namespace Go.Proofs.Ytjlmgniachdfgaa.Slots
open Go Go.ChangeShapes Go.WideShapes Go.ChangeAt Go.RowKit
set_option linter.unusedVariables false
set_option linter.unusedSimpArgs false

/-- a tenant's queue, read off the one row -/
def getQ (X : List It) (t : Nat) : List (List UInt8) := (X.filter (fun x => x.1 == t)).map (·.2.2)
def Rel (X : List It) (q : Qs) : Prop := ∀ t, q t = getQ X t
theorem getQ_app (X Y : List It) (t : Nat) : getQ (X ++ Y) t = getQ X t ++ getQ Y t := by unfold getQ; rw [List.filter_append, List.map_append]
theorem getQ_nil {X : List It} {t : Nat} (h : ∀ x ∈ X, x.1 ≠ t) : getQ X t = [] := by
  unfold getQ
  rw [List.filter_eq_nil_iff.2 (fun x hx => by simpa using h x hx)]; rfl
theorem getQ_cons (x : It) (X : List It) (t : Nat) : getQ (x :: X) t = if x.1 = t then x.2.2 :: getQ X t else getQ X t := by
  unfold getQ
  by_cases e : x.1 = t
  · rw [if_pos e, List.filter_cons_of_pos (by simpa using e)]; rfl
  · rw [if_neg e, List.filter_cons_of_neg (by simpa using e)]
theorem cnt_rel {n : Nat} {X : List It} {q : Qs} (h : Rel X q) (hr : ∀ x ∈ X, 1 ≤ x.1 ∧ x.1 ≤ n) (t : Int) : cntX X t = cnt n q t := by
  unfold cnt
  cases hi : isT n t with
  | true =>
    obtain ⟨k, rfl, _, _⟩ := isT_yes hi
    rw [if_pos rfl, Int.toNat_natCast, h k]
    unfold cntX getQ
    rw [List.length_map]
    congr 1
    refine List.filter_congr (fun x _ => ?_)
    by_cases e : x.1 = k
    · subst e; simp
    · have : ¬ (x.1 : Int) = (k : Int) := by omega
      simp [e, this]
  | false =>
    unfold cntX
    rw [List.filter_eq_nil_iff.2 (fun x hx => ?_)]; rfl
    have := hr x hx
    intro e
    have e' := of_decide_eq_true e
    rw [← e'] at hi
    unfold isT at hi
    simp at hi
    omega
theorem putE_rel {n : Nat} {X : List It} {q : Qs} (h : Rel X q) (hr : ∀ x ∈ X, 1 ≤ x.1 ∧ x.1 ≤ n) (t : Int) (l : List UInt8) : rputE n X t l = putE n q t l := by
  unfold rputE putE
  rw [cnt_rel h hr]
  cases hi : isT n t with
  | true =>
    obtain ⟨k, rfl, h1, h2⟩ := isT_yes hi
    rw [if_neg (by omega), if_neg (show ¬ (true = false) by simp)]
    unfold cnt
    rw [hi, if_pos rfl]
  | false =>
    rw [if_pos rfl, if_pos]
    unfold isT at hi
    simp at hi
    omega
theorem put_rel {n : Nat} {X : List It} {q : Qs} (h : Rel X q) {t : Int} {l : List UInt8} {k : Nat} {vx : Value} (he : putE n q t l = 0) (hk : t = (k : Int)) : Rel (X ++ [(k, vx, l)]) (putQ n q t l) := by
  intro j
  subst hk
  unfold putQ
  rw [if_pos he, Int.toNat_natCast, getQ_app, getQ_cons]
  by_cases e : j = k
  · subst e; rw [upd_same, if_pos rfl, h j]; rfl
  · rw [upd_other _ _ e, if_neg (fun e' => e e'.symm), h j]; simp [getQ]
theorem drop_rel {n : Nat} {X : List It} {q : Qs} (h : Rel X q) (hr : ∀ x ∈ X, 1 ≤ x.1 ∧ x.1 ≤ n) (t : Int) : Rel (dropX X t) (dropQ n q t) := by
  intro j
  have h1 : getQ (dropX X t) j = if (j : Int) = t then [] else getQ X j := by
    unfold getQ dropX
    rw [List.filter_filter]
    split
    · rename_i e
      rw [List.filter_eq_nil_iff.2 (fun x _ => ?_)]; rfl
      intro e2
      simp only [Bool.and_eq_true, beq_iff_eq, Bool.not_eq_true', decide_eq_false_iff_not] at e2
      exact e2.2 (by omega)
    · rename_i e
      congr 1
      refine List.filter_congr (fun x _ => ?_)
      by_cases e2 : x.1 = j
      · have : ¬ (x.1 : Int) = t := by omega
        simp [e2]; omega
      · simp [e2]
  rw [h1]
  unfold dropQ
  cases hi : isT n t with
  | true =>
    obtain ⟨k, rfl, _, _⟩ := isT_yes hi
    rw [if_pos rfl, Int.toNat_natCast]
    by_cases e : j = k
    · subst e; rw [upd_same, if_pos rfl]
    · rw [upd_other _ _ e, if_neg (by omega), h j]
  | false =>
    rw [if_neg (by simp), h j]
    split
    · rename_i e
      refine getQ_nil (fun x hx e2 => ?_)
      have := hr x hx
      subst e
      unfold isT at hi
      simp at hi
      omega
    · rfl
/-- the first of a tenant's -/
theorem first_at (X : List It) (t : Nat) : ∃ i, i ≤ X.length ∧ (∀ j (h : j < X.length), j < i → X[j].1 ≠ t) ∧ (∀ h : i < X.length, X[i].1 = t) := by
  induction X with
  | nil => exact ⟨0, Nat.le_refl _, fun j h _ => absurd h (by simp), fun h => absurd h (by simp)⟩
  | cons x X ih =>
    by_cases e : x.1 = t
    · exact ⟨0, by simp, fun j _ h => by omega, fun _ => e⟩
    · obtain ⟨i, h1, h2, h3⟩ := ih
      refine ⟨i + 1, by simpa using h1, fun j h hj => ?_, fun h => ?_⟩
      · cases j with
        | zero => exact e
        | succ j => exact h2 j (by simpa using h) (by omega)
      · exact h3 (by simpa using h)
theorem next_rel {n K : Nat} {X : List It} {q : Qs} (h : Rel X q) {i : Nat} (hi : i ≤ X.length) (hlt : ∀ j (h : j < X.length), j < i → X[j].1 ≠ turnOf n K) (hat : ∀ h : i < X.length, X[i].1 = turnOf n K) :
    Rel (X.take i ++ X.drop (i + 1)) (nextQ n K q) ∧ decide (i < X.length) = (!(q (turnOf n K)).isEmpty) ∧ (X[i]?.map (·.2.2)).getD [] = (q (turnOf n K)).headD [] := by
  have ht : getQ (X.take i) (turnOf n K) = [] := getQ_nil (fun x hx => by
    obtain ⟨j, hj, rfl⟩ := List.getElem_of_mem hx
    rw [List.length_take] at hj
    rw [List.getElem_take]
    exact hlt j (by omega) (by omega))
  by_cases hl : i < X.length
  · have he := hat hl
    have hX : X = X.take i ++ X[i] :: X.drop (i + 1) := by rw [← List.drop_eq_getElem_cons hl, List.take_append_drop]
    have hq : q (turnOf n K) = X[i].2.2 :: getQ (X.drop (i + 1)) (turnOf n K) := by
      rw [h (turnOf n K)]
      conv => lhs; rw [hX]
      rw [getQ_app, ht, getQ_cons, if_pos he]; rfl
    refine ⟨fun j => ?_, ?_, ?_⟩
    · unfold nextQ
      rw [hq, getQ_app]
      show upd q (turnOf n K) (getQ (X.drop (i + 1)) (turnOf n K)) j = _
      by_cases e : j = turnOf n K
      · subst e; rw [upd_same, ht]; rfl
      · rw [upd_other _ _ e, h j]
        conv => lhs; rw [hX]
        rw [getQ_app, getQ_cons, if_neg (by rw [he]; exact fun e' => e e'.symm)]
    · rw [hq, decide_eq_true hl]; rfl
    · rw [hq, List.getElem?_eq_getElem hl]; rfl
  · have hq : q (turnOf n K) = [] := by
      rw [h (turnOf n K), ← ht, List.take_of_length_le (by omega)]
    refine ⟨fun j => ?_, ?_, ?_⟩
    · unfold nextQ
      rw [hq, List.take_of_length_le (by omega), List.drop_eq_nil_of_le (by omega), List.append_nil]
      exact h j
    · rw [hq, decide_eq_false hl]; rfl
    · rw [hq, List.getElem?_eq_none (by omega)]; rfl

/-! ### in one word -/
def DQ (w : World) (base : Nat) (dom : Nat → Prop) (g n K L : Nat) (q : Qs) : Prop := ∃ X, Dc w base dom g n K X ∧ Rel X q ∧ X.length ≤ L
section
variable {w w' : World} {base g n K L : Nat} {dom : Nat → Prop} {q : Qs}
theorem DQ.frame {S : Nat → Prop} (h : DQ w base dom g n K L q) (hf : Frame S w w') (hS : ∀ k, dom k → S k) : DQ w' base dom g n K L q := by
  obtain ⟨X, h1, h2, h3⟩ := h
  exact ⟨X, h1.frame hf hS, h2, h3⟩
theorem DQ.lt (h : DQ w base dom g n K L q) : ∀ k, dom k → base ≤ k ∧ k < w.heap.size := by
  obtain ⟨X, h1, _⟩ := h
  exact h1.lt
theorem DQ.slot (h : DQ w base dom g n K L q) : w.cell? ⟨g, 2, none⟩ = some (.int .i64 (K : Int)) := by
  obtain ⟨X, ⟨v, h1⟩, _⟩ := h
  exact h1.obj.cell (i := 2) rfl
theorem DQ.more {L' : Nat} (h : DQ w base dom g n K L q) (hL : L ≤ L') : DQ w base dom g n K L' q := by
  obtain ⟨X, h1, h2, h3⟩ := h
  exact ⟨X, h1, h2, Nat.le_trans h3 hL⟩
end
/-- what an act leaves outside -/
def DLeft (w w' : World) (base : Nat) (dom : Nat → Prop) (g n K L : Nat) (q : Qs) : Prop := ∃ dom', DQ w' base dom' g n K L q ∧ Frame (fun k => k < w.heap.size ∧ ¬ dom k) w w' ∧ (∀ k, dom' k → dom k ∨ w.heap.size ≤ k)
theorem dcount_any (base : Nat) (dom : Nat → Prop) (g n K L : Nat) (q : Qs) (t : Int) (w : World) (hL : L ≤ 1000) (h : DQ w base dom g n K L q) :
    Calls Try.prog 21 #[.pointer (some ⟨g, 0, none⟩), .int .i64 t] w fun e w' => e = .returned (.int .i64 (cnt n q t : Int)) ∧ w = w' := by
  obtain ⟨X, h1, h2, h3⟩ := h
  have hr : ∀ x ∈ X, 1 ≤ x.1 ∧ x.1 ≤ n := by obtain ⟨v, hx⟩ := h1; exact hx.rng
  rw [← cnt_rel h2 hr]
  exact refcount_any base dom g n K X t w (by omega) h1
theorem dput_any (base : Nat) (dom : Nat → Prop) (g n K L : Nat) (q : Qs) (t : Int) (A : Option Addr) (ml cp : Nat) (l : List UInt8) (w : World) (hL : L ≤ 1000) (hn : n ≤ 64) (h : DQ w base dom g n K L q) (hbase : base ≤ w.heap.size) (hl : l.length = ml) (hr : Rd w w.heap.size A l) :
    Calls Try.prog 17 #[.pointer (some ⟨g, 0, none⟩), .int .i64 t, .slice A ml cp] w fun e w' => e = .returned (.int .i64 (putE n q t l : Int)) ∧ DLeft w w' base dom g n K (L + 1) (putQ n q t l) := by
  obtain ⟨X, h1, h2, h3⟩ := h
  have hrg : ∀ x ∈ X, 1 ≤ x.1 ∧ x.1 ≤ n := by obtain ⟨v, hx⟩ := h1; exact hx.rng
  have he := putE_rel h2 hrg t l
  refine (refput_any base dom g n K X t A ml cp l w (by omega) hn h1 hbase hl hr).mono ?_
  rintro e w' ⟨rfl, dom', X', h4, h5, h6, h7, h8⟩
  refine ⟨by rw [he], dom', ⟨X', h4, ?_, ?_⟩, h5, h6⟩
  · by_cases hp : putE n q t l = 0
    · obtain ⟨k, vx, hk, rfl⟩ := h8 (he.trans hp)
      exact put_rel h2 hp hk
    · rw [h7 (by rw [he]; exact hp), put_no hp]; exact h2
  · by_cases hp : putE n q t l = 0
    · obtain ⟨k, vx, hk, rfl⟩ := h8 (he.trans hp)
      rw [List.length_append]; show _ + 1 ≤ _; omega
    · rw [h7 (by rw [he]; exact hp)]; omega
theorem ddrop_any (base : Nat) (dom : Nat → Prop) (g n K L : Nat) (q : Qs) (t : Int) (w : World) (hL : L ≤ 1000) (h : DQ w base dom g n K L q) (hbase : base ≤ w.heap.size) :
    Calls Try.prog 20 #[.pointer (some ⟨g, 0, none⟩), .int .i64 t] w fun e w' => e = .returned (.int .i64 (cnt n q t : Int)) ∧ DLeft w w' base dom g n K L (dropQ n q t) := by
  obtain ⟨X, h1, h2, h3⟩ := h
  have hrg : ∀ x ∈ X, 1 ≤ x.1 ∧ x.1 ≤ n := by obtain ⟨v, hx⟩ := h1; exact hx.rng
  rw [← cnt_rel h2 hrg]
  refine (refdrop_any base dom g n K X t w (by omega) h1 hbase).mono ?_
  rintro e w' ⟨rfl, dom', h4, h5, h6⟩
  exact ⟨rfl, dom', ⟨_, h4, drop_rel h2 hrg t, Nat.le_trans (dropX_le _ _) h3⟩, h5, h6⟩
theorem dnext_any (base : Nat) (dom : Nat → Prop) (g n K L : Nat) (q : Qs) (w : World) (h1 : 1 ≤ n) (hn : n ≤ 64) (hK : K ≤ 1000000) (hL : L ≤ 1000) (h : DQ w base dom g n K L q) (hbase : base ≤ w.heap.size) :
    Calls Try.prog 18 #[.pointer (some ⟨g, 0, none⟩)] w fun e w' => ∃ A m c, e = .returned (.tuple #[.int .i64 (K : Int), .int .i64 (turnOf n K : Int), .slice A m c, .bool (!(q (turnOf n K)).isEmpty)]) ∧
      DLeft w w' base dom g n (K + 1) L (nextQ n K q) ∧ m = ((q (turnOf n K)).headD []).length ∧ m ≤ c ∧ Rd w' w'.heap.size A ((q (turnOf n K)).headD []) := by
  obtain ⟨X, hD, h2, h3⟩ := h
  obtain ⟨i, hi, hlt, hat⟩ := first_at X (turnOf n K)
  obtain ⟨r1, r2, r3⟩ := next_rel (K := K) (n := n) h2 hi hlt hat
  refine (refnext_any base dom g n K X w h1 hn hK (by omega) hD hbase i hi hlt hat).mono ?_
  rintro e w' ⟨A, m, c, rfl, dom', h4, h5, h6, h7, h8, h9⟩
  refine ⟨A, m, c, by rw [r2], ⟨dom', ⟨_, h4, r1, ?_⟩, h5, h6⟩, by rw [← r3]; exact h7, h8, by rw [← r3]; exact h9⟩
  rw [List.length_append, List.length_take, List.length_drop]; omega
set_option maxRecDepth 100000 in
set_option maxHeartbeats 1000000 in
theorem dnew_yes (n : Nat) (h1 : 1 ≤ n) (h64 : n ≤ 64) (w : World) :
    Calls Try.prog 13 #[.int .i64 (n : Int)] w fun e w' => ∃ g, e = .returned (.tuple #[.pointer (some ⟨g, 0, none⟩), .int .i64 0]) ∧ (∃ dom, DQ w' w.heap.size dom g n 0 0 (fun _ => [])) ∧ Below w.heap.size w w' := by
  have a1 : ¬ ((n : Int) < 1) := by omega
  have a2 : ¬ ((64 : Int) < (n : Int)) := by omega
  go_enter Try.func13, Try.ntmps13
  go_wp2
  go_ret2
  refine ⟨w.heap.size, rfl, ⟨fun k => k = w.heap.size, [], ⟨.slice none 0 0, ?_⟩, fun t => rfl, Nat.le_refl _⟩, (Below.refl _ _).alloc (Nat.le_refl _) _⟩
  refine ⟨heap_alloc_new w _, World.ownsRow_nil _ _ _ _, fun x hx => (by cases hx), fun x hx => (by cases hx), rfl, fun k e => (by cases e), fun x hx => (by cases hx), fun k hk => ?_⟩
  subst hk
  simp
set_option maxRecDepth 100000 in
set_option maxHeartbeats 1000000 in
theorem dnew_no (n : Int) (h : n < 1 ∨ 64 < n) (w : World) :
    Calls Try.prog 13 #[.int .i64 n] w fun e w' => e = .returned (.tuple #[.pointer none, .int .i64 1]) ∧ w = w' := by
  rcases h with h | h
  · go_enter Try.func13, Try.ntmps13
    go_wp2
    go_ret2
    exact ⟨rfl, rfl⟩
  · have h0 : ¬ n < 1 := by omega
    go_enter Try.func13, Try.ntmps13
    go_wp2
    go_ret2
    exact ⟨rfl, rfl⟩

/-- the program's queues and the document's, apart in memory -/
structure Both (w : World) (base : Nat) (tg : Tags) (dom : Nat → Prop) (g h n K J L : Nat) (q p : Qs) : Prop where
  s : Sl w base tg g n K q
  d : DQ w base dom h n J L p
  dis : ∀ k, tg k ≠ none → ¬ dom k
section
variable {w w' : World} {base g h n K J K' L L' : Nat} {tg tg' : Tags} {dom dom' : Nat → Prop} {q p q' p' : Qs}
theorem Both.restD (H : Both w base tg dom g h n K J L q p) : ∀ k, dom k → Rest w tg k := fun k hk => ⟨(H.d.lt k hk).2, by
  cases e : tg k with
  | none => rfl
  | some x => exact absurd hk (H.dis k (by rw [e]; simp))⟩
theorem Both.left (H : Both w base tg dom g h n K J L q p) (hS : Sl w' base tg' g n K' q') (hF : Frame (Rest w tg) w w') (ht : ∀ k, tg' k ≠ none → tg k ≠ none ∨ w.heap.size ≤ k) : Both w' base tg' dom g h n K' J L q' p :=
  ⟨hS, H.d.frame hF H.restD, fun k hk hd => by
    rcases ht k hk with h1 | h1
    · exact H.dis k h1 hd
    · have := (H.d.lt k hd).2; omega⟩
theorem Both.right (H : Both w base tg dom g h n K J L q p) (hD : DQ w' base dom' h n K' L' p') (hF : Frame (fun k => k < w.heap.size ∧ ¬ dom k) w w') (ht : ∀ k, dom' k → dom k ∨ w.heap.size ≤ k) : Both w' base tg dom' g h n K K' L' q p' :=
  ⟨H.s.frame hF (fun k hk => ⟨(H.s.lt k hk).2, H.dis k hk⟩), hD, fun k hk hd => by
    rcases ht k hd with h1 | h1
    · exact H.dis k hk h1
    · have := (H.s.lt k hk).2; omega⟩
theorem Both.frame {S : Nat → Prop} (H : Both w base tg dom g h n K J L q p) (hF : Frame S w w') (h1 : ∀ k, tg k ≠ none → S k) (h2 : ∀ k, dom k → S k) : Both w' base tg dom g h n K J L q p := ⟨H.s.frame hF h1, H.d.frame hF h2, H.dis⟩
theorem Both.below_ (H : Both w base tg dom g h n K J L q p) (hb : Below w.heap.size w w') : Both w' base tg dom g h n K J L q p := H.frame (Frame.of_below hb (fun k hk => hk)) (fun k hk => (H.s.lt k hk).2) (fun k hk => (H.d.lt k hk).2)
theorem DQ.rest {B : Nat} (h : DQ w base dom g n K L q) (hF : Frame (fun k => k < w.heap.size ∧ ¬ dom k) w w') (hB : B ≤ base) (hs : base ≤ w.heap.size) : Below B w w' :=
  hF.toBelow fun k hk => ⟨by omega, fun hd => by have := (h.lt k hd).1; omega⟩
theorem DQ.mono {base' : Nat} (h : DQ w base dom g n K L q) (hb : base' ≤ base) : DQ w base' dom g n K L q := by
  obtain ⟨X, ⟨v, hx⟩, h2, h3⟩ := h
  exact ⟨X, ⟨v, hx.obj, roww_mono hx.row (fun k e => by have := (World.ownsRow.lt hx.row k e).1; omega), fun x hm => (hx.item x hm).mono hb, hx.rng, hx.dg, hx.dv, hx.di, fun k hk => ⟨by have := (hx.lt k hk).1; omega, (hx.lt k hk).2⟩⟩, h2, h3⟩
theorem Both.new (hs : Sl w base tg g n K q) (hb : Below w.heap.size w w') (hd : DQ w' w.heap.size dom h n J L p) (hB : base ≤ w.heap.size) : Both w' base tg dom g h n K J L q p :=
  ⟨hs.below_ hb, hd.mono hB, fun k hk hdk => by have h1 := (hd.lt k hdk).1; have h2 := (hs.lt k hk).2; omega⟩
/-- a block of nobody's -/
theorem Both.free (H : Both w base tg dom g h n K J L q p) {o : Obj} : Rest (w.alloc o) tg w.heap.size ∧ (w.heap.size < (w.alloc o).heap.size ∧ ¬ dom w.heap.size) := by
  refine ⟨⟨by simp, ?_⟩, by simp, fun hd => ?_⟩
  · cases e : tg w.heap.size with
    | none => rfl
    | some x => have := (H.s.lt w.heap.size (by rw [e]; simp)).2; omega
  · have := (H.d.lt _ hd).2; omega
end
end Go.Proofs.Ytjlmgniachdfgaa.Slots
