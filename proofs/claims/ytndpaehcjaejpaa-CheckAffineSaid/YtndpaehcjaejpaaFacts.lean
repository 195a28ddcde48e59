/- A region that draws its order, by one fact an operation: whatever order is drawn, each operation meets the facts of those it waits for. No program in sight. -/
import Derived.Orders
import Derived.Calls
namespace Go.Proofs.Ytndpaehcjaejpaa
open Go
set_option linter.unusedVariables false
section
variable {P : Program} {ops : Array Oper} {Q : Exit → Act → World → Prop} {md : Region.Mode}

/-- nothing but the normal way -/
def NoQ : Exit → Act → World → Prop := fun _ _ _ => False
theorem wp_noQ {o : Oper} {a : Act} {w : World} {K K' : Act → World → Prop} (h : ∀ a w, K a w → K' a w) (hh : o.wp P a w K NoQ) : o.wp P a w K' Q := by
  unfold Oper.wp at *
  generalize (execOp a.eval o).run P w = r at *
  cases r with
  | ok n w' =>
    cases n <;> simp only [Oper.upon] at hh ⊢ <;>
      first
        | exact h _ _ hh
        | exact Calls.mono hh (fun e w'' he => by
            cases e with
            | returned v => exact h _ _ he
            | panicked c => exact he.elim
            | outgrown => obtain ⟨_, _, hf⟩ := he; exact hf.elim)
        | exact Rows.mono hh (fun _ _ he => h _ _ he)
  | halt x w' => cases x <;> simp only [Oper.upon] at hh ⊢ <;> exact hh.elim

def dstOf (ops : Array Oper) (i : Nat) : Option Tmp := (ops[i]?).bind (·.dst)
/-- what operation i has left in its slot -/
def slotAt (ops : Array Oper) (a : Act) (i : Nat) : Value :=
  match dstOf ops i with
  | some d => a.tmps.getD d undef
  | none => undef
/-- the frame, with these operations' values -/
def putAll (ops : Array Oper) (u : Nat → Value) : List Nat → Act → Act
  | [], a => a
  | i :: l, a => putAll ops u l (a.put (dstOf ops i) (u i))
/-- the operations that operation i waits for, of those that are left -/
def waits (md : Region.Mode) (ops : Array Oper) (left : List Nat) (i : Nat) : List Nat :=
  match ops[i]? with
  | some o => left.filter fun j => o.after.any fun e => Region.binds md e && e.on == j
  | none => []
/-- the region's shape, as the law wants it -/
def neat (md : Region.Mode) (ops : Array Oper) (left : List Nat) (listed : Array Bool) (size : Nat) : Bool :=
  listed.size == ops.size && Region.noSelect ops &&
  ((List.range ops.size).all fun i => (listed.getD i true == !left.contains i)) &&
  left.all fun i => match ops[i]? with
    | none => false
    | some o => (o.after.all fun e => !Region.binds md e || (decide (e.on < i) && decide (e.on < ops.size))) &&
      (match o.dst with
       | none => true
       | some d => decide (d < size) && left.all fun j => j == i || dstOf ops j != some d) &&
      (o.looksAt ops).all fun t => (left.all fun j => dstOf ops j != some t || (waits md ops left j).contains i) || (waits md ops left i).any fun j => dstOf ops j == some t

/-- what stands in the slot of an operation that yields v -/
def keepV (o : Oper) (v : Value) : Value := match o.dst with | some _ => v | none => undef
/-- what is asked of operation i -/
def Does (P : Program) (md : Region.Mode) (ops : Array Oper) (left : List Nat) (R : World → World → Prop) (F : Nat → Value → World → Prop) (a0 : Act) (w0 : World) (i : Nat) : Prop :=
  ∀ o, ops[i]? = some o → ∀ (u : Nat → Value) (w : World), R w0 w → (∀ j ∈ waits md ops left i, F j (u j) w) →
    if Region.wanted o (yielded ops (putAll ops u (waits md ops left i) a0).tmps) = true
    then o.wp P (putAll ops u (waits md ops left i) a0) w (fun a' w' => ∃ v, a' = (putAll ops u (waits md ops left i) a0).put o.dst v ∧ F i (keepV o v) w' ∧ R w w') NoQ
    else F i undef w

structure Like (ops : Array Oper) (left : List Nat) (listed : Array Bool) (a0 a : Act) : Prop where
  defers : a.defers = a0.defers
  size : a.tmps.size = a0.tmps.size
  same : ∀ t, (∀ i ∈ left, dstOf ops i = some t → listed.getD i true = false) → a.tmps[t]? = a0.tmps[t]?

theorem put_size (a : Act) (d : Option Tmp) (v : Value) : (a.put d v).tmps.size = a.tmps.size := by cases d <;> simp [Act.put]
theorem put_defs (a : Act) (d : Option Tmp) (v : Value) : (a.put d v).defers = a.defers := by cases d <;> rfl
theorem put_ne (a : Act) (d : Option Tmp) (v : Value) {t : Nat} (h : d ≠ some t) : (a.put d v).tmps[t]? = a.tmps[t]? := by
  cases d with
  | none => rfl
  | some e => simp only [Act.put]; rw [Array.getElem?_setIfInBounds_ne (fun he => h (by rw [he]))]
theorem put_eq (a : Act) (d : Nat) (v : Value) (h : d < a.tmps.size) : (a.put (some d) v).tmps[d]? = some v := by
  simp [Act.put, h]
theorem putAll_size (u : Nat → Value) (l : List Nat) (a : Act) : (putAll ops u l a).tmps.size = a.tmps.size := by
  induction l generalizing a with
  | nil => rfl
  | cons i l ih => rw [putAll, ih, put_size]
theorem putAll_defers (u : Nat → Value) (l : List Nat) (a : Act) : (putAll ops u l a).defers = a.defers := by
  induction l generalizing a with
  | nil => rfl
  | cons i l ih => rw [putAll, ih, put_defs]
theorem putAll_ne (u : Nat → Value) (l : List Nat) (a : Act) {t : Nat} (h : ∀ i ∈ l, dstOf ops i ≠ some t) : (putAll ops u l a).tmps[t]? = a.tmps[t]? := by
  induction l generalizing a with
  | nil => rfl
  | cons i l ih => rw [putAll, ih _ (fun j hj => h j (List.mem_cons_of_mem _ hj)), put_ne _ _ _ (h i List.mem_cons_self)]
/-- a slot that one of them writes: its value, where no other one writes it -/
theorem putAll_eq (u : Nat → Value) (l : List Nat) (a : Act) {t i : Nat} (hi : i ∈ l) (ht : dstOf ops i = some t) (hs : t < a.tmps.size) (h : ∀ j ∈ l, j ≠ i → dstOf ops j ≠ some t) : (putAll ops u l a).tmps[t]? = some (u i) := by
  induction l generalizing a with
  | nil => cases hi
  | cons j l ih =>
    rw [putAll]
    by_cases hil : i ∈ l
    · exact ih _ hil (by rw [put_size]; exact hs) (fun k hk => h k (List.mem_cons_of_mem _ hk))
    · have hij : i = j := by
        rcases List.mem_cons.1 hi with h' | h'
        · exact h'
        · exact absurd h' hil
      subst hij
      rw [putAll_ne _ _ _ (fun k hk => h k (List.mem_cons_of_mem _ hk) (fun e => hil (e ▸ hk))), ht, put_eq _ _ _ hs]

theorem put_inj {o : Oper} {b : Act} {v v' : Value} (h : b.put o.dst v = b.put o.dst v') (hs : ∀ d, o.dst = some d → d < b.tmps.size) : keepV o v = keepV o v' := by
  unfold keepV
  cases hd : o.dst with
  | none => rfl
  | some d =>
    have h1 := put_eq b d v (hs d hd)
    have h2 := put_eq b d v' (hs d hd)
    rw [hd] at h
    rw [h, h2] at h1
    injection h1 with h1
    exact h1.symm
theorem slotAt_get {a : Act} {i d : Nat} (hd : dstOf ops i = some d) (hs : d < a.tmps.size) : a.tmps[d]? = some (slotAt ops a i) := by
  unfold slotAt
  rw [hd]
  simp [Array.getElem?_eq_getElem hs]

structure NeatP (md : Region.Mode) (ops : Array Oper) (left : List Nat) (listed : Array Bool) (size : Nat) : Prop where
  lsize : listed.size = ops.size
  nosel : Region.noSelect ops = true
  listed : ∀ i, i < ops.size → (listed.getD i true = true ↔ i ∉ left)
  oper : ∀ i ∈ left, ∃ o, ops[i]? = some o ∧ (∀ e ∈ o.after, Region.binds md e = true → e.on < i ∧ e.on < ops.size) ∧
    (∀ d, o.dst = some d → d < size ∧ ∀ j ∈ left, j ≠ i → dstOf ops j ≠ some d) ∧
    (∀ t ∈ o.looksAt ops, (∀ j ∈ left, dstOf ops j = some t → i ∈ waits md ops left j) ∨ ∃ j ∈ waits md ops left i, dstOf ops j = some t)

theorem neat_spec {left : List Nat} {listed : Array Bool} {size : Nat} (h : neat md ops left listed size = true) : NeatP md ops left listed size := by
  unfold neat at h
  simp only [Bool.and_eq_true, beq_iff_eq, List.all_eq_true, List.mem_range] at h
  obtain ⟨⟨⟨h1, h2⟩, h3⟩, h4⟩ := h
  refine ⟨h1, h2, fun i hi => ?_, fun i hi => ?_⟩
  · rw [h3 i hi]
    simp
  · have h5 := h4 i hi
    cases ho : ops[i]? with
    | none => simp [ho] at h5
    | some o =>
      simp only [ho, Bool.and_eq_true] at h5
      obtain ⟨⟨h6, h7⟩, h8⟩ := h5
      refine ⟨o, rfl, fun e he hb => ?_, fun d hd => ?_, fun t ht => ?_⟩
      · have := Array.all_eq_true_iff_forall_mem.1 h6 e he
        simp [hb] at this
        exact this
      · rw [hd] at h7
        simp only [Bool.and_eq_true, decide_eq_true_eq, List.all_eq_true, Bool.or_eq_true, beq_iff_eq, bne_iff_ne] at h7
        exact ⟨h7.1, fun j hj hne => (h7.2 j hj).resolve_left hne⟩
      · have := List.all_eq_true.1 h8 t ht
        simp only [Bool.or_eq_true, List.all_eq_true, List.any_eq_true, beq_iff_eq, bne_iff_ne, List.contains_iff_mem] at this
        rcases this with h | h
        · exact .inl fun j hj hd => (h j hj).resolve_left (fun hne => hne hd)
        · exact .inr h

/-- how many have not come up yet -/
def unlisted (n : Nat) (listed : Array Bool) : Nat := ((List.range n).filter fun i => !listed.getD i true).length
theorem filter_lt {p q : Nat → Bool} {i : Nat} : ∀ {l : List Nat}, i ∈ l → p i = true → q i = false → (∀ j, q j = true → p j = true) → (l.filter q).length < (l.filter p).length
  | [], h, _, _, _ => by cases h
  | x :: l, h, hp, hq, hm => by
    have hle : ∀ l : List Nat, (l.filter q).length ≤ (l.filter p).length := by
      intro l
      induction l with
      | nil => simp
      | cons y l ih =>
        simp only [List.filter_cons]
        by_cases hy : q y = true
        · rw [if_pos hy, if_pos (hm y hy)]; simpa using ih
        · rw [if_neg hy]; split <;> (try simp only [List.length_cons]) <;> omega
    rcases List.mem_cons.1 h with rfl | h'
    · simp only [List.filter_cons, hp, hq, if_true]
      have := hle l
      simp; omega
    · have ih := filter_lt h' hp hq hm
      simp only [List.filter_cons]
      by_cases hy : q x = true
      · rw [if_pos hy, if_pos (hm x hy)]; simpa using ih
      · rw [if_neg hy]; split <;> (try simp only [List.length_cons]) <;> omega
theorem unlisted_set {listed : Array Bool} {i : Nat} (hi : i < ops.size) (hs : listed.size = ops.size) (h : listed.getD i true = false) : unlisted ops.size (listed.setIfInBounds i true) < unlisted ops.size listed := by
  refine filter_lt (i := i) (List.mem_range.2 hi) (by simp [h]) ?_ ?_
  · simp [hs, hi]
  · intro j hj
    by_cases hij : i = j
    · subst hij; simp [hs, hi] at hj
    · rw [getD_set_ne true hij] at hj; exact hj

/-- **THE LAW** -/
theorem wpAny_facts {left : List Nat} {listed0 : Array Bool} {a0 : Act} {w0 : World} (R : World → World → Prop) (F : Nat → Value → World → Prop)
    (hn : neat md ops left listed0 a0.tmps.size = true) (hrefl : ∀ w, R w w) (htrans : ∀ w w' w'', R w w' → R w' w'' → R w w'')
    (hF : ∀ i v w w', F i v w → R w w' → F i v w') (hdo : ∀ i ∈ left, Does P md ops left R F a0 w0 i)
    (hend : ∀ (u : Nat → Value) (w : World), R w0 w → (∀ j ∈ left, F j (u j) w) → Q .normal (putAll ops u left a0) w) :
    ∀ fuel, unlisted ops.size listed0 ≤ fuel → wpAny P md ops Q fuel listed0 a0 w0 := by
  obtain ⟨nl, ns, nlist, nop⟩ := neat_spec hn
  have main : ∀ (fuel : Nat) (listed : Array Bool) (a : Act) (w : World), unlisted ops.size listed ≤ fuel → listed.size = ops.size → R w0 w → Like ops left listed a0 a → (∀ j ∈ left, listed.getD j true = true → ∀ k ∈ waits md ops left j, listed.getD k true = true) →
      (∀ i, i < ops.size → i ∉ left → listed.getD i true = true) → (∀ i ∈ left, listed.getD i true = true → F i (slotAt ops a i) w) → wpAny P md ops Q fuel listed a w := by
    intro fuel
    induction fuel with
    | zero => ?_
    | succ fuel ih => ?_
    all_goals
      intro listed a w hu hs hR hL hcl hout hin
      have hdone : Region.ready md ops listed = [] → Q .normal a w := by
        intro hr
        have hall : ∀ n i, i < n → i ∈ left → listed.getD i true = true := by
          intro n
          induction n with
          | zero => intro i h; omega
          | succ n ihn =>
            intro i hi hil
            cases hlb : listed.getD i true with
            | true => rfl
            | false =>
              exfalso
              obtain ⟨o, ho, hedge, _⟩ := nop i hil
              have : i ∈ Region.ready md ops listed := by
                rw [mem_ready]
                refine ⟨hlb, o, ho, fun e he hb => ?_⟩
                obtain ⟨e1, e2⟩ := hedge e he hb
                have et : listed.getD e.on true = true := by
                  by_cases hel : e.on ∈ left
                  · exact ihn e.on (by omega) hel
                  · exact hout _ e2 hel
                have hlt : e.on < listed.size := by omega
                simp [hlt] at et ⊢
                exact et
              rw [hr] at this
              cases this
        have ha : a = putAll ops (slotAt ops a) left a0 := by
          have htm : a.tmps = (putAll ops (slotAt ops a) left a0).tmps := by
            apply Array.ext_getElem?
            intro t
            by_cases ht : ∀ i ∈ left, dstOf ops i ≠ some t
            · rw [hL.same t (fun i hi hd => absurd hd (ht i hi)), putAll_ne _ _ _ ht]
            · have : ∃ i, i ∈ left ∧ dstOf ops i = some t := by
                apply Classical.byContradiction
                intro hc
                exact ht fun i hi hd => hc ⟨i, hi, hd⟩
              obtain ⟨i, hi, hd⟩ := this
              obtain ⟨o, ho, _, hdst, _⟩ := nop i hi
              have hd' : o.dst = some t := by simpa [dstOf, ho] using hd
              obtain ⟨hlt, huniq⟩ := hdst t hd'
              rw [putAll_eq _ _ _ hi hd hlt huniq, slotAt_get hd (by rw [hL.size]; exact hlt)]
          have hdf := hL.defers
          have e2 := putAll_defers (ops := ops) (slotAt ops a) left a0
          cases a
          cases hx : putAll ops (slotAt ops ⟨_, _⟩) left a0
          simp_all
        rw [ha]
        exact hend _ _ hR fun j hj => hin j hj (hall (j+1) j (by omega) hj)
    · -- nothing may be left
      refine ⟨?_, ?_⟩
      · cases hr : Region.ready md ops listed with
        | nil => rfl
        | cons x xs =>
          exfalso
          have hx : x ∈ Region.ready md ops listed := by rw [hr]; exact List.mem_cons_self
          obtain ⟨h0, o, ho, _⟩ := mem_ready.1 hx
          have hlt : x < ops.size := (Array.getElem?_eq_some_iff.1 ho).1
          have := unlisted_set (ops := ops) hlt hs h0
          omega
      · refine hdone ?_
        cases hr : Region.ready md ops listed with
        | nil => rfl
        | cons x xs =>
          exfalso
          have hx : x ∈ Region.ready md ops listed := by rw [hr]; exact List.mem_cons_self
          obtain ⟨h0, o, ho, _⟩ := mem_ready.1 hx
          have hlt : x < ops.size := (Array.getElem?_eq_some_iff.1 ho).1
          have := unlisted_set (ops := ops) hlt hs h0
          omega
    · refine ⟨hdone, fun i hi => ?_⟩
      obtain ⟨h0, o, ho, hpre⟩ := mem_ready.1 hi
      have hlt : i < ops.size := (Array.getElem?_eq_some_iff.1 ho).1
      have hil : i ∈ left := by
        apply Classical.byContradiction
        intro hc
        rw [hout i hlt hc] at h0
        cases h0
      obtain ⟨o', ho', hedge, hdst, hlook⟩ := nop i hil
      rw [ho] at ho'
      injection ho' with ho'
      subst ho'
      have hwl : ∀ j ∈ waits md ops left i, j ∈ left ∧ listed.getD j true = true := by
        intro j hj
        simp only [waits, ho, List.mem_filter] at hj
        refine ⟨hj.1, ?_⟩
        obtain ⟨e, he, hb⟩ := Array.any_eq_true'.1 hj.2
        simp only [Bool.and_eq_true, beq_iff_eq] at hb
        have := hpre e he hb.1
        rw [hb.2] at this
        have hlt' : j < listed.size := by
          rcases Nat.lt_or_ge j listed.size with h' | h'
          · exact h'
          · simp [Array.getElem?_eq_none h'] at this
        simp [hlt'] at this ⊢
        exact this
      have hd := hdo i hil o ho (slotAt ops a) w hR (fun j hj => hin j (hwl j hj).1 (hwl j hj).2)
      have hloc : ∀ t ∈ o.looksAt ops, (putAll ops (slotAt ops a) (waits md ops left i) a0).tmps[t]? = a.tmps[t]? := by
        intro t ht
        rcases hlook t ht with hno | ⟨j, hj, hjd⟩
        · have hun : ∀ j ∈ left, dstOf ops j = some t → listed.getD j true = false := fun j hj hd => by
            cases hb : listed.getD j true with
            | false => rfl
            | true => rw [hcl j hj hb i (hno j hj hd)] at h0; cases h0
          rw [putAll_ne _ _ _ (fun j hj hd => by have := hun j (hwl j hj).1 hd; rw [(hwl j hj).2] at this; cases this), hL.same t hun]
        · obtain ⟨oj, hoj, _, hdj, _⟩ := nop j (hwl j hj).1
          have hd' : oj.dst = some t := by simpa [dstOf, hoj] using hjd
          obtain ⟨hlt', huniq⟩ := hdj t hd'
          rw [putAll_eq _ _ _ hj hjd hlt' (fun k hk => huniq k (hwl k hk).1), slotAt_get hjd (by rw [hL.size]; exact hlt')]
      generalize hb : putAll ops (slotAt ops a) (waits md ops left i) a0 = b at hd hloc
      have hev : execOp a.eval o = execOp b.eval o := execOp_congr o (fun cs b => Region.noSelect_spec ns i o cs b ho) fun x hx => by
        cases x with
        | tmp t =>
          have := hloc t (List.mem_append_left _ (List.mem_filterMap.2 ⟨.tmp t, by simpa using hx, rfl⟩))
          simp only [Act.eval, Array.getD_eq_getD_getElem?, this]
        | _ => rfl
      have hwa : Region.wanted o (yielded ops a.tmps) = Region.wanted o (yielded ops b.tmps) := by
        unfold Region.wanted
        cases hg : o.guard with
        | none => rfl
        | some gw =>
          obtain ⟨g, want⟩ := gw
          have hy : yielded ops a.tmps g = yielded ops b.tmps g := by
            unfold yielded
            cases ht : (ops[g]?).bind (·.dst) with
            | none => rfl
            | some t =>
              have := hloc t (List.mem_append_right _ (by simp [hg, ht]))
              simp only [Option.bind_some, this]
          simp only [hy]
      -- what is behind it
      have next : ∀ (v : Value) (w' : World), F i (keepV o v) w' → R w w' → wpAny P md ops Q fuel (listed.setIfInBounds i true) (a.put o.dst v) w' := by
        intro v w' hv hR'
        have hdo' : dstOf ops i = o.dst := by simp [dstOf, ho]
        refine ih _ _ _ (by have := unlisted_set (ops := ops) hlt hs h0; omega) (by simpa using hs) (htrans _ _ _ hR hR') ⟨by rw [put_defs]; exact hL.defers, by rw [put_size]; exact hL.size, fun t ht => ?_⟩ (fun j hj hjl k hk => ?_) (fun k hk hkl => ?_) (fun k hk hkl => ?_)
        · have hse : (listed.setIfInBounds i true).getD i true = true := by
            have hlt' : i < listed.size := by omega
            simp [hlt']
          rw [put_ne _ _ _ (by intro hd; rw [← hdo'] at hd; have := ht i hil hd; rw [hse] at this; cases this)]
          refine hL.same t fun j hj hd => ?_
          have h1 := ht j hj hd
          by_cases hji : i = j
          · subst hji; rw [hse] at h1; cases h1
          · rw [getD_set_ne true hji] at h1; exact h1
        · have up : listed.getD k true = true → (listed.setIfInBounds i true).getD k true = true := fun h => by
            by_cases hik : i = k
            · subst hik
              have hlt' : i < listed.size := by omega
              simp [hlt']
            · rw [getD_set_ne true hik]; exact h
          by_cases hji : i = j
          · subst hji; exact up (hwl k hk).2
          · rw [getD_set_ne true hji] at hjl
            exact up (hcl j hj hjl k hk)
        · have := hout k hk hkl
          rw [getD_set_ne true (fun e => hkl (by rw [← e]; exact hil))]
          exact this
        · by_cases hki : k = i
          · subst hki
            have : slotAt ops (a.put o.dst v) k = keepV o v := by
              unfold slotAt keepV
              rw [hdo']
              cases hdd : o.dst with
              | none => rfl
              | some d =>
                have hds := (hdst d hdd).1
                simp only [Array.getD_eq_getD_getElem?]
                rw [put_eq _ _ _ (by rw [hL.size]; exact hds)]
                rfl
            rw [this]; exact hv
          · have hl' : listed.getD k true = true := by
              rw [getD_set_ne true (Ne.symm hki)] at hkl
              exact hkl
            have hsl : slotAt ops (a.put o.dst v) k = slotAt ops a k := by
              unfold slotAt
              cases hdk : dstOf ops k with
              | none => rfl
              | some d =>
                simp only [Array.getD_eq_getD_getElem?]
                rw [put_ne _ _ _ (fun e => (hdst d e).2 k hk hki hdk)]
            rw [hsl]
            exact hF _ _ _ _ (hin k hk hl') hR'
      unfold wpOp
      simp only [ho]
      rw [hwa]
      split
      · rename_i hw
        rw [if_pos hw] at hd
        refine .inl ?_
        have hd2 : o.wp P b w (fun a' w' => ∃ v, a' = b.put o.dst v ∧ F i (keepV o v) w' ∧ R w w') NoQ := hd
        unfold Oper.wp at hd2 ⊢
        rw [hev]
        have hbs : ∀ d, o.dst = some d → d < b.tmps.size := fun d hd => by
          rw [← hb, putAll_size]; exact (hdst d hd).1
        generalize (execOp b.eval o).run P w = r at hd2
        cases r with
        | ok n w' =>
          cases n <;> simp only [Oper.upon] at hd2 ⊢
          case value v =>
            obtain ⟨v', e, h1, h2⟩ := hd2
            exact next v w' (by rw [put_inj e hbs]; exact h1) h2
          case skip =>
            obtain ⟨v', e, h1, h2⟩ := hd2
            exact next _ w' (by rw [put_inj e hbs]; exact h1) h2
          case defer d =>
            obtain ⟨v', e, _⟩ := hd2
            have := congrArg Act.defers e
            rw [put_defs, put_defs] at this
            have := congrArg List.length this
            simp at this
          case enter f args =>
            refine Calls.mono hd2 fun e w'' he => ?_
            cases e with
            | returned v =>
              obtain ⟨v', e, h1, h2⟩ := he
              exact next v w'' (by rw [put_inj e hbs]; exact h1) h2
            | panicked c => exact he.elim
            | outgrown => obtain ⟨_, _, hf⟩ := he; exact hf.elim
          case row r args =>
            refine Rows.mono hd2 fun v w'' he => ?_
            obtain ⟨v', e, h1, h2⟩ := he
            exact next v w'' (by rw [put_inj e hbs]; exact h1) h2
        | halt x w' => cases x <;> simp only [Oper.upon] at hd2 ⊢ <;> exact hd2.elim
      · rename_i hw
        rw [if_neg hw] at hd
        exact next _ _ (by unfold keepV; split <;> exact hd) (hrefl _)
  intro fuel hf
  refine main fuel listed0 a0 w0 hf nl (hrefl _) ⟨rfl, rfl, fun _ _ => rfl⟩ (fun j hj hjl => ?_) (fun i hi hil => (nlist i hi).2 hil) (fun i hi hl => ?_)
  · obtain ⟨o, ho, _⟩ := nop j hj
    exact absurd hj ((nlist j (Array.getElem?_eq_some_iff.1 ho).1).1 hjl)
  obtain ⟨o, ho, _⟩ := nop i hi
  exact absurd hi ((nlist i (Array.getElem?_eq_some_iff.1 ho).1).1 hl)
/-- **THE LAW, WITH A LAST OPERATION** that waits for all others (a store, say): it is handed over as it stands, behind the facts of all others -/
theorem wpAny_facts_last {L : Nat} {left : List Nat} {listed0 : Array Bool} {a0 : Act} {w0 : World} (R : World → World → Prop) (F : Nat → Value → World → Prop)
    (hn : neat md ops left listed0 a0.tmps.size = true) (hLl : left.contains L = true) (hwL : (left.all fun i => i == L || (waits md ops left L).contains i) = true) (hrefl : ∀ w, R w w) (htrans : ∀ w w' w'', R w w' → R w' w'' → R w w'')
    (hF : ∀ i v w w', F i v w → R w w' → F i v w') (hdo : ∀ i ∈ waits md ops left L, Does P md ops left R F a0 w0 i)
    (hend : ∀ (u : Nat → Value) (w : World), R w0 w → (∀ j ∈ waits md ops left L, F j (u j) w) → wpOp P ops Q L (fun a w => Q .normal a w) (putAll ops u (waits md ops left L) a0) w) :
    ∀ fuel, unlisted ops.size listed0 ≤ fuel → wpAny P md ops Q fuel listed0 a0 w0 := by
  obtain ⟨nl, ns, nlist, nop⟩ := neat_spec hn
  have hLm : L ∈ left := by simpa using hLl
  have hwm : ∀ i ∈ left, i ≠ L → i ∈ waits md ops left L := fun i hi hne => by
    have := List.all_eq_true.1 hwL i hi
    simp only [Bool.or_eq_true, beq_iff_eq, List.contains_iff_mem] at this
    exact this.resolve_left hne
  have hLL : L ∉ waits md ops left L := fun h => by
    obtain ⟨o, ho, hedge, _⟩ := nop L hLm
    simp only [waits, ho, List.mem_filter] at h
    obtain ⟨e, he, hb⟩ := Array.any_eq_true'.1 h.2
    simp only [Bool.and_eq_true, beq_iff_eq] at hb
    have := (hedge e he hb.1).1
    omega
  have main : ∀ (fuel : Nat) (listed : Array Bool) (a : Act) (w : World), listed.getD L true = false → unlisted ops.size listed ≤ fuel → listed.size = ops.size → R w0 w → Like ops left listed a0 a → (∀ j ∈ left, listed.getD j true = true → ∀ k ∈ waits md ops left j, listed.getD k true = true) →
      (∀ i, i < ops.size → i ∉ left → listed.getD i true = true) → (∀ i ∈ left, listed.getD i true = true → F i (slotAt ops a i) w) → wpAny P md ops Q fuel listed a w := by
    intro fuel
    induction fuel with
    | zero => ?_
    | succ fuel ih => ?_
    all_goals
      intro listed a w hLu hu hs hR hL hcl hout hin
      have hdone : Region.ready md ops listed = [] → Q .normal a w := by
        intro hr
        exfalso
        have hall : ∀ n i, i < n → i ∈ left → listed.getD i true = true := by
          intro n
          induction n with
          | zero => intro i h; omega
          | succ n ihn =>
            intro i hi hil
            cases hlb : listed.getD i true with
            | true => rfl
            | false =>
              exfalso
              obtain ⟨o, ho, hedge, _⟩ := nop i hil
              have : i ∈ Region.ready md ops listed := by
                rw [mem_ready]
                refine ⟨hlb, o, ho, fun e he hb => ?_⟩
                obtain ⟨e1, e2⟩ := hedge e he hb
                have et : listed.getD e.on true = true := by
                  by_cases hel : e.on ∈ left
                  · exact ihn e.on (by omega) hel
                  · exact hout _ e2 hel
                have hlt : e.on < listed.size := by omega
                simp [hlt] at et ⊢
                exact et
              rw [hr] at this
              cases this
        have := hall (L + 1) L (by omega) hLm
        rw [hLu] at this
        cases this
    · -- nothing may be left
      refine ⟨?_, ?_⟩
      · cases hr : Region.ready md ops listed with
        | nil => rfl
        | cons x xs =>
          exfalso
          have hx : x ∈ Region.ready md ops listed := by rw [hr]; exact List.mem_cons_self
          obtain ⟨h0, o, ho, _⟩ := mem_ready.1 hx
          have hlt : x < ops.size := (Array.getElem?_eq_some_iff.1 ho).1
          have := unlisted_set (ops := ops) hlt hs h0
          omega
      · refine hdone ?_
        cases hr : Region.ready md ops listed with
        | nil => rfl
        | cons x xs =>
          exfalso
          have hx : x ∈ Region.ready md ops listed := by rw [hr]; exact List.mem_cons_self
          obtain ⟨h0, o, ho, _⟩ := mem_ready.1 hx
          have hlt : x < ops.size := (Array.getElem?_eq_some_iff.1 ho).1
          have := unlisted_set (ops := ops) hlt hs h0
          omega
    · refine ⟨hdone, fun i hi => ?_⟩
      obtain ⟨h0, o, ho, hpre⟩ := mem_ready.1 hi
      have hlt : i < ops.size := (Array.getElem?_eq_some_iff.1 ho).1
      have hil : i ∈ left := by
        apply Classical.byContradiction
        intro hc
        rw [hout i hlt hc] at h0
        cases h0
      obtain ⟨o', ho', hedge, hdst, hlook⟩ := nop i hil
      rw [ho] at ho'
      injection ho' with ho'
      subst ho'
      have hwl : ∀ j ∈ waits md ops left i, j ∈ left ∧ listed.getD j true = true := by
        intro j hj
        simp only [waits, ho, List.mem_filter] at hj
        refine ⟨hj.1, ?_⟩
        obtain ⟨e, he, hb⟩ := Array.any_eq_true'.1 hj.2
        simp only [Bool.and_eq_true, beq_iff_eq] at hb
        have := hpre e he hb.1
        rw [hb.2] at this
        have hlt' : j < listed.size := by
          rcases Nat.lt_or_ge j listed.size with h' | h'
          · exact h'
          · simp [Array.getElem?_eq_none h'] at this
        simp [hlt'] at this ⊢
        exact this
      by_cases hiL : i = L
      · subst hiL
        have ha : a = putAll ops (slotAt ops a) (waits md ops left i) a0 := by
          have htm : a.tmps = (putAll ops (slotAt ops a) (waits md ops left i) a0).tmps := by
            apply Array.ext_getElem?
            intro t
            by_cases ht : ∀ j ∈ waits md ops left i, dstOf ops j ≠ some t
            · rw [hL.same t (fun j hj hd => by
                by_cases hji : j = i
                · subst hji; exact h0
                · exact absurd hd (ht j (hwm j hj hji))), putAll_ne _ _ _ ht]
            · have : ∃ j, j ∈ waits md ops left i ∧ dstOf ops j = some t := by
                apply Classical.byContradiction
                intro hc
                exact ht fun j hj hd => hc ⟨j, hj, hd⟩
              obtain ⟨j, hj, hd⟩ := this
              obtain ⟨oj, hoj, _, hdj, _⟩ := nop j (hwl j hj).1
              have hd' : oj.dst = some t := by simpa [dstOf, hoj] using hd
              obtain ⟨hlt', huniq⟩ := hdj t hd'
              rw [putAll_eq _ _ _ hj hd hlt' (fun k hk => huniq k (hwl k hk).1), slotAt_get hd (by rw [hL.size]; exact hlt')]
          have hdf := hL.defers
          have e2 := putAll_defers (ops := ops) (slotAt ops a) (waits md ops left i) a0
          cases a
          cases hx : putAll ops (slotAt ops ⟨_, _⟩) (waits md ops left i) a0
          simp_all
        have he := hend (slotAt ops a) w hR (fun j hj => hin j (hwl j hj).1 (hwl j hj).2)
        rw [← ha] at he
        refine wpOp_mono (fun a' w' hq => wpAny_done ?_ hq _) he
        cases hr : Region.ready md ops (listed.setIfInBounds i true) with
        | nil => rfl
        | cons x xs =>
          exfalso
          have hx : x ∈ Region.ready md ops (listed.setIfInBounds i true) := by rw [hr]; exact List.mem_cons_self
          obtain ⟨hx0, ox, hox, _⟩ := mem_ready.1 hx
          have hxlt : x < ops.size := (Array.getElem?_eq_some_iff.1 hox).1
          by_cases hxi : i = x
          · subst hxi
            have hlt' : i < listed.size := by omega
            simp [hlt'] at hx0
          · rw [getD_set_ne true hxi] at hx0
            by_cases hxl : x ∈ left
            · rw [(hwl x (hwm x hxl (Ne.symm hxi))).2] at hx0; cases hx0
            · rw [hout x hxlt hxl] at hx0; cases hx0
      have hd := hdo i (hwm i hil hiL) o ho (slotAt ops a) w hR (fun j hj => hin j (hwl j hj).1 (hwl j hj).2)
      have hloc : ∀ t ∈ o.looksAt ops, (putAll ops (slotAt ops a) (waits md ops left i) a0).tmps[t]? = a.tmps[t]? := by
        intro t ht
        rcases hlook t ht with hno | ⟨j, hj, hjd⟩
        · have hun : ∀ j ∈ left, dstOf ops j = some t → listed.getD j true = false := fun j hj hd => by
            cases hb : listed.getD j true with
            | false => rfl
            | true => rw [hcl j hj hb i (hno j hj hd)] at h0; cases h0
          rw [putAll_ne _ _ _ (fun j hj hd => by have := hun j (hwl j hj).1 hd; rw [(hwl j hj).2] at this; cases this), hL.same t hun]
        · obtain ⟨oj, hoj, _, hdj, _⟩ := nop j (hwl j hj).1
          have hd' : oj.dst = some t := by simpa [dstOf, hoj] using hjd
          obtain ⟨hlt', huniq⟩ := hdj t hd'
          rw [putAll_eq _ _ _ hj hjd hlt' (fun k hk => huniq k (hwl k hk).1), slotAt_get hjd (by rw [hL.size]; exact hlt')]
      generalize hb : putAll ops (slotAt ops a) (waits md ops left i) a0 = b at hd hloc
      have hev : execOp a.eval o = execOp b.eval o := execOp_congr o (fun cs b => Region.noSelect_spec ns i o cs b ho) fun x hx => by
        cases x with
        | tmp t =>
          have := hloc t (List.mem_append_left _ (List.mem_filterMap.2 ⟨.tmp t, by simpa using hx, rfl⟩))
          simp only [Act.eval, Array.getD_eq_getD_getElem?, this]
        | _ => rfl
      have hwa : Region.wanted o (yielded ops a.tmps) = Region.wanted o (yielded ops b.tmps) := by
        unfold Region.wanted
        cases hg : o.guard with
        | none => rfl
        | some gw =>
          obtain ⟨g, want⟩ := gw
          have hy : yielded ops a.tmps g = yielded ops b.tmps g := by
            unfold yielded
            cases ht : (ops[g]?).bind (·.dst) with
            | none => rfl
            | some t =>
              have := hloc t (List.mem_append_right _ (by simp [hg, ht]))
              simp only [Option.bind_some, this]
          simp only [hy]
      -- what is behind it
      have next : ∀ (v : Value) (w' : World), F i (keepV o v) w' → R w w' → wpAny P md ops Q fuel (listed.setIfInBounds i true) (a.put o.dst v) w' := by
        intro v w' hv hR'
        have hdo' : dstOf ops i = o.dst := by simp [dstOf, ho]
        refine ih _ _ _ (by rw [getD_set_ne true hiL]; exact hLu) (by have := unlisted_set (ops := ops) hlt hs h0; omega) (by simpa using hs) (htrans _ _ _ hR hR') ⟨by rw [put_defs]; exact hL.defers, by rw [put_size]; exact hL.size, fun t ht => ?_⟩ (fun j hj hjl k hk => ?_) (fun k hk hkl => ?_) (fun k hk hkl => ?_)
        · have hse : (listed.setIfInBounds i true).getD i true = true := by
            have hlt' : i < listed.size := by omega
            simp [hlt']
          rw [put_ne _ _ _ (by intro hd; rw [← hdo'] at hd; have := ht i hil hd; rw [hse] at this; cases this)]
          refine hL.same t fun j hj hd => ?_
          have h1 := ht j hj hd
          by_cases hji : i = j
          · subst hji; rw [hse] at h1; cases h1
          · rw [getD_set_ne true hji] at h1; exact h1
        · have up : listed.getD k true = true → (listed.setIfInBounds i true).getD k true = true := fun h => by
            by_cases hik : i = k
            · subst hik
              have hlt' : i < listed.size := by omega
              simp [hlt']
            · rw [getD_set_ne true hik]; exact h
          by_cases hji : i = j
          · subst hji; exact up (hwl k hk).2
          · rw [getD_set_ne true hji] at hjl
            exact up (hcl j hj hjl k hk)
        · have := hout k hk hkl
          rw [getD_set_ne true (fun e => hkl (by rw [← e]; exact hil))]
          exact this
        · by_cases hki : k = i
          · subst hki
            have : slotAt ops (a.put o.dst v) k = keepV o v := by
              unfold slotAt keepV
              rw [hdo']
              cases hdd : o.dst with
              | none => rfl
              | some d =>
                have hds := (hdst d hdd).1
                simp only [Array.getD_eq_getD_getElem?]
                rw [put_eq _ _ _ (by rw [hL.size]; exact hds)]
                rfl
            rw [this]; exact hv
          · have hl' : listed.getD k true = true := by
              rw [getD_set_ne true (Ne.symm hki)] at hkl
              exact hkl
            have hsl : slotAt ops (a.put o.dst v) k = slotAt ops a k := by
              unfold slotAt
              cases hdk : dstOf ops k with
              | none => rfl
              | some d =>
                simp only [Array.getD_eq_getD_getElem?]
                rw [put_ne _ _ _ (fun e => (hdst d e).2 k hk hki hdk)]
            rw [hsl]
            exact hF _ _ _ _ (hin k hk hl') hR'
      unfold wpOp
      simp only [ho]
      rw [hwa]
      split
      · rename_i hw
        rw [if_pos hw] at hd
        refine .inl ?_
        have hd2 : o.wp P b w (fun a' w' => ∃ v, a' = b.put o.dst v ∧ F i (keepV o v) w' ∧ R w w') NoQ := hd
        unfold Oper.wp at hd2 ⊢
        rw [hev]
        have hbs : ∀ d, o.dst = some d → d < b.tmps.size := fun d hd => by
          rw [← hb, putAll_size]; exact (hdst d hd).1
        generalize (execOp b.eval o).run P w = r at hd2
        cases r with
        | ok n w' =>
          cases n <;> simp only [Oper.upon] at hd2 ⊢
          case value v =>
            obtain ⟨v', e, h1, h2⟩ := hd2
            exact next v w' (by rw [put_inj e hbs]; exact h1) h2
          case skip =>
            obtain ⟨v', e, h1, h2⟩ := hd2
            exact next _ w' (by rw [put_inj e hbs]; exact h1) h2
          case defer d =>
            obtain ⟨v', e, _⟩ := hd2
            have := congrArg Act.defers e
            rw [put_defs, put_defs] at this
            have := congrArg List.length this
            simp at this
          case enter f args =>
            refine Calls.mono hd2 fun e w'' he => ?_
            cases e with
            | returned v =>
              obtain ⟨v', e, h1, h2⟩ := he
              exact next v w'' (by rw [put_inj e hbs]; exact h1) h2
            | panicked c => exact he.elim
            | outgrown => obtain ⟨_, _, hf⟩ := he; exact hf.elim
          case row r args =>
            refine Rows.mono hd2 fun v w'' he => ?_
            obtain ⟨v', e, h1, h2⟩ := he
            exact next v w'' (by rw [put_inj e hbs]; exact h1) h2
        | halt x w' => cases x <;> simp only [Oper.upon] at hd2 ⊢ <;> exact hd2.elim
      · rename_i hw
        rw [if_neg hw] at hd
        exact next _ _ (by unfold keepV; split <;> exact hd) (hrefl _)
  intro fuel hf
  refine main fuel listed0 a0 w0 (by
    cases hb : listed0.getD L true with
    | false => rfl
    | true =>
      obtain ⟨o, ho, _⟩ := nop L hLm
      exact absurd hLm ((nlist L (Array.getElem?_eq_some_iff.1 ho).1).1 hb)) hf nl (hrefl _) ⟨rfl, rfl, fun _ _ => rfl⟩ (fun j hj hjl => ?_) (fun i hi hil => (nlist i hi).2 hil) (fun i hi hl => ?_)
  · obtain ⟨o, ho, _⟩ := nop j hj
    exact absurd hj ((nlist j (Array.getElem?_eq_some_iff.1 ho).1).1 hjl)
  obtain ⟨o, ho, _⟩ := nop i hi
  exact absurd hi ((nlist i (Array.getElem?_eq_some_iff.1 ho).1).1 hl)
end
end Go.Proofs.Ytndpaehcjaejpaa
