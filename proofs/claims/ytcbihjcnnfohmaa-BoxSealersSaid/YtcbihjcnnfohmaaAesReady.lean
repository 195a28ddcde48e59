/- A key behind a pointer: made at the first use. Contracts of New, ready. -/
import Derived.Test.YtcbihjcnnfohmaaAesOnce
import Derived.Test.YtcbihjcnnfohmaaAesExp
namespace Go.Proofs.Ytcbihjcnnfohmaa.Aes
open Go Go.ChangeShapes Go.WideShapes Go.ChangeAt Go.RowKit Go.Proofs.Ytcbihjcnnfohmaa.Fld
set_option linter.unusedVariables false
set_option linter.unusedSimpArgs false

structure KeyX (w : World) (base : Nat) (B : Nat → Prop) (g : Nat) (key : Blk) (raw rv : Value) (d : Int) (bl ul : List UInt8) : Prop where
  obj : RowV w 74 g (keyObj raw rv d 0 bl ul)
  ok : KeyOk key
  own : Own w 5 base raw key
  bg : B g
  braw : ∀ k, raw.ownBlock = some k → B k ∧ k ≠ g
  brv : ∀ k, rv.ownBlock = some k → B k ∧ k ≠ g
  lt : ∀ k, B k → base ≤ k ∧ k < w.heap.size
/-- not yet asked -/
def KeyF (w : World) (base : Nat) (B : Nat → Prop) (g : Nat) (key : Blk) : Prop := ∃ raw, KeyX w base B g key raw (.slice none 0 0) 0 (bx 0) (ux 0)
/-- asked before -/
def KeyR (w : World) (base : Nat) (B : Nat → Prop) (g : Nat) (key : Blk) : Prop := ∃ raw rv, KeyX w base B g key raw rv 1 sbs uss ∧ w.ownsRow base 80 16 rv (key.length / 4 + 7) (bvs (rounds (key.length / 4) key).flatten)
/-- A KEY of these bytes, its blocks those of B -/
def KeyIs (w : World) (base : Nat) (B : Nat → Prop) (g : Nat) (key : Blk) : Prop := KeyF w base B g key ∨ KeyR w base B g key
section
variable {w w' : World} {base g : Nat} {B : Nat → Prop} {key : Blk} {raw rv : Value} {d : Int} {bl ul : List UInt8}
theorem own_keep_ {e : TypeId} {v : Value} {l : List UInt8} (h : Own w e base v l) (hk : ∀ k, v.ownBlock = some k → w'.heap[k]? = w.heap[k]?) : Own w' e base v l := roww_keep h hk
theorem KeyX.frame {S : Nat → Prop} (h : KeyX w base B g key raw rv d bl ul) (hf : Frame S w w') (hS : ∀ k, B k → S k) : KeyX w' base B g key raw rv d bl ul :=
  ⟨h.obj.keep (hf.block g (hS g h.bg)), h.ok, own_keep_ h.own (fun k hk => hf.block k (hS k (h.braw k hk).1)), h.bg, h.braw, h.brv, fun k hk => ⟨(h.lt k hk).1, Nat.lt_of_lt_of_le (h.lt k hk).2 hf.size⟩⟩
theorem KeyF.frame {S : Nat → Prop} (h : KeyF w base B g key) (hf : Frame S w w') (hS : ∀ k, B k → S k) : KeyF w' base B g key := by
  obtain ⟨raw, hx⟩ := h; exact ⟨raw, hx.frame hf hS⟩
theorem KeyR.frame {S : Nat → Prop} (h : KeyR w base B g key) (hf : Frame S w w') (hS : ∀ k, B k → S k) : KeyR w' base B g key := by
  obtain ⟨raw, rv, hx, hr⟩ := h
  exact ⟨raw, rv, hx.frame hf hS, roww_keep hr (fun k hk => hf.block k (hS k (hx.brv k hk).1))⟩
theorem KeyIs.frame {S : Nat → Prop} (h : KeyIs w base B g key) (hf : Frame S w w') (hS : ∀ k, B k → S k) : KeyIs w' base B g key := h.imp (fun h => h.frame hf hS) (fun h => h.frame hf hS)
theorem KeyIs.lt (h : KeyIs w base B g key) : ∀ k, B k → base ≤ k ∧ k < w.heap.size := by
  rcases h with ⟨raw, hx⟩ | ⟨raw, rv, hx, _⟩ <;> exact hx.lt
theorem KeyIs.ok (h : KeyIs w base B g key) : KeyOk key := by
  rcases h with ⟨raw, hx⟩ | ⟨raw, rv, hx, _⟩ <;> exact hx.ok
theorem KeyR.lt (h : KeyR w base B g key) : ∀ k, B k → base ≤ k ∧ k < w.heap.size := KeyIs.lt (.inr h)
theorem KeyIs.below_ (h : KeyIs w base B g key) (hb : Below w.heap.size w w') : KeyIs w' base B g key := h.frame (Frame.of_below hb (fun k hk => hk)) (fun k hk => (h.lt k hk).2)
theorem KeyR.below_ (h : KeyR w base B g key) (hb : Below w.heap.size w w') : KeyR w' base B g key := h.frame (Frame.of_below hb (fun k hk => hk)) (fun k hk => (h.lt k hk).2)
end
/-- what is no block of a key -/
def Off (w : World) (B : Nat → Prop) (k : Nat) : Prop := k < w.heap.size ∧ ¬ B k
theorem KeyOk.four {key : Blk} (h : KeyOk key) : (key.length / 4 = 4 ∨ key.length / 4 = 8) ∧ key.length = 4 * (key.length / 4) := by
  rcases h with h | h <;> rw [h] <;> exact ⟨by decide, rfl⟩
set_option maxRecDepth 100000 in
theorem run_build_key (A : Option Addr) (n c : Nat) (w : World) : (Instr.build 74 #[(0, .slice A n c)]).run Try.prog w = .ok (.agg (keyObj (.slice A n c) (.slice none 0 0) 0 0 (bx 0) (ux 0)).toArray) w := by kernel_rfl
theorem wpList_build_key {ops : Array Oper} {rest : List Oper} {o : Oper} {a : Act} {w : World} {Q : Exit → Act → World → Prop} (hgd : o.guard = none) (x : Operand) (ho : o.op = .build 74 #[(0, x)]) (A : Option Addr) (n c : Nat) (hx : a.eval x = .slice A n c)
    (h : wpList Try.prog ops Q rest (a.put o.dst (.agg (keyObj (.slice A n c) (.slice none 0 0) 0 0 (bx 0) (ux 0)).toArray)) w) : wpList Try.prog ops Q (o :: rest) a w := by
  refine wpList_plain hgd fun _ hK => ?_
  have hr := run_build_key A n c w
  unfold Oper.wp execOp
  simp only [ho, List.map_toArray, List.map_cons, List.map_nil, hx, hr, Sem.run_bind, Sem.run_pure, Result.andThen_ok]
  exact hK _ _ h
set_option maxRecDepth 100000 in
set_option maxHeartbeats 1000000 in
theorem new_any (A : Option Addr) (n c : Nat) (l : List UInt8) (w : World) (Bd : Nat) (hB : Bd ≤ w.heap.size) (hn : l.length = n) (hr : Rd w Bd A l) (hk : KeyOk l) :
    Calls Try.prog 17 #[.slice A n c] w fun e w' => ∃ g B, e = .returned (.tuple #[.pointer (some ⟨g, 0, none⟩), .int .i64 0]) ∧ KeyF w' w.heap.size B g l ∧ Below w.heap.size w w' := by
  have hK := Lib.hid hk
  have hm : n = 16 ∨ n = 32 := by rw [← hn]; exact hk
  have HN := Lib.hid hn
  have HR := Lib.hid hr
  clear hn hr hk
  have hz : keyObj (.slice none 0 0) (.slice none 0 0) 0 0 (bx 0) (ux 0) = keyObj (.slice none 0 0) (.slice none 0 0) 0 0 (bx 0) (ux 0) := rfl
  rcases hm with rfl | rfl
  all_goals
    go_enter Try.func17, Try.ntmps17
    go_wp2_with fail
    refine (bclone_any A _ c l _ Bd hB HN.out (by omega) HR.out).mono ?_
    rintro e w1 ⟨v, rfl, hO, hb⟩
    obtain ⟨A1, c1, rfl, _, _⟩ := hO.form
    rw [HN.out] at hO ⊢
    have HO := Lib.hid hO
    have HB := Lib.hid hb
    clear hO hb
    go_wp2_with (with_reducible refine at_slot 14 ?_
                 refine wpList_build_key rfl _ rfl A1 _ c1 rfl ?_)
    go_ret2
    refine ⟨w1.heap.size, fun k => k = w1.heap.size ∨ (Value.slice A1 l.length c1).ownBlock = some k, rfl, ⟨_, heap_alloc_new w1 _, hK.out, ?_, .inl rfl, fun k hk => ?_, (fun k hk => by cases hk), fun k hk => ?_⟩, HB.out.alloc HB.out.size _⟩
    · exact (HO.out.alloc _)
    · exact ⟨.inr (by rw [HN.out]; exact hk), by have := (HO.out.lt k hk).2; omega⟩
    · rcases hk with rfl | hk
      · exact ⟨HB.out.size, by simp⟩
      · rw [HN.out] at hk
        have := HO.out.lt k hk
        exact ⟨this.1, by simp; omega⟩
theorem new_no (A : Option Addr) (n c : Nat) (l : List UInt8) (w : World) (hn : l.length = n) (hk : ¬ KeyOk l) :
    Calls Try.prog 17 #[.slice A n c] w fun e w' => e = .returned (.tuple #[.pointer none, .int .i64 1]) ∧ w = w' := by
  have h16 : ¬ n = 16 := fun h => hk (.inl (hn.trans h))
  have h32 : ¬ n = 32 := fun h => hk (.inr (hn.trans h))
  have b16 : ((n : Int) != 16) = true := by rw [bne_iff_ne]; omega
  have b32 : ((n : Int) != 32) = true := by rw [bne_iff_ne]; omega
  clear hn hk h16 h32
  go_enter Try.func17, Try.ntmps17
  go_wp2_with fail
  go_ret2
  exact ⟨rfl, rfl⟩
set_option maxRecDepth 100000 in
set_option maxHeartbeats 1000000 in
theorem clos_any (g : Nat) (pl : Addr) (A : Option Addr) (c n : Nat) (d st : Int) (key : Blk) (hn : n = 4 ∨ n = 8) (hkl : key.length = 4 * n) (w : World) (hp : w.cell? pl = some (.pointer (some ⟨g, 0, none⟩))) (hpl : pl.block ≠ g) (hpb : pl.block < w.heap.size)
    (hg : RowV w 74 g (keyObj (.slice A (4 * n) c) (.slice none 0 0) d st (bx 0) (ux 0))) (hA : ∀ a, A = some a → a.block ≠ g) (hr : Rd w w.heap.size A key) :
    Calls Try.prog 70 #[.pointer (some pl)] w fun e w' => e = .returned (.tuple #[]) ∧ ∃ rv, RowV w' 74 g (keyObj (.slice A (4 * n) c) rv d st sbs uss) ∧ w'.ownsRow w.heap.size 80 16 rv (n + 7) (bvs (rounds n key).flatten) ∧ Frame (But w g) w w' := by
  have HN := Lib.hid hn
  have HK := Lib.hid hkl
  have HG := Lib.hid hg
  have HR := Lib.hid hr
  clear hn hkl hg hr
  go_enter Try.func70, Try.ntmps70
  go_wp2_with fail
  refine (maps_any g _ _ d st _ HG.out).mono ?_
  rintro e w1 ⟨rfl, h1, hf1⟩
  have hp1 : w1.cell? pl = some (.pointer (some ⟨g, 0, none⟩)) := (World.cell?_of_block (hf1.block pl.block ⟨hpb, hpl⟩)).trans hp
  have hr1 : Rd w1 w1.heap.size A key := fun h0 => by
    obtain ⟨ad, rfl, hb, hc⟩ := HR.out h0
    refine ⟨ad, rfl, Nat.lt_of_lt_of_le hb hf1.size, fun j hj => (World.cell?_of_block ?_).trans (hc j hj)⟩
    rw [add_block]; exact hf1.block _ ⟨hb, hA _ rfl⟩
  have H1 := Lib.hid h1
  have HF1 := Lib.hid hf1
  have HR1 := Lib.hid hr1
  clear h1 hf1 hr1
  go_wp2_with fail
  refine (expand_any g A c n d st key HN.out HK.out _ H1.out HR1.out).mono ?_
  rintro e w2 ⟨rfl, rv, h2, hrv, hf2⟩
  have hrv2 := roww_mono (base' := w.heap.size) hrv (fun k hk => Nat.le_trans HF1.out.size (World.ownsRow.lt hrv k hk).1)
  have hf := Frame.trans HF1.out hf2 (fun k hk => ⟨Nat.lt_of_lt_of_le hk.1 HF1.out.size, hk.2⟩)
  have H2 := Lib.hid h2
  have HRV := Lib.hid hrv2
  have HF := Lib.hid hf
  clear h2 hrv hrv2 hf2 hf
  go_wp2_with fail
  go_end0
  exact ⟨rfl, rv, H2.out, HRV.out, HF.out⟩
set_option maxRecDepth 100000 in
set_option maxHeartbeats 1000000 in
theorem ready_any (base : Nat) (B : Nat → Prop) (g : Nat) (key : Blk) (w : World) (h : KeyIs w base B g key) (hbase : base ≤ w.heap.size) :
    Calls Try.prog 46 #[.pointer (some ⟨g, 0, none⟩)] w fun e w' => e = .returned (.tuple #[]) ∧ ∃ B', KeyR w' base B' g key ∧ Frame (Off w B) w w' ∧ ∀ k, B' k → B k ∨ w.heap.size ≤ k := by
  have hmf : ∀ (fn : Fn) (first cap : Array Value) (w : World), (Instr.makeFunc fn first cap).run Try.prog w = .ok (.func fn first cap) w := fun _ _ _ _ => rfl
  have hgl : g < w.heap.size := by
    rcases h with ⟨raw, hx⟩ | ⟨raw, rv, hx, _⟩ <;> exact hx.obj.lt
  have hfa : Frame (fun k => k < w.heap.size) w (w.alloc (.cells #[.pointer (some ⟨g, 0, none⟩)] 24)) := (Frame.refl _ _).alloc (fun b h => h) _
  have hpa : (w.alloc (.cells #[.pointer (some ⟨g, 0, none⟩)] 24)).cell? ⟨w.heap.size, 0, none⟩ = some (.pointer (some ⟨g, 0, none⟩)) := by rw [cell_of_row _ _ 0 _ _ (0, 0) (heap_alloc_new w _)]; rfl
  rcases h with ⟨raw, hx⟩ | ⟨raw, rv, hx, hrv⟩
  · obtain ⟨A, c, rfl, hRd, _⟩ := hx.own.form
    obtain ⟨hn, hkl⟩ := hx.ok.four
    obtain ⟨n, hne⟩ : ∃ n, key.length / 4 = n := ⟨_, rfl⟩
    rw [hne] at hn hkl
    have hob : RowV (w.alloc (.cells #[.pointer (some ⟨g, 0, none⟩)] 24)) 74 g (keyObj (.slice A (4 * n) c) (.slice none 0 0) 0 0 (bx 0) (ux 0)) := by rw [← hkl]; exact hx.obj.alloc _
    have hA : ∀ a, A = some a → a.block ≠ g := fun a e => (hx.braw a.block (by rw [e]; rfl)).2
    have hrA : Rd (w.alloc (.cells #[.pointer (some ⟨g, 0, none⟩)] 24)) w.heap.size A key := hRd.alloc (Nat.le_refl _) _
    generalize hwa : w.alloc (.cells #[.pointer (some ⟨g, 0, none⟩)] 24) = wa at *
    have hzs : wa.heap.size = w.heap.size + 1 := by rw [← hwa]; simp
    have d0 := hob.cell ko_done
    have d1 := hob.cell ko_state
    have f1 := hob.frozen 2
    have hob1 : RowV (wa.setCell ⟨g, 2, none⟩ (.int .i32 1)) 74 g (keyObj (.slice A (4 * n) c) (.slice none 0 0) 0 1 (bx 0) (ux 0)) := hob.set 2 _
    have hp1 : (wa.setCell ⟨g, 2, none⟩ (.int .i32 1)).cell? ⟨w.heap.size, 0, none⟩ = some (.pointer (some ⟨g, 0, none⟩)) := (World.cell?_setCell_other _ ⟨g, 2, none⟩ ⟨w.heap.size, 0, none⟩ _ (fun e => by injection e with e; omega)).trans hpa
    have hr1 : Rd (wa.setCell ⟨g, 2, none⟩ (.int .i32 1)) (wa.setCell ⟨g, 2, none⟩ (.int .i32 1)).heap.size A key := fun h0 => by
      obtain ⟨ad, rfl, hb, hc⟩ := hrA h0
      refine ⟨ad, rfl, by simp; omega, fun j hj => (World.cell?_of_block ?_).trans (hc j hj)⟩
      rw [add_block]
      exact heap_setCell_other wa ⟨g, 2, none⟩ _ _ (hA _ rfl)
    have hc := clos_any g ⟨w.heap.size, 0, none⟩ A c n 0 1 key hn hkl (wa.setCell ⟨g, 2, none⟩ (.int .i32 1)) hp1 (by show w.heap.size ≠ g; omega) (by simp; omega) hob1 hA hr1
    have hdo := do_first g 1 ⟨w.heap.size, 0, none⟩ wa (fun w2 => ∃ rv, RowV w2 74 g (keyObj (.slice A (4 * n) c) rv 0 1 sbs uss) ∧ w2.ownsRow wa.heap.size 80 16 rv (n + 7) (bvs (rounds n key).flatten) ∧ Frame (But wa g) wa w2) d0 d1 f1
      (hc.mono (fun e w2 ⟨he, rv, h2, hrv, hf⟩ => ⟨he, ⟨rv, h2, by simpa using hrv, ⟨hf.os, hf.tape, hf.output, by have := hf.size; simpa using this, fun k hk => (hf.block k ⟨by simpa using hk.1, hk.2⟩).trans (heap_setCell_other wa ⟨g, 2, none⟩ k _ (fun e => hk.2 e))⟩⟩, ⟨⟨_, h2.cell ko_done⟩, h2.frozen 1, h2.cell ko_state, h2.frozen 2⟩⟩))
    have HDO := Lib.hid hdo
    have HX := Lib.hid hx
    have HFA := Lib.hid hfa
    have HWA := Lib.hid hwa
    have HNE := Lib.hid hne
    have HKL := Lib.hid hkl
    clear hwa hdo hc hr1 hp1 hob1 d0 d1 f1 hA hrA hob hx hfa hne hn hkl hRd
    go_enter Try.func46, Try.ntmps46
    go_wp2_with fail
    rw [HWA.out]
    refine HDO.out.mono ?_
    rintro e w3 ⟨rfl, w2, ⟨rv, h2, hrv, hf⟩, rfl⟩
    have h3 : RowV ((w2.drew.setCell ⟨g, 1, none⟩ (.int .u32 1)).setCell ⟨g, 1 + 1, none⟩ (.int .i32 0)) 74 g (keyObj (.slice A (4 * n) c) rv 1 0 sbs uss) := (RowV.set (w := w2.drew) h2 1 (.int .u32 1)).set 2 (.int .i32 0)
    have hF : Frame (But w g) w ((w2.drew.setCell ⟨g, 1, none⟩ (.int .u32 1)).setCell ⟨g, 1 + 1, none⟩ (.int .i32 0)) :=
      (Frame.setCell (Frame.setCell (Frame.drew (Frame.trans (T := But wa g) (HFA.out.mono (T := But w g) (fun k hk => hk.1)) hf (fun k hk => ⟨by have := hk.1; omega, hk.2⟩))) (fun hk => hk.2 rfl) _) (fun hk => hk.2 rfl) _)
    have hrv3 : ((w2.drew.setCell ⟨g, 1, none⟩ (.int .u32 1)).setCell ⟨g, 1 + 1, none⟩ (.int .i32 0)).ownsRow wa.heap.size 80 16 rv (n + 7) (bvs (rounds n key).flatten) := roww_keep hrv (fun k hk => by
      have hk' := (World.ownsRow.lt hrv k hk).1
      rw [heap_setCell_other _ ⟨g, 1 + 1, none⟩ k _ (fun e => by have e' : k = g := e; omega), heap_setCell_other _ ⟨g, 1, none⟩ k _ (fun e => by have e' : k = g := e; omega)]
      rfl)
    generalize (w2.drew.setCell ⟨g, 1, none⟩ (.int .u32 1)).setCell ⟨g, 1 + 1, none⟩ (.int .i32 0) = W3 at *
    have H3 := Lib.hid h3
    have HF := Lib.hid hF
    have HRV := Lib.hid hrv3
    clear h3 hF hrv3 h2 hrv hf
    go_wp2_with fail
    go_end0
    have hX := HX.out
    refine ⟨rfl, fun k => B k ∨ rv.ownBlock = some k, ⟨.slice A (4 * n) c, rv, ⟨H3.out, hX.ok, ?_, .inl hX.bg, ?_, ?_, ?_⟩, ?_⟩, HF.out.mono (fun k hk => ⟨hk.1, fun e => hk.2 (e ▸ hX.bg)⟩), ?_⟩
    · rw [← HKL.out]; exact own_keep_ hX.own (fun k hk => HF.out.block k ⟨(hX.lt k (hX.braw k hk).1).2, (hX.braw k hk).2⟩)
    · intro k hk
      have := hX.braw k (by rw [HKL.out]; exact hk)
      exact ⟨.inl this.1, this.2⟩
    · intro k hk
      exact ⟨.inr hk, fun e => by have := (World.ownsRow.lt HRV.out k hk).1; omega⟩
    · intro k hk
      rcases hk with hk | hk
      · exact ⟨(hX.lt k hk).1, Nat.lt_of_lt_of_le (hX.lt k hk).2 HF.out.size⟩
      · have := World.ownsRow.lt HRV.out k hk
        exact ⟨by omega, this.2⟩
    · rw [HNE.out]; exact roww_mono HRV.out (fun k hk => by have := (World.ownsRow.lt HRV.out k hk).1; omega)
    · intro k hk
      rcases hk with hk | hk
      · exact .inl hk
      · have := (World.ownsRow.lt HRV.out k hk).1
        exact .inr (by omega)
  · have hob : RowV (w.alloc (.cells #[.pointer (some ⟨g, 0, none⟩)] 24)) 74 g (keyObj raw rv 1 0 sbs uss) := hx.obj.alloc _
    have d0 := hob.cell ko_done
    have HX := Lib.hid hx
    have HRV := Lib.hid hrv
    have HFA := Lib.hid hfa
    clear hx hrv hfa hob
    go_enter Try.func46, Try.ntmps46
    go_wp2_with fail
    refine (do_done ⟨g, 1, none⟩ 1 (by omega) _ _ d0).mono ?_
    rintro e w2 ⟨rfl, rfl⟩
    go_wp2_with fail
    go_end0
    exact ⟨rfl, B, KeyR.frame ⟨raw, rv, HX.out, HRV.out⟩ HFA.out (fun k hk => (HX.out.lt k hk).2), HFA.out.mono (fun k hk => hk.1), fun k hk => .inl hk⟩
end Go.Proofs.Ytcbihjcnnfohmaa.Aes
