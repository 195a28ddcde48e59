/- A key behind a pointer: made at the first use. Contracts of New, ready. -/
import Derived.Test.YtkgnnlglabihkaaGreatDoorAesOnce
import Derived.Test.YtkgnnlglabihkaaGreatDoorAesExp
import Derived.Test.YtkgnnlglabihkaaGreatDoorMemAll
import Derived.Laws.StructEq
namespace Go.Proofs.YtkgnnlglabihkaaGreatDoor.Aes
open Go Go.ChangeShapes Go.WideShapes Go.ChangeAt Go.RowKit Go.Proofs.YtkgnnlglabihkaaGreatDoor.Fld
set_option linter.unusedVariables false
set_option linter.unusedSimpArgs false

structure KeyX (w : World) (base : Nat) (B : Nat → Prop) (g : Nat) (key : Blk) (raw rv : Value) (d : Int) (bl ul : List UInt8) : Prop where
  obj : RowV w 117 g (keyObj raw rv d 0 bl ul)
  ok : KeyOk key
  own : Own w 5 base raw key
  bg : B g
  braw : ∀ k, raw.ownBlock = some k → B k ∧ k ≠ g
  brv : ∀ k, rv.ownBlock = some k → B k ∧ k ≠ g
  lt : ∀ k, B k → base ≤ k ∧ k < w.heap.size
/-- not yet asked -/
def KeyF (w : World) (base : Nat) (B : Nat → Prop) (g : Nat) (key : Blk) : Prop := ∃ raw, KeyX w base B g key raw (.slice none 0 0) 0 (bx 0) (ux 0)
/-- asked before -/
def KeyR (w : World) (base : Nat) (B : Nat → Prop) (g : Nat) (key : Blk) : Prop := ∃ raw rv, KeyX w base B g key raw rv 1 sbs uss ∧ w.ownsRow base 166 16 rv (key.length / 4 + 7) (bvs (rounds (key.length / 4) key).flatten)
/-- A KEY of these bytes, its blocks those of B -/
def KeyIs (w : World) (base : Nat) (B : Nat → Prop) (g : Nat) (key : Blk) : Prop := KeyF w base B g key ∨ KeyR w base B g key
section
variable {w w' : World} {base g : Nat} {B : Nat → Prop} {key : Blk} {raw rv : Value} {d : Int} {bl ul : List UInt8}
theorem own_keep_ {e : TypeId} {v : Value} {l : List UInt8} (h : Own w e base v l) (hk : ∀ k, v.ownBlock = some k → w'.heap[k]? = w.heap[k]?) : Own w' e base v l := roww_keep h hk
theorem KeyX.frame {S : Nat → Prop} (h : KeyX w base B g key raw rv d bl ul) (hf : Frame S w w') (hS : ∀ k, B k → S k) : KeyX w' base B g key raw rv d bl ul :=
  ⟨h.obj.keep (hf.block g (hS g h.bg)), h.ok, own_keep_ h.own (fun k hk => hf.block k (hS k (h.braw k hk).1)), h.bg, h.braw, h.brv, fun k hk => ⟨(h.lt k hk).1, Nat.lt_of_lt_of_le (h.lt k hk).2 hf.size⟩⟩
theorem KeyF.frame {S : Nat → Prop} (h : KeyF w base B g key) (hf : Frame S w w') (hS : ∀ k, B k → S k) : KeyF w' base B g key := by
  obtain ⟨raw, hx⟩ := h; exact ⟨raw, hx.frame hf hS⟩
theorem KeyR.frame {S : Nat → Prop} (h : KeyR w base B g key) (hf : Frame S w w') (hS : ∀ k, B k → S k) : KeyR w' base B g key := by
  obtain ⟨raw, rv, hx, hr⟩ := h
  exact ⟨raw, rv, hx.frame hf hS, roww_keep hr (fun k hk => hf.block k (hS k (hx.brv k hk).1))⟩
theorem KeyIs.frame {S : Nat → Prop} (h : KeyIs w base B g key) (hf : Frame S w w') (hS : ∀ k, B k → S k) : KeyIs w' base B g key := h.imp (fun h => h.frame hf hS) (fun h => h.frame hf hS)
theorem KeyIs.lt (h : KeyIs w base B g key) : ∀ k, B k → base ≤ k ∧ k < w.heap.size := by
  rcases h with ⟨raw, hx⟩ | ⟨raw, rv, hx, _⟩ <;> exact hx.lt
theorem KeyIs.ok (h : KeyIs w base B g key) : KeyOk key := by
  rcases h with ⟨raw, hx⟩ | ⟨raw, rv, hx, _⟩ <;> exact hx.ok
theorem KeyR.lt (h : KeyR w base B g key) : ∀ k, B k → base ≤ k ∧ k < w.heap.size := KeyIs.lt (.inr h)
theorem KeyIs.below_ (h : KeyIs w base B g key) (hb : Below w.heap.size w w') : KeyIs w' base B g key := h.frame (Frame.of_below hb (fun k hk => hk)) (fun k hk => (h.lt k hk).2)
theorem KeyR.below_ (h : KeyR w base B g key) (hb : Below w.heap.size w w') : KeyR w' base B g key := h.frame (Frame.of_below hb (fun k hk => hk)) (fun k hk => (h.lt k hk).2)
end
/-- what is no block of a key -/
def Off (w : World) (B : Nat → Prop) (k : Nat) : Prop := k < w.heap.size ∧ ¬ B k
theorem KeyOk.four {key : Blk} (h : KeyOk key) : (key.length / 4 = 4 ∨ key.length / 4 = 8) ∧ key.length = 4 * (key.length / 4) := by
  rcases h with h | h <;> rw [h] <;> exact ⟨by decide, rfl⟩
set_option maxRecDepth 100000 in
theorem run_build_key (A : Option Addr) (n c : Nat) (w : World) : (Instr.build 117 #[(0, .slice A n c)]).run Tryz.prog w = .ok (.agg (keyObj (.slice A n c) (.slice none 0 0) 0 0 (bx 0) (ux 0)).toArray) w := by kernel_rfl
theorem wpList_build_key {ops : Array Oper} {rest : List Oper} {o : Oper} {a : Act} {w : World} {Q : Exit → Act → World → Prop} (hgd : o.guard = none) (x : Operand) (ho : o.op = .build 117 #[(0, x)]) (A : Option Addr) (n c : Nat) (hx : a.eval x = .slice A n c)
    (h : wpList Tryz.prog ops Q rest (a.put o.dst (.agg (keyObj (.slice A n c) (.slice none 0 0) 0 0 (bx 0) (ux 0)).toArray)) w) : wpList Tryz.prog ops Q (o :: rest) a w := by
  refine wpList_plain hgd fun _ hK => ?_
  have hr := run_build_key A n c w
  unfold Oper.wp execOp
  simp only [ho, List.map_toArray, List.map_cons, List.map_nil, hx, hr, Sem.run_bind, Sem.run_pure, Result.andThen_ok]
  exact hK _ _ h
set_option maxRecDepth 100000 in
set_option maxHeartbeats 1000000 in
theorem new_any (A : Option Addr) (n c : Nat) (l : List UInt8) (w : World) (Bd : Nat) (hB : Bd ≤ w.heap.size) (hn : l.length = n) (hr : Rd w Bd A l) (hk : KeyOk l) :
    Calls Tryz.prog 29 #[.slice A n c] w fun e w' => ∃ g B, e = .returned (.tuple #[.pointer (some ⟨g, 0, none⟩), .int .i64 0]) ∧ KeyF w' w.heap.size B g l ∧ Below w.heap.size w w' := by
  have hK := Lib.hid hk
  have hm : n = 16 ∨ n = 32 := by rw [← hn]; exact hk
  have HN := Lib.hid hn
  have HR := Lib.hid hr
  clear hn hr hk
  have hz : keyObj (.slice none 0 0) (.slice none 0 0) 0 0 (bx 0) (ux 0) = keyObj (.slice none 0 0) (.slice none 0 0) 0 0 (bx 0) (ux 0) := rfl
  rcases hm with rfl | rfl
  all_goals
    go_enter Tryz.func29, Tryz.ntmps29
    go_wp2_with fail
    refine (bclone_any A _ c l _ Bd hB HN.out (by omega) HR.out).mono ?_
    rintro e w1 ⟨v, rfl, hO, hb⟩
    obtain ⟨A1, c1, rfl, _, _⟩ := hO.form
    rw [HN.out] at hO ⊢
    have HO := Lib.hid hO
    have HB := Lib.hid hb
    clear hO hb
    go_wp2_with (with_reducible refine at_slot 14 ?_
                 refine wpList_build_key rfl _ rfl A1 _ c1 rfl ?_)
    go_ret2
    refine ⟨w1.heap.size, fun k => k = w1.heap.size ∨ (Value.slice A1 l.length c1).ownBlock = some k, rfl, ⟨_, heap_alloc_new w1 _, hK.out, ?_, .inl rfl, fun k hk => ?_, (fun k hk => by cases hk), fun k hk => ?_⟩, HB.out.alloc HB.out.size _⟩
    · exact (HO.out.alloc _)
    · exact ⟨.inr (by rw [HN.out]; exact hk), by have := (HO.out.lt k hk).2; omega⟩
    · rcases hk with rfl | hk
      · exact ⟨HB.out.size, by simp⟩
      · rw [HN.out] at hk
        have := HO.out.lt k hk
        exact ⟨this.1, by simp; omega⟩
theorem new_no (A : Option Addr) (n c : Nat) (l : List UInt8) (w : World) (hn : l.length = n) (hk : ¬ KeyOk l) :
    Calls Tryz.prog 29 #[.slice A n c] w fun e w' => e = .returned (.tuple #[.pointer none, .int .i64 1]) ∧ w = w' := by
  have h16 : ¬ n = 16 := fun h => hk (.inl (hn.trans h))
  have h32 : ¬ n = 32 := fun h => hk (.inr (hn.trans h))
  have b16 : ((n : Int) != 16) = true := by rw [bne_iff_ne]; omega
  have b32 : ((n : Int) != 32) = true := by rw [bne_iff_ne]; omega
  clear hn hk h16 h32
  go_enter Tryz.func29, Tryz.ntmps29
  go_wp2_with fail
  go_ret2
  exact ⟨rfl, rfl⟩
set_option maxRecDepth 100000 in
set_option maxHeartbeats 1000000 in
theorem clos_any (g : Nat) (pl : Addr) (A : Option Addr) (c n : Nat) (d st : Int) (key : Blk) (hn : n = 4 ∨ n = 8) (hkl : key.length = 4 * n) (w : World) (hp : w.cell? pl = some (.pointer (some ⟨g, 0, none⟩))) (hpl : pl.block ≠ g) (hpb : pl.block < w.heap.size)
    (hg : RowV w 117 g (keyObj (.slice A (4 * n) c) (.slice none 0 0) d st (bx 0) (ux 0))) (hA : ∀ a, A = some a → a.block ≠ g) (hr : Rd w w.heap.size A key) :
    Calls Tryz.prog 111 #[.pointer (some pl)] w fun e w' => e = .returned (.tuple #[]) ∧ ∃ rv, RowV w' 117 g (keyObj (.slice A (4 * n) c) rv d st sbs uss) ∧ w'.ownsRow w.heap.size 166 16 rv (n + 7) (bvs (rounds n key).flatten) ∧ Frame (But w g) w w' := by
  have HN := Lib.hid hn
  have HK := Lib.hid hkl
  have HG := Lib.hid hg
  have HR := Lib.hid hr
  clear hn hkl hg hr
  go_enter Tryz.func111, Tryz.ntmps111
  go_wp2_with fail
  refine (maps_any g _ _ d st _ HG.out).mono ?_
  rintro e w1 ⟨rfl, h1, hf1⟩
  have hp1 : w1.cell? pl = some (.pointer (some ⟨g, 0, none⟩)) := (World.cell?_of_block (hf1.block pl.block ⟨hpb, hpl⟩)).trans hp
  have hr1 : Rd w1 w1.heap.size A key := fun h0 => by
    obtain ⟨ad, rfl, hb, hc⟩ := HR.out h0
    refine ⟨ad, rfl, Nat.lt_of_lt_of_le hb hf1.size, fun j hj => (World.cell?_of_block ?_).trans (hc j hj)⟩
    rw [add_block]; exact hf1.block _ ⟨hb, hA _ rfl⟩
  have H1 := Lib.hid h1
  have HF1 := Lib.hid hf1
  have HR1 := Lib.hid hr1
  clear h1 hf1 hr1
  go_wp2_with fail
  refine (expand_any g A c n d st key HN.out HK.out _ H1.out HR1.out).mono ?_
  rintro e w2 ⟨rfl, rv, h2, hrv, hf2⟩
  have hrv2 := roww_mono (base' := w.heap.size) hrv (fun k hk => Nat.le_trans HF1.out.size (World.ownsRow.lt hrv k hk).1)
  have hf := Frame.trans HF1.out hf2 (fun k hk => ⟨Nat.lt_of_lt_of_le hk.1 HF1.out.size, hk.2⟩)
  have H2 := Lib.hid h2
  have HRV := Lib.hid hrv2
  have HF := Lib.hid hf
  clear h2 hrv hrv2 hf2 hf
  go_wp2_with fail
  go_end0
  exact ⟨rfl, rv, H2.out, HRV.out, HF.out⟩
set_option maxRecDepth 100000 in
set_option maxHeartbeats 1000000 in
theorem ready_any (base : Nat) (B : Nat → Prop) (g : Nat) (key : Blk) (w : World) (h : KeyIs w base B g key) (hbase : base ≤ w.heap.size) :
    Calls Tryz.prog 92 #[.pointer (some ⟨g, 0, none⟩)] w fun e w' => e = .returned (.tuple #[]) ∧ ∃ B', KeyR w' base B' g key ∧ Frame (Off w B) w w' ∧ ∀ k, B' k → B k ∨ w.heap.size ≤ k := by
  have hmf : ∀ (fn : Fn) (first cap : Array Value) (w : World), (Instr.makeFunc fn first cap).run Tryz.prog w = .ok (.func fn first cap) w := fun _ _ _ _ => rfl
  have hgl : g < w.heap.size := by
    rcases h with ⟨raw, hx⟩ | ⟨raw, rv, hx, _⟩ <;> exact hx.obj.lt
  have hfa : Frame (fun k => k < w.heap.size) w (w.alloc (.cells #[.pointer (some ⟨g, 0, none⟩)] 78)) := (Frame.refl _ _).alloc (fun b h => h) _
  have hpa : (w.alloc (.cells #[.pointer (some ⟨g, 0, none⟩)] 78)).cell? ⟨w.heap.size, 0, none⟩ = some (.pointer (some ⟨g, 0, none⟩)) := by rw [cell_of_row _ _ 0 _ _ (0, 0) (heap_alloc_new w _)]; rfl
  rcases h with ⟨raw, hx⟩ | ⟨raw, rv, hx, hrv⟩
  · obtain ⟨A, c, rfl, hRd, _⟩ := hx.own.form
    obtain ⟨hn, hkl⟩ := hx.ok.four
    obtain ⟨n, hne⟩ : ∃ n, key.length / 4 = n := ⟨_, rfl⟩
    rw [hne] at hn hkl
    have hob : RowV (w.alloc (.cells #[.pointer (some ⟨g, 0, none⟩)] 78)) 117 g (keyObj (.slice A (4 * n) c) (.slice none 0 0) 0 0 (bx 0) (ux 0)) := by rw [← hkl]; exact hx.obj.alloc _
    have hA : ∀ a, A = some a → a.block ≠ g := fun a e => (hx.braw a.block (by rw [e]; rfl)).2
    have hrA : Rd (w.alloc (.cells #[.pointer (some ⟨g, 0, none⟩)] 78)) w.heap.size A key := hRd.alloc (Nat.le_refl _) _
    generalize hwa : w.alloc (.cells #[.pointer (some ⟨g, 0, none⟩)] 78) = wa at *
    have hzs : wa.heap.size = w.heap.size + 1 := by rw [← hwa]; simp
    have d0 := hob.cell ko_done
    have d1 := hob.cell ko_state
    have f1 := hob.frozen 2
    have hob1 : RowV (wa.setCell ⟨g, 2, none⟩ (.int .i32 1)) 117 g (keyObj (.slice A (4 * n) c) (.slice none 0 0) 0 1 (bx 0) (ux 0)) := hob.set 2 _
    have hp1 : (wa.setCell ⟨g, 2, none⟩ (.int .i32 1)).cell? ⟨w.heap.size, 0, none⟩ = some (.pointer (some ⟨g, 0, none⟩)) := (World.cell?_setCell_other _ ⟨g, 2, none⟩ ⟨w.heap.size, 0, none⟩ _ (fun e => by injection e with e; omega)).trans hpa
    have hr1 : Rd (wa.setCell ⟨g, 2, none⟩ (.int .i32 1)) (wa.setCell ⟨g, 2, none⟩ (.int .i32 1)).heap.size A key := fun h0 => by
      obtain ⟨ad, rfl, hb, hc⟩ := hrA h0
      refine ⟨ad, rfl, by simp; omega, fun j hj => (World.cell?_of_block ?_).trans (hc j hj)⟩
      rw [add_block]
      exact heap_setCell_other wa ⟨g, 2, none⟩ _ _ (hA _ rfl)
    have hc := clos_any g ⟨w.heap.size, 0, none⟩ A c n 0 1 key hn hkl (wa.setCell ⟨g, 2, none⟩ (.int .i32 1)) hp1 (by show w.heap.size ≠ g; omega) (by simp; omega) hob1 hA hr1
    have hdo := do_first g 1 ⟨w.heap.size, 0, none⟩ wa (fun w2 => ∃ rv, RowV w2 117 g (keyObj (.slice A (4 * n) c) rv 0 1 sbs uss) ∧ w2.ownsRow wa.heap.size 166 16 rv (n + 7) (bvs (rounds n key).flatten) ∧ Frame (But wa g) wa w2) d0 d1 f1
      (hc.mono (fun e w2 ⟨he, rv, h2, hrv, hf⟩ => ⟨he, ⟨rv, h2, by simpa using hrv, ⟨hf.os, hf.tape, hf.output, by have := hf.size; simpa using this, fun k hk => (hf.block k ⟨by simpa using hk.1, hk.2⟩).trans (heap_setCell_other wa ⟨g, 2, none⟩ k _ (fun e => hk.2 e))⟩⟩, ⟨⟨_, h2.cell ko_done⟩, h2.frozen 1, h2.cell ko_state, h2.frozen 2⟩⟩))
    have HDO := Lib.hid hdo
    have HX := Lib.hid hx
    have HFA := Lib.hid hfa
    have HWA := Lib.hid hwa
    have HNE := Lib.hid hne
    have HKL := Lib.hid hkl
    clear hwa hdo hc hr1 hp1 hob1 d0 d1 f1 hA hrA hob hx hfa hne hn hkl hRd
    go_enter Tryz.func92, Tryz.ntmps92
    go_wp2_with fail
    rw [HWA.out]
    refine HDO.out.mono ?_
    rintro e w3 ⟨rfl, w2, ⟨rv, h2, hrv, hf⟩, rfl⟩
    have h3 : RowV ((w2.drew.setCell ⟨g, 1, none⟩ (.int .u32 1)).setCell ⟨g, 1 + 1, none⟩ (.int .i32 0)) 117 g (keyObj (.slice A (4 * n) c) rv 1 0 sbs uss) := (RowV.set (w := w2.drew) h2 1 (.int .u32 1)).set 2 (.int .i32 0)
    have hF : Frame (But w g) w ((w2.drew.setCell ⟨g, 1, none⟩ (.int .u32 1)).setCell ⟨g, 1 + 1, none⟩ (.int .i32 0)) :=
      (Frame.setCell (Frame.setCell (Frame.drew (Frame.trans (T := But wa g) (HFA.out.mono (T := But w g) (fun k hk => hk.1)) hf (fun k hk => ⟨by have := hk.1; omega, hk.2⟩))) (fun hk => hk.2 rfl) _) (fun hk => hk.2 rfl) _)
    have hrv3 : ((w2.drew.setCell ⟨g, 1, none⟩ (.int .u32 1)).setCell ⟨g, 1 + 1, none⟩ (.int .i32 0)).ownsRow wa.heap.size 166 16 rv (n + 7) (bvs (rounds n key).flatten) := roww_keep hrv (fun k hk => by
      have hk' := (World.ownsRow.lt hrv k hk).1
      rw [heap_setCell_other _ ⟨g, 1 + 1, none⟩ k _ (fun e => by have e' : k = g := e; omega), heap_setCell_other _ ⟨g, 1, none⟩ k _ (fun e => by have e' : k = g := e; omega)]
      rfl)
    generalize (w2.drew.setCell ⟨g, 1, none⟩ (.int .u32 1)).setCell ⟨g, 1 + 1, none⟩ (.int .i32 0) = W3 at *
    have H3 := Lib.hid h3
    have HF := Lib.hid hF
    have HRV := Lib.hid hrv3
    clear h3 hF hrv3 h2 hrv hf
    go_wp2_with fail
    go_end0
    have hX := HX.out
    refine ⟨rfl, fun k => B k ∨ rv.ownBlock = some k, ⟨.slice A (4 * n) c, rv, ⟨H3.out, hX.ok, ?_, .inl hX.bg, ?_, ?_, ?_⟩, ?_⟩, HF.out.mono (fun k hk => ⟨hk.1, fun e => hk.2 (e ▸ hX.bg)⟩), ?_⟩
    · rw [← HKL.out]; exact own_keep_ hX.own (fun k hk => HF.out.block k ⟨(hX.lt k (hX.braw k hk).1).2, (hX.braw k hk).2⟩)
    · intro k hk
      have := hX.braw k (by rw [HKL.out]; exact hk)
      exact ⟨.inl this.1, this.2⟩
    · intro k hk
      exact ⟨.inr hk, fun e => by have := (World.ownsRow.lt HRV.out k hk).1; omega⟩
    · intro k hk
      rcases hk with hk | hk
      · exact ⟨(hX.lt k hk).1, Nat.lt_of_lt_of_le (hX.lt k hk).2 HF.out.size⟩
      · have := World.ownsRow.lt HRV.out k hk
        exact ⟨by omega, this.2⟩
    · rw [HNE.out]; exact roww_mono HRV.out (fun k hk => by have := (World.ownsRow.lt HRV.out k hk).1; omega)
    · intro k hk
      rcases hk with hk | hk
      · exact .inl hk
      · have := (World.ownsRow.lt HRV.out k hk).1
        exact .inr (by omega)
  · have hob : RowV (w.alloc (.cells #[.pointer (some ⟨g, 0, none⟩)] 78)) 117 g (keyObj raw rv 1 0 sbs uss) := hx.obj.alloc _
    have d0 := hob.cell ko_done
    have HX := Lib.hid hx
    have HRV := Lib.hid hrv
    have HFA := Lib.hid hfa
    clear hx hrv hfa hob
    go_enter Tryz.func92, Tryz.ntmps92
    go_wp2_with fail
    refine (do_done ⟨g, 1, none⟩ 1 (by omega) _ _ d0).mono ?_
    rintro e w2 ⟨rfl, rfl⟩
    go_wp2_with fail
    go_end0
    exact ⟨rfl, B, KeyR.frame ⟨raw, rv, HX.out, HRV.out⟩ HFA.out (fun k hk => (HX.out.lt k hk).2), HFA.out.mono (fun k hk => hk.1), fun k hk => .inl hk⟩
end Go.Proofs.YtkgnnlglabihkaaGreatDoor.Aes

/- A block encrypted, decrypted: contracts. -/
namespace Go.Proofs.YtkgnnlglabihkaaGreatDoor.Aes
open Go Go.ChangeShapes Go.WideShapes Go.ChangeAt Go.RowKit Go.Proofs.YtkgnnlglabihkaaGreatDoor.Fld
set_option linter.unusedVariables false
set_option linter.unusedSimpArgs false

theorem flat_at {N : Nat} : ∀ {R : List Blk}, (∀ r ∈ R, r.length = N) → ∀ {k : Nat}, k < R.length → (R.flatten.drop (N * k)).take N = rkey R k
  | [], _, k, h => absurd h (by simp)
  | t :: R, h, 0, _ => by
    have ht := h t (by simp)
    rw [Nat.mul_zero, List.drop_zero, List.flatten_cons, List.take_append_of_le_length (by omega), List.take_of_length_le (by omega)]; rfl
  | t :: R, h, k+1, hk => by
    have ht := h t (by simp)
    rw [List.flatten_cons, show N * (k + 1) = t.length + N * k by rw [ht, Nat.mul_succ]; omega, ← List.drop_drop, List.drop_left]
    exact flat_at (fun x hx => h x (List.mem_cons_of_mem _ hx)) (by simpa using hk)
/-- where bytes lie -/
theorem rd_addr {w : World} {S : Nat → Prop} {A : Option Addr} {l : List UInt8} (h : RdS w S A l) (h0 : 0 < l.length) : ∃ b o, A = some ⟨b, o, none⟩ ∧ S b ∧ w.rangeAt b o (bvs l) := by
  obtain ⟨ad, rfl, hb, hc⟩ := h h0
  have h1 := hc 0 h0
  have hs : ad.spot = none := by
    rw [show ad.add 0 = ad by unfold Addr.add; simp] at h1
    obtain ⟨_, _, _, _, h⟩ := World.shape?_of_cell? h1
    exact h
  obtain ⟨b, o, s⟩ := ad
  simp only at hs
  subst hs
  refine ⟨b, o, rfl, hb, fun j v hj => ?_⟩
  have hj' : j < l.length := by have := (List.getElem?_eq_some_iff.1 hj).1; rwa [bvs_length] at this
  rw [bvs_get hj'] at hj
  injection hj with hj
  rw [← addr_add, hc j hj', hj]
/-- a key that was asked: what its walks look at -/
structure KeyV (w : World) (g gR n cR : Nat) (key : Blk) : Prop where
  obj : ∃ raw, RowV w 117 g (keyObj raw (.slice (some ⟨gR, 0, none⟩) (n + 7) cR) 1 0 sbs uss)
  rk : ∀ t, t < n + 7 → w.rangeAt gR (t * 16) (bvs (rkey (rounds n key) t))
  gl : g < w.heap.size
  rl : gR < w.heap.size
theorem KeyR.view {w : World} {base g : Nat} {B : Nat → Prop} {key : Blk} (h : KeyR w base B g key) : ∃ gR cR, KeyV w g gR (key.length / 4) cR key ∧ key.length / 4 + 7 ≤ cR := by
  obtain ⟨raw, rv, hx, hr⟩ := h
  obtain ⟨gR, cR, rfl, hc, _, _, hl, hcell⟩ := roww_at hr (by omega)
  refine ⟨gR, cR, ⟨⟨raw, hx.obj⟩, fun t ht => ?_, hx.obj.lt, hl⟩, hc⟩
  have hf := flat_at (N := 16) hx.ok.rounds (k := t) (by rw [rounds_length]; exact ht)
  rw [← hf, show t * 16 = 0 + 16 * t by omega]
  exact ownv_range (fun i u hi => by rw [Nat.zero_add]; exact hcell i u hi) (16 * t) 16
theorem KeyV.frame {w w' : World} {g gR n cR : Nat} {key : Blk} {S : Nat → Prop} (h : KeyV w g gR n cR key) (hf : Frame S w w') (h1 : S g) (h2 : S gR) : KeyV w' g gR n cR key := by
  obtain ⟨raw, ho⟩ := h.obj
  exact ⟨⟨raw, ho.keep (hf.block g h1)⟩, fun t ht j v hj => (World.cell?_of_block (a := ⟨gR, t * 16 + j, none⟩) (hf.block gR h2)).trans (h.rk t ht j v hj), Nat.lt_of_lt_of_le h.gl hf.size, Nat.lt_of_lt_of_le h.rl hf.size⟩
theorem slice_all (g : Nat) (w : World) : (Instr.sliceAt 166 (.pointer (some ⟨g, 0, none⟩)) none none none).run Tryz.prog w = .ok (.slice (some ⟨g, 0, none⟩) 16 16) w := by
  have hu : Tryz.prog.underlying 166 = some (.array (Tryz.prog.arrayLen 166) (Tryz.prog.elem 166)) := by kernel_rfl
  have hl : Tryz.prog.arrayLen 166 = 16 := by kernel_rfl
  have hz : (sizeOf (Tryz.prog.elem 166)).run Tryz.prog w = .ok 1 w := by kernel_rfl
  rw [run_sliceAt_array_all w _ _ hu, hz, Result.andThen_ok, slicedAt, hl]
  rfl
theorem row_rd {w : World} {T : TypeId} {g : Nat} {s : List UInt8} (h : RowV w T g (bvs s)) : Rd w w.heap.size (some ⟨g, 0, none⟩) s := fun h0 => ⟨_, rfl, h.lt, fun j hj => by rw [add_zero_block]; exact h.cell (bvs_get hj)⟩
theorem turn_len {f : UInt8 → UInt8} {s : Blk} : (turnL f s).length = 16 := turnL_length _ _

set_option maxRecDepth 100000 in
set_option maxHeartbeats 2000000 in
theorem enc_any (base : Nat) (B : Nat → Prop) (g : Nat) (key p : Blk) (A : Option Addr) (c : Nat) (w : World) (h : KeyIs w base B g key) (hbase : base ≤ w.heap.size) (hp : p.length = 16) (hc : 16 ≤ c) (hr : RdS w (Off w B) A p) :
    Calls Tryz.prog 76 #[.pointer (some ⟨g, 0, none⟩), .slice A 16 c] w fun e w' => ∃ v B', e = .returned (.tuple #[v, .int .i64 0]) ∧ Own w' 5 w.heap.size v (enc key p) ∧ KeyR w' base B' g key ∧ Frame (Off w B) w w' ∧ (∀ k, B' k → B k ∨ w.heap.size ≤ k) ∧ ∀ k, v.ownBlock = some k → ¬ B' k := by
  obtain ⟨b, o, rfl, hb, hrg⟩ := rd_addr hr (by omega)
  have HRG := Lib.hid hrg
  have HP := Lib.hid hp
  have HH := Lib.hid h
  clear h hr hrg hp
  go_enter Tryz.func76, Tryz.ntmps76
  go_wp2_with fail
  refine (ready_any base B g key _ HH.out hbase).mono ?_
  rintro e w1 ⟨rfl, B1, hK1, hf1, hB1⟩
  obtain ⟨gR, cR, hv, hcR⟩ := hK1.view
  have hok := hK1.lt
  have hkk := (KeyIs.ok (.inr hK1)).four
  have hro := (KeyIs.ok (.inr hK1)).rounds
  have hrl := rounds_length (key.length / 4) key
  have hen : enc key p = encR (rounds (key.length / 4) key) (key.length / 4 + 6) (key.length / 4 + 6) p := rfl
  obtain ⟨n, hn⟩ : ∃ n, key.length / 4 = n := ⟨_, rfl⟩
  rw [hn] at hv hkk hro hrl hcR hen
  obtain ⟨m, hm⟩ : ∃ m, n + 6 = m := ⟨_, rfl⟩
  rw [hm] at hen
  have hrg1 : w1.rangeAt b o (bvs p) := fun j v hj => (World.cell?_of_block (a := ⟨b, o + j, none⟩) (hf1.block b hb)).trans (HRG.out j v hj)
  have har := fun w => arr16_at b o 16 c w rfl
  have hgb : RowV (w1.alloc (.cells (bvs p).toArray 166)) 166 w1.heap.size (bvs p) := heap_alloc_new w1 _
  have hfa : Frame (fun k => k < w1.heap.size) w1 (w1.alloc (.cells (bvs p).toArray 166)) := (Frame.refl _ _).alloc (fun b h => h) _
  have hva := hv.frame hfa hv.gl hv.rl
  obtain ⟨raw, hob⟩ := hva.obj
  have c0 := hob.cell (ko_rv sbs_length uss_length)
  have hk0 := hva.rk 0 (by omega)
  rw [Nat.zero_mul] at hk0
  have hk0l : (rkey (rounds n key) 0).length = 16 := hro.at_ (by rw [hrl]; omega)
  have hm1 : ((n + 7 : Nat) : Int) - 1 = (m : Int) := by omega
  have n8 : n ≤ 8 := by omega
  have m14 : m ≤ 14 := by omega
  have hwm : wrap64 (m : Int) = (m : Int) := IntWalk.wrap64_in _ ⟨by omega, by omega⟩
  have mn : m = n + 6 := hm.symm
  obtain ⟨N7, hN7⟩ : ∃ N7, n + 7 = N7 := ⟨_, rfl⟩
  rw [hN7] at c0 hm1 hcR
  have hN0 : 0 < N7 := by omega
  have HN7 := Lib.hid hN7
  have HRG1 := Lib.hid hrg1
  have HGB := Lib.hid hgb
  have HFA := Lib.hid hfa
  have HV := Lib.hid hv
  have HK1 := Lib.hid hK1
  have HF1 := Lib.hid hf1
  have HB1 := Lib.hid hB1
  have HRO := Lib.hid hro
  have HRL := Lib.hid hrl
  have HEN := Lib.hid hen
  have HK0 := Lib.hid hk0
  have HK0L := Lib.hid hk0l
  have HM := Lib.hid mn
  have HPL := Lib.hid (show (bvs p).length = 16 by rw [bvs_length]; exact HP.out)
  have HK0B := Lib.hid (show (bvs (rkey (rounds n key) 0)).length = 16 by rw [bvs_length]; exact HK0L.out)
  have hg1 : g < w1.heap.size := hv.gl
  have hr1 : gR < w1.heap.size := hv.rl
  clear hrg1 hgb hfa hv hva hob hK1 hf1 hB1 hkk hro hrl hen hk0 hk0l hok hm hn mn hN7
  go_wp2_with (first
    | (with_reducible refine at_slot 16 ?_
       refine wpList_load_mid rfl _ _ rfl b o rfl (bvs p) (.array 16 5) HRG1.out Tryz.underlying166 rfl (by rw [HPL.out]; kernel_rfl) ?_)
    | (with_reducible refine at_store 6 ?_
       refine wpList_store_new rfl _ _ _ rfl _ _ (bvs p) rfl rfl (by rw [HPL.out]; kernel_rfl) (by rw [HPL.out]; rfl) (bvs_one _) ?_)
    | (with_reducible refine at_slot 28 ?_
       refine wpList_load_mid rfl _ _ rfl gR 0 rfl (bvs (rkey (rounds n key) 0)) (.array 16 5) HK0.out Tryz.underlying166 rfl (by rw [HK0B.out]; kernel_rfl) ?_))
  refine (lay_any w1.heap.size _ p (rkey (rounds n key) 0) HP.out HK0L.out _ HGB.out).mono ?_
  rintro e w2 ⟨rfl, h2, hf2⟩
  have hF2 : Frame (fun k => k < w1.heap.size) w1 w2 := Frame.trans HFA.out hf2 (fun k hk => ⟨by simp; omega, by omega⟩)
  obtain ⟨gb, hgb⟩ : ∃ gb, w1.heap.size = gb := ⟨_, rfl⟩
  rw [hgb] at h2
  have HGBE := Lib.hid hgb
  have H2 := Lib.hid h2
  have HF2 := Lib.hid hF2
  rw [hgb]
  clear h2 hf2 hF2 hgb c0 hm1 hwm
  go_wp2_with fail
  go_loopw [8] (fun i wr => ∃ t u : Nat, t = u + 1 ∧ u ≤ m ∧ i = .int .i64 (t : Int) ∧ RowV wr 166 gb (bvs (encR (rounds n key) m u p)) ∧ Frame (fun k => k < w1.heap.size) w1 wr) (fun i _ => 100 - (intOf i).toNat)
  case atStart => exact ⟨1, 0, rfl, by omega, rfl, H2.out, HF2.out⟩
  case round =>
    obtain ⟨t, u, htu, hum, rfl, hx, hf⟩ := hrel
    clear H2 HF2
    have HTU := Lib.hid htu
    have t1 : u + 1 ≤ t := by omega
    have t2 : t ≤ u + 1 := by omega
    clear htu
    have hxl : (encR (rounds n key) m u p).length = 16 := encR_length HRO.out m u p (by rw [HRL.out]; have := HM.out; omega) HP.out
    have hv := HV.out.frame hf hg1 hr1
    obtain ⟨raw2, hob⟩ := hv.obj
    have htb := tbl_box hob
    have hgne : g ≠ gb := by have := HGBE.out; omega
    have hg2 : g < wr.heap.size := hv.gl
    have hfs := hf.size
    have gbl := hx.lt
    have HXL := Lib.hid hxl
    have HX := Lib.hid hx
    have HF := Lib.hid hf
    have HTB := Lib.hid htb
    clear hxl hx hf hob htb hfs hv
    by_cases hle : t ≤ m
    · go_wp2_with fail
      refine (turn_any gb g 4 _ sb (encR (rounds n key) m u p) HXL.out _ HX.out HTB.out hgne hg2).mono ?_
      rintro e w3 ⟨rfl, h3, hf3⟩
      have hF3 : Frame (fun k => k < w1.heap.size) w1 w3 := Frame.trans HF.out hf3 (fun k hk => ⟨Nat.lt_of_lt_of_le hk HF.out.size, by have := HGBE.out; omega⟩)
      have H3 := Lib.hid h3
      have HF3 := Lib.hid hF3
      clear h3 hf3 hF3
      by_cases hlt : t < m
      · go_wp2_with fail
        refine (mix_any gb _ _ turn_len _ H3.out).mono ?_
        rintro e w4 ⟨rfl, h4, hf4⟩
        have hF4 : Frame (fun k => k < w1.heap.size) w1 w4 := Frame.trans HF3.out hf4 (fun k hk => ⟨Nat.lt_of_lt_of_le hk HF3.out.size, by have := HGBE.out; omega⟩)
        have hl4 : (mixL (turnL sb (encR (rounds n key) m u p))).length = 16 := colL_length _ _
        have hst : encR (rounds n key) m t p = lay (mixL (turnL sb (encR (rounds n key) m u p))) (rkey (rounds n key) t) := by
          rw [HTU.out]; show lay (if u + 1 < m then _ else _) _ = _; rw [if_pos (by omega)]
        have hv4 := HV.out.frame hF4 hg1 hr1
        obtain ⟨raw4, hob4⟩ := hv4.obj
        have c4 := hob4.cell (ko_rv sbs_length uss_length)
        have htN : t < N7 := by have := HN7.out; have := HM.out; omega
        rw [HN7.out] at c4
        have hk4 := hv4.rk t (by rw [HN7.out]; exact htN)
        have hk4l : (rkey (rounds n key) t).length = 16 := HRO.out.at_ (by rw [HRL.out, HN7.out]; exact htN)
        have HKL := Lib.hid hk4l
        have HK4 := Lib.hid hk4
        have HKB := Lib.hid (show (bvs (rkey (rounds n key) t)).length = 16 by rw [bvs_length]; exact hk4l)
        have H4 := Lib.hid h4
        have HF4 := Lib.hid hF4
        have HL4 := Lib.hid hl4
        have HST := Lib.hid hst
        clear h4 hF4 hl4 hst hv4 hob4 hk4 hk4l
        go_wp2_with (with_reducible refine at_slot 49 ?_
                     refine wpList_load_mid rfl _ _ rfl gR (t * 16) rfl (bvs (rkey (rounds n key) t)) (.array 16 5) HK4.out Tryz.underlying166 rfl (by rw [HKB.out]; kernel_rfl) ?_)
        refine (lay_any gb _ _ (rkey (rounds n key) t) HL4.out HKL.out _ H4.out).mono ?_
        rintro e w5 ⟨rfl, h5, hf5⟩
        have hF5 : Frame (fun k => k < w1.heap.size) w1 w5 := Frame.trans HF4.out hf5 (fun k hk => ⟨Nat.lt_of_lt_of_le hk HF4.out.size, by have := HGBE.out; omega⟩)
        rw [← HST.out] at h5
        have H5 := Lib.hid h5
        have HF5 := Lib.hid hF5
        clear h5 hf5 hF5 c4
        go_wp2_with fail
        go_roundw
        case rel => exact ⟨t + 1, t, rfl, hle, by go_num, H5.out, HF5.out⟩
        case measure => simp [intOf] <;> omega
      · have hl4 : (turnL sb (encR (rounds n key) m u p)).length = 16 := turn_len
        have hst : encR (rounds n key) m t p = lay (turnL sb (encR (rounds n key) m u p)) (rkey (rounds n key) t) := by
          rw [HTU.out]; show lay (if u + 1 < m then _ else _) _ = _; rw [if_neg (by omega)]
        have h4 := H3.out
        have hF4 := HF3.out
        obtain ⟨w4, hw4⟩ : ∃ w4 : World, w4 = w3 := ⟨_, rfl⟩
        subst hw4
        have hv4 := HV.out.frame hF4 hg1 hr1
        obtain ⟨raw4, hob4⟩ := hv4.obj
        have c4 := hob4.cell (ko_rv sbs_length uss_length)
        have htN : t < N7 := by have := HN7.out; have := HM.out; omega
        rw [HN7.out] at c4
        have hk4 := hv4.rk t (by rw [HN7.out]; exact htN)
        have hk4l : (rkey (rounds n key) t).length = 16 := HRO.out.at_ (by rw [HRL.out, HN7.out]; exact htN)
        have HKL := Lib.hid hk4l
        have HK4 := Lib.hid hk4
        have HKB := Lib.hid (show (bvs (rkey (rounds n key) t)).length = 16 by rw [bvs_length]; exact hk4l)
        have H4 := Lib.hid h4
        have HF4 := Lib.hid hF4
        have HL4 := Lib.hid hl4
        have HST := Lib.hid hst
        clear h4 hF4 hl4 hst hv4 hob4 hk4 hk4l
        go_wp2_with (with_reducible refine at_slot 49 ?_
                     refine wpList_load_mid rfl _ _ rfl gR (t * 16) rfl (bvs (rkey (rounds n key) t)) (.array 16 5) HK4.out Tryz.underlying166 rfl (by rw [HKB.out]; kernel_rfl) ?_)
        refine (lay_any gb _ _ (rkey (rounds n key) t) HL4.out HKL.out _ H4.out).mono ?_
        rintro e w5 ⟨rfl, h5, hf5⟩
        have hF5 : Frame (fun k => k < w1.heap.size) w1 w5 := Frame.trans HF4.out hf5 (fun k hk => ⟨Nat.lt_of_lt_of_le hk HF4.out.size, by have := HGBE.out; omega⟩)
        rw [← HST.out] at h5
        have H5 := Lib.hid h5
        have HF5 := Lib.hid hF5
        clear h5 hf5 hF5 c4
        go_wp2_with fail
        go_roundw
        case rel => exact ⟨t + 1, t, rfl, hle, by go_num, H5.out, HF5.out⟩
        case measure => simp [intOf] <;> omega
    · have e1 : u = m := by omega
      subst e1
      have hx1 : ¬ (t : Int) ≤ (u : Int) := by omega
      have hsl := slice_all gb
      have hrow := row_rd HX.out
      have HROW := Lib.hid hrow
      clear hrow
      go_wp2_with fail
      refine (bclone_any (some ⟨gb, 0, none⟩) 16 16 (encR (rounds n key) u u p) _ wr.heap.size (Nat.le_refl _) HXL.out (by omega) HROW.out).mono ?_
      rintro e w5 ⟨v, rfl, hO, hb5⟩
      have hF5 : Frame (fun k => k < w1.heap.size) w1 w5 := Frame.trans HF.out (Frame.of_below hb5 (S := fun k => k < w1.heap.size) (fun k hk => Nat.lt_of_lt_of_le hk HF.out.size)) (fun k hk => hk)
      have HO := Lib.hid hO
      have HF5 := Lib.hid hF5
      clear hO hb5 hF5 hsl
      go_wp2_with fail
      go_ret2
      have hs1 := HF1.out.size
      have hs2 := HF.out.size
      refine ⟨v, B1, rfl, ?_, HK1.out.frame HF5.out (fun k hk => (HK1.out.lt k hk).2), Frame.trans HF1.out HF5.out (fun k hk => Nat.lt_of_lt_of_le hk.1 HF1.out.size), HB1.out, fun k hk hB => ?_⟩
      · rw [HEN.out]; exact HO.out.mono (by omega)
      · have h1 := (HO.out.lt k hk).1
        have h2 := (HK1.out.lt k hB).2
        omega
end Go.Proofs.YtkgnnlglabihkaaGreatDoor.Aes

/- A block decrypted; a key's round keys; wrong lengths: contracts. -/
namespace Go.Proofs.YtkgnnlglabihkaaGreatDoor.Aes
open Go Go.ChangeShapes Go.WideShapes Go.ChangeAt Go.RowKit Go.Proofs.YtkgnnlglabihkaaGreatDoor.Fld
set_option linter.unusedVariables false
set_option linter.unusedSimpArgs false
end Go.Proofs.YtkgnnlglabihkaaGreatDoor.Aes

/- A key's round keys handed out; blocks of a wrong length: contracts. -/
namespace Go.Proofs.YtkgnnlglabihkaaGreatDoor.Aes
open Go Go.ChangeShapes Go.WideShapes Go.ChangeAt Go.RowKit Go.Proofs.YtkgnnlglabihkaaGreatDoor.Fld
set_option linter.unusedVariables false
set_option linter.unusedSimpArgs false

theorem eqv : El Tryz.prog 110 22 (.slice none 0 0) 24 := ⟨Tryz.underlying110, by kernel_rfl, rfl⟩
theorem slice_one (A : Option Addr) (n c : Nat) : (Value.slice A n c).oneCell' = true := by cases A <;> rfl
theorem enc_no (g : Nat) (A : Option Addr) (n c : Nat) (w : World) (hn : n ≠ 16) :
    Calls Tryz.prog 76 #[.pointer (some ⟨g, 0, none⟩), .slice A n c] w fun e w' => e = .returned (.tuple #[.slice none 0 0, .int .i64 1]) ∧ w = w' := by
  have b16 : ((n : Int) != 16) = true := by rw [bne_iff_ne]; omega
  clear hn
  go_enter Tryz.func76, Tryz.ntmps76
  go_wp2_with fail
  go_ret2
  exact ⟨rfl, rfl⟩
end Go.Proofs.YtkgnnlglabihkaaGreatDoor.Aes

/- The small case of this layer's statements: contract. -/
namespace Go.Proofs.YtkgnnlglabihkaaGreatDoor.Aes
open Go Go.ChangeShapes Go.WideShapes Go.ChangeAt Go.RowKit Go.Proofs.YtkgnnlglabihkaaGreatDoor.Fld
set_option linter.unusedVariables false
set_option linter.unusedSimpArgs false
theorem own_rds {w : World} {e : TypeId} {base : Nat} {v : Value} {l : List UInt8} (h : Own w e base v l) {S : Nat → Prop} (hS : ∀ k, v.ownBlock = some k → S k) {A : Option Addr} {n c : Nat} (hv : v = .slice A n c) : RdS w S A l := fun h0 => by
  obtain ⟨g, c', he, h1, h2, _⟩ := h.at_ (i := 0) h0
  subst hv
  injection he with he
  subst he
  exact ⟨_, rfl, hS _ rfl, fun j hj => by rw [add_zero_block]; exact (h.at_g hj).2.2.1⟩
theorem off_below {w w' : World} {base B0 : Nat} {g : Nat} {B : Nat → Prop} {key : Blk} (h : KeyIs w base B g key) (hF : Frame (Off w B) w w') (hB : B0 ≤ base) (hs : base ≤ w.heap.size) : Below B0 w w' :=
  hF.toBelow fun k hk => ⟨by omega, fun hb => by have := (h.lt k hb).1; omega⟩
end Go.Proofs.YtkgnnlglabihkaaGreatDoor.Aes

/- Lemmas for this layer's statements. -/
namespace Go.Proofs.YtkgnnlglabihkaaGreatDoor.Aes
open Go Go.ChangeShapes Go.WideShapes Go.ChangeAt Go.RowKit
set_option linter.unusedVariables false
theorem str_list (l : List UInt8) : (str l).toList = l := by rw [ByteArray.toList_eq]; simp [str]
theorem str_ne {a b : List UInt8} (h : a ≠ b) : ((str a).toList == (str b).toList) = false := by rw [str_list, str_list]; exact beq_eq_false_iff_ne.2 h
theorem arg_off {w w' : World} {base : Nat} {B : Nat → Prop} {A : Option Addr} {l : List UInt8} (hr : Rd w w.heap.size A l) (hb : Below w.heap.size w w') (hB : ∀ k, B k → w.heap.size ≤ k) : RdS w' (Off w' B) A l := (hr.below hb).s fun k hk => ⟨Nat.lt_of_lt_of_le hk hb.size, fun h => by have := hB k h; omega⟩
theorem own_step {w w' : World} {e : TypeId} {base : Nat} {B B' : Nat → Prop} {v : Value} {l : List UInt8} (h : Own w e base v l) (hv : ∀ k, v.ownBlock = some k → ¬ B k) (hF : Frame (Off w B) w w') (hB : ∀ k, B' k → B k ∨ w.heap.size ≤ k) : Own w' e base v l ∧ ∀ k, v.ownBlock = some k → ¬ B' k :=
  ⟨own_keep_ h (fun k hk => hF.block k ⟨(h.lt k hk).2, hv k hk⟩), fun k hk hb => by
    rcases hB k hb with h1 | h1
    · exact hv k hk h1
    · have := (h.lt k hk).2; omega⟩
set_option maxRecDepth 100000 in
theorem own_str {w : World} {base n c : Nat} {A : Option Addr} {l : List UInt8} (h : Own w 5 base (.slice A n c) l) : (convert 22 9 (.slice A n c)).run Tryz.prog w = .ok (.string (str l)) w := by
  obtain ⟨A', c', e, hr, _⟩ := h.form
  injection e with e1 e2 e3
  subst e1 e2 e3
  exact hr.str Go.Proofs.YtkgnnlglabihkaaGreatDoor.u8 9 Tryz.underlying9 c
set_option maxRecDepth 100000 in
theorem arg_str {w w' : World} {A : Option Addr} {n c : Nat} {l : List UInt8} (hn : l.length = n) (hr : Rd w w.heap.size A l) (hb : Below w.heap.size w w') : (convert 22 9 (.slice A n c)).run Tryz.prog w' = .ok (.string (str l)) w' := by
  subst hn
  exact (hr.below hb).str Go.Proofs.YtkgnnlglabihkaaGreatDoor.u8 9 Tryz.underlying9 c
end Go.Proofs.YtkgnnlglabihkaaGreatDoor.Aes
