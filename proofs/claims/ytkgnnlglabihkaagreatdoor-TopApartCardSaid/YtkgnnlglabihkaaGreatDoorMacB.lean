/- A digest under a key: the halves made once; Mac: contracts. -/
import Derived.Test.YtkgnnlglabihkaaGreatDoorMacA
import Derived.Tactics
import Derived.Tactics2
import Derived.Defers
import Derived.Laws.Pointers
import Derived.Laws.LoneSync
import Derived.RegionTactic
import Derived.RegionCalls
import Derived.ChangeAlike
import Derived.Deep.RegionHeld3
namespace Go.Proofs.YtkgnnlglabihkaaGreatDoor.Mac
open Go Go.ChangeShapes Go.WideShapes Go.ChangeAt Go.RowKit Go.Proofs.YtkgnnlglabihkaaGreatDoor.Sha
set_option linter.unusedVariables false
set_option linter.unusedSimpArgs false
set_option maxRecDepth 100000 in
set_option maxHeartbeats 1600000 in
theorem slow_mac (b off : Nat) (pl : Addr) (w : World) (P : World → Prop)
    (h0 : w.cell? ⟨b, off, none⟩ = some (.int .u32 0)) (h1 : w.cell? ⟨b, off + 1, none⟩ = some (.int .i32 0)) (f1 : w.frozen? ⟨b, off + 1, none⟩ = false)
    (hF : Calls Tryz.prog 68 #[.pointer (some pl)] (w.setCell ⟨b, off + 1, none⟩ (.int .i32 1)) fun e w' => e = .returned (.tuple #[]) ∧ P w' ∧ Aes.Locked w' b off) :
    Calls Tryz.prog 65 #[.pointer (some ⟨b, off, none⟩), .func (.func 68) #[.pointer (some pl)] #[]] w fun e w' => e = .returned (.tuple #[]) ∧ ∃ w2, P w2 ∧ w' = (w2.drew.setCell ⟨b, off, none⟩ (.int .u32 1)).setCell ⟨b, off + 1, none⟩ (.int .i32 0) := by
  have hl := run_call_load (P := Tryz.prog) Tryz.func80 (by kernel_rfl) (by kernel_rfl) (by kernel_rfl) .u32 (by kernel_rfl) (w := w.setCell ⟨b, off + 1, none⟩ (.int .i32 1)) (a := ⟨b, off, none⟩) (x := 0) ((World.cell?_setCell_other _ ⟨b, off + 1, none⟩ ⟨b, off, none⟩ _ (by simp)).trans h0)
  have hnot : ∀ (x : Bool) (w : World), (Op.unary .not (.bool x)).run Tryz.prog w = .ok (.bool (!x)) w := fun _ _ => rfl
  have HF := Lib.hid hF
  clear hF
  go_enter_defers Tryz.func65, Tryz.ntmps65
  go_wp2_with (first
    | (go_at_call 81; refine (Aes.lock_free ⟨b, off + 1, none⟩ _ (by go_simp) (by go_simp)).mono ?_; rintro e w' ⟨rfl, rfl⟩)
    | (go_at_call 64; go_in)
    | (go_at_call 68; refine HF.out.mono ?_; rintro e w2 ⟨rfl, hP, hL⟩))
  obtain ⟨⟨x, hd⟩, fd, hs, fs⟩ := hL
  refine leaves_cons (f := 83) (args := #[.pointer (some ⟨b, off, none⟩), .bool true]) (by simp) (by simp [go_sem]) ?_
  refine (Aes.store_deferred ⟨b, off, none⟩ x .returning _ hd fd).mono ?_
  rintro e u' w'' ⟨rfl, rfl, rfl⟩
  refine leaves_cons (f := 82) (args := #[.pointer (some ⟨b, off + 1, none⟩)]) (by simp [settle]) (by simp [go_sem]) ?_
  refine (Aes.unlock_deferred ⟨b, off + 1, none⟩ _ _ ?_ (by simp [fs])).mono ?_
  · refine (World.cell?_setCell_other _ ⟨b, off, none⟩ ⟨b, off + 1, none⟩ _ (by simp)).trans ?_
    rw [World.cell?_drew]
    exact hs
  rintro e u' w'' ⟨rfl, rfl, rfl⟩
  simp [Leaves, settle, results, Tryz.results65]
  exact ⟨w2, hP, rfl⟩
set_option maxRecDepth 100000 in
set_option maxHeartbeats 1600000 in
theorem do_mac (b off : Nat) (pl : Addr) (w : World) (P : World → Prop)
    (h0 : w.cell? ⟨b, off, none⟩ = some (.int .u32 0)) (h1 : w.cell? ⟨b, off + 1, none⟩ = some (.int .i32 0)) (f1 : w.frozen? ⟨b, off + 1, none⟩ = false)
    (hF : Calls Tryz.prog 68 #[.pointer (some pl)] (w.setCell ⟨b, off + 1, none⟩ (.int .i32 1)) fun e w' => e = .returned (.tuple #[]) ∧ P w' ∧ Aes.Locked w' b off) :
    Calls Tryz.prog 40 #[.pointer (some ⟨b, off, none⟩), .func (.func 68) #[.pointer (some pl)] #[]] w fun e w' => e = .returned (.tuple #[]) ∧ ∃ w2, P w2 ∧ w' = (w2.drew.setCell ⟨b, off, none⟩ (.int .u32 1)).setCell ⟨b, off + 1, none⟩ (.int .i32 0) := by
  have hl := run_call_load (P := Tryz.prog) Tryz.func80 (by kernel_rfl) (by kernel_rfl) (by kernel_rfl) .u32 (by kernel_rfl) h0
  have hnot : ∀ (x : Bool) (w : World), (Op.unary .not (.bool x)).run Tryz.prog w = .ok (.bool (!x)) w := fun _ _ => rfl
  have hslow := Lib.hid (slow_mac b off pl w P h0 h1 f1 hF)
  clear hF
  go_enter Tryz.func40, Tryz.ntmps40
  go_wp2_with (first | (go_at_call 65; refine hslow.out.mono ?_; rintro e w' ⟨rfl, hw⟩) | (go_at_call 64; go_in))
  go_end0
  exact ⟨rfl, hw⟩
theorem mo_rdx {w : World} {T : TypeId} {g : Nat} {raw : Value} {d st : Int} {xs ys : List UInt8} (h : RowV w T g (mo raw d st xs ys)) (hx : xs.length = 64) {S : Nat → Prop} (hS : S g) : RdS w S (some ⟨g, 4, none⟩) xs := fun h0 =>
  ⟨_, rfl, hS, fun j hj => by rw [addr_add]; exact h.cell (mo_x hx (List.getElem?_eq_getElem hj))⟩
theorem mo_rdy {w : World} {T : TypeId} {g : Nat} {raw : Value} {d st : Int} {xs ys : List UInt8} (h : RowV w T g (mo raw d st xs ys)) (hx : xs.length = 64) {S : Nat → Prop} (hS : S g) : RdS w S (some ⟨g, 68, none⟩) ys := fun h0 =>
  ⟨_, rfl, hS, fun j hj => by rw [addr_add]; exact h.cell (mo_y hx (List.getElem?_eq_getElem hj))⟩
set_option maxRecDepth 100000 in
set_option maxHeartbeats 4000000 in
theorem macm_any (g n c : Nat) (A : Option Addr) (key : List UInt8) (w : World) (hkl : key.length = n) (hn : n ≤ 35184372088832) (hnc : n ≤ c) (hcm : c ≤ 9223372036854775807)
    (hg : RowV w 137 g (mo (.slice A n c) 0 0 Z64 Z64)) (hA : ∀ a, A = some a → a.block ≠ g) (hr : Rd w w.heap.size A key)
    (Ap : Option Addr) (np cp : Nat) (ps : List Part) (B : Nat) (hps : PartsS w (fun k => k < B) Ap ps) (hB : B ≤ g) (hpn : ps.length = np) (hpm : np ≤ 9223372036854775807) (hsz : (bytesOf ps).length ≤ 17592186044416) :
    Calls Tryz.prog 49 #[.pointer (some ⟨g, 0, none⟩), .slice Ap np cp] w fun e w' => ∃ v, e = .returned v ∧ Own w' 5 w.heap.size v (macL key (bytesOf ps)) ∧ Below B w w' := by
  have hsl := slice_all
  have hmf : ∀ (fn : Fn) (first cap : Array Value) (w : World), (Instr.makeFunc fn first cap).run Tryz.prog w = .ok (.func fn first cap) w := fun _ _ _ _ => rfl
  have hgl := hg.lt
  have d0 := hg.cell mo_done
  have d1 := hg.cell mo_state
  have f1 := hg.frozen 2
  have hg1 : RowV (w.setCell ⟨g, 2, none⟩ (.int .i32 1)) 137 g (mo (.slice A n c) 0 1 Z64 Z64) := hg.set 2 _
  have hr1 : Rd (w.setCell ⟨g, 2, none⟩ (.int .i32 1)) (w.setCell ⟨g, 2, none⟩ (.int .i32 1)).heap.size A key := fun h0 => by
    obtain ⟨ad, rfl, hb, hc⟩ := hr h0
    refine ⟨ad, rfl, by simpa using hb, fun j hj => (World.cell?_of_block ?_).trans (hc j hj)⟩
    rw [add_block]
    exact heap_setCell_other w ⟨g, 2, none⟩ _ _ (hA _ rfl)
  have hc := halves_any g n c A key 0 1 (w.setCell ⟨g, 2, none⟩ (.int .i32 1)) hkl hn hnc hcm hg1 hA hr1
  have hdo := do_mac g 1 ⟨g, 0, none⟩ w (fun w2 => RowV w2 137 g (mo (.slice A n c) 0 1 (xk 54 (padK key)) (xk 92 (padK key))) ∧ Frame (But w g) w w2) d0 d1 f1
    (hc.mono (fun e w2 ⟨he, h2, hf⟩ => ⟨he, ⟨h2, ⟨hf.os, hf.tape, hf.output, by have := hf.size; simpa using this, fun k hk => (hf.block k ⟨by simpa using hk.1, hk.2⟩).trans (heap_setCell_other w ⟨g, 2, none⟩ k _ (fun e => hk.2 e))⟩⟩, ⟨⟨_, h2.cell mo_done⟩, h2.frozen 1, h2.cell mo_state, h2.frozen 2⟩⟩))
  have HDO := Lib.hid hdo
  have HPS := Lib.hid hps
  have HSZ := Lib.hid hsz
  have HPN := Lib.hid hpn
  have HPM := Lib.hid hpm
  obtain ⟨X, hX⟩ : ∃ X, xk 54 (padK key) = X := ⟨_, rfl⟩
  obtain ⟨Y, hY⟩ : ∃ Y, xk 92 (padK key) = Y := ⟨_, rfl⟩
  have HXL := Lib.hid (show X.length = 64 by rw [← hX, xk_length, padK_length])
  have HYL := Lib.hid (show Y.length = 64 by rw [← hY, xk_length, padK_length])
  have HML := Lib.hid (show macL key (bytesOf ps) = sha (Y ++ sha (X ++ bytesOf ps)) by unfold macL; rw [hX, hY])
  rw [hX, hY] at HDO
  clear hdo hc hr1 hg1 d0 d1 f1 hg hA hr hkl hn hnc hcm hps hsz hpn hpm hX hY
  go_enter Tryz.func49, Tryz.ntmps49
  go_wp2_with fail
  refine HDO.out.mono ?_
  rintro e w3 ⟨rfl, w2, ⟨h2, hf⟩, rfl⟩
  have h3 : RowV ((w2.drew.setCell ⟨g, 1, none⟩ (.int .u32 1)).setCell ⟨g, 1 + 1, none⟩ (.int .i32 0)) 137 g (mo (.slice A n c) 1 0 X Y) := (RowV.set (w := w2.drew) h2 1 (.int .u32 1)).set 2 (.int .i32 0)
  have hF : Frame (But w g) w ((w2.drew.setCell ⟨g, 1, none⟩ (.int .u32 1)).setCell ⟨g, 1 + 1, none⟩ (.int .i32 0)) := Frame.setCell (Frame.setCell (Frame.drew hf) (fun hk => hk.2 rfl) _) (fun hk => hk.2 rfl) _
  generalize (w2.drew.setCell ⟨g, 1, none⟩ (.int .u32 1)).setCell ⟨g, 1 + 1, none⟩ (.int .i32 0) = w3 at *
  have hz3 := hF.size
  have HG3 := Lib.hid h3
  have HF3 := Lib.hid (hF.mono (T := fun k => k < B) (fun k hk => ⟨by omega, by omega⟩))
  clear h3 hF h2 hf HDO
  go_wp2_with fail
  refine (Sha.new_any w3).mono ?_
  rintro e w4 ⟨gh, rfl, hgb, hr4, hb4⟩
  have hz4 := hb4.size
  have hgh4 : gh < w4.heap.size := hr4.lt
  have hH5 := (Hst.new hr4 hgb).below_ ((Below.refl w4.heap.size w4).alloc (Nat.le_refl _) (.cells #[.slice (some ⟨g, 4, none⟩) 64 64] 22))
  have HG4 := Lib.hid (HG3.out.below hb4 (by omega))
  have HB4 := Lib.hid hb4
  have hq5 := parts_new (w := w4) (S := fun k => k = g) (T' := Far (w4.alloc (.cells #[.slice (some ⟨g, 4, none⟩) 64 64] 22)) gh (.slice none 0 0)) 22 [(⟨some ⟨g, 4, none⟩, 64, 64, X⟩ : Part)]
    (by
      intro p hp
      simp only [List.mem_cons, List.not_mem_nil, or_false] at hp
      subst hp
      exact ⟨HXL.out, Nat.le_refl _, (by show 64 ≤ 9223372036854775807; omega), mo_rdx HG4.out HXL.out rfl⟩) (fun k hk => by omega) ⟨by simp, by omega, fun h => by cases h⟩ (fun k hk => ⟨by simp; omega, by omega, fun h => by cases h⟩)
  have HH5 := Lib.hid hH5
  have HQ5 := Lib.hid hq5
  clear hH5 hq5 hr4 hb4
  go_wp2_with fail
  refine (write_any gh w3.heap.size (.slice none 0 0) [] _ 1 1 [(⟨some ⟨g, 4, none⟩, 64, 64, X⟩ : Part)] _ 0 HH5.out HQ5.out rfl (by omega) (by simp [bytesOf]; have := HXL.out; omega) (by simp [bytesOf]; have := HXL.out; omega) (by simp; omega)).mono ?_
  rw [show bytesOf [(⟨some ⟨g, 4, none⟩, 64, 64, X⟩ : Part)] = X by simp [bytesOf], List.nil_append, Nat.zero_add]
  rintro e w6 ⟨rv6, rfl, hH6, hnew6, hF6⟩
  have hz6 : w4.heap.size + 1 ≤ w6.heap.size := by have := hF6.size; simpa using this
  have HF46 := Lib.hid (show Frame (fun k => k < w4.heap.size ∧ k ≠ gh) w4 w6 from Frame.trans ((Frame.refl _ w4).alloc (fun k hk => hk.1) _) hF6 (fun k hk => ⟨by simp; omega, hk.2, fun h => by cases h⟩))
  have HG6 := Lib.hid (show RowV w6 137 g (mo (.slice A n c) 1 0 X Y) from (HF46.out.block g ⟨by omega, by omega⟩).trans HG4.out)
  have hnew6' : ∀ x, rv6.ownBlock = some x → w4.heap.size + 1 ≤ x := fun x hx => by have := hnew6 x hx; simpa using this
  have HN6 := Lib.hid hnew6'
  have HF36 := Lib.hid (show Frame (fun k => k < B) w w6 from Frame.trans HF3.out (Frame.trans (Frame.of_below HB4.out (S := fun k => k < B) (fun k hk => by omega)) HF46.out (fun k hk => ⟨by omega, by omega⟩)) (fun k hk => hk))
  have HP6 := Lib.hid ((HPS.out.frame HF36.out).mono (T := Far w6 gh rv6) (fun k hk => ⟨by omega, by omega, fun h => by have := HN6.out k h; omega⟩))
  have HH6 := Lib.hid hH6
  clear hH6 hnew6 hnew6' hF6
  go_wp2_with fail
  refine (write_any gh w3.heap.size rv6 X Ap np cp ps w6 X.length HH6.out HP6.out HPN.out HPM.out (by have := HXL.out; have := HSZ.out; omega) (by have := HXL.out; have := HSZ.out; omega) (by omega)).mono ?_
  rintro e w7 ⟨rv7, rfl, hH7, hnew7, hF7⟩
  rw [← List.length_append] at hH7
  have hz7 := hF7.size
  have hf67 : Frame (fun k => k < w4.heap.size + 1 ∧ k ≠ gh) w6 w7 := hF7.mono (fun k hk => ⟨by omega, hk.2, fun h => by have := HN6.out k h; omega⟩)
  have HG7 := Lib.hid (show RowV w7 137 g (mo (.slice A n c) 1 0 X Y) from (hf67.block g ⟨by omega, by omega⟩).trans HG6.out)
  have HF7 := Lib.hid (show Frame (fun k => k < B) w w7 from Frame.trans HF36.out hf67 (fun k hk => ⟨by omega, by omega⟩))
  have HH7 := Lib.hid hH7
  clear hH7 hnew7 hF7 hf67
  go_wp2_with fail
  refine wp_region_held_drew (S := fun _ => True) (by kernel_rfl) (trivial) (fun hHeld => ?_)
  refine wpAnyH_take (i := 0) (v := ?_) rfl (by kernel_rfl) (by kernel_rfl) (by kernel_rfl) (fun _ _ _ h => h) (Or.inl ⟨by kernel_rfl, ?_⟩) (by assumption) ?_
  rotate_left
  · (intro w hSw; (try dsimp only at hSw); go_simp; first | done | with_reducible rfl)
  (try simp only [Act.put, List.setIfInBounds_toArray, List.set_cons_zero, List.set_cons_succ, List.getElem_toArray, List.getElem_cons_zero, List.getElem_cons_succ])
  refine wpAnyH_take (i := 1) (v := ?_) rfl (by kernel_rfl) (by kernel_rfl) (by kernel_rfl) (fun _ _ _ h => h) (Or.inl ⟨by kernel_rfl, ?_⟩) (by assumption) ?_
  rotate_left
  · (intro w hSw; (try dsimp only at hSw); go_simp; first | done | with_reducible rfl)
  (try simp only [Act.put, List.setIfInBounds_toArray, List.set_cons_zero, List.set_cons_succ, List.getElem_toArray, List.getElem_cons_zero, List.getElem_cons_succ])
  refine wpAnyH_take (i := 2) (v := ?_) rfl (by kernel_rfl) (by kernel_rfl) (by kernel_rfl) (fun _ _ _ h => h) (Or.inl ⟨by kernel_rfl, ?_⟩) (by assumption) ?_
  rotate_left
  · (intro w hSw; (try dsimp only at hSw); go_simp; first | done | with_reducible rfl)
  (try simp only [Act.put, List.setIfInBounds_toArray, List.set_cons_zero, List.set_cons_succ, List.getElem_toArray, List.getElem_cons_zero, List.getElem_cons_succ])
  refine wpAnyH_take (i := 3) (v := ?_) rfl (by kernel_rfl) (by kernel_rfl) (by kernel_rfl) (fun _ _ _ h => h) (Or.inl ⟨by kernel_rfl, ?_⟩) (by assumption) ?_
  rotate_left
  · (intro w hSw; (try dsimp only at hSw); go_simp; first | done | with_reducible rfl)
  (try simp only [Act.put, List.setIfInBounds_toArray, List.set_cons_zero, List.set_cons_succ, List.getElem_toArray, List.getElem_cons_zero, List.getElem_cons_succ])
  refine wpAnyH_take (i := 4) (v := ?_) rfl (by kernel_rfl) (by kernel_rfl) (by kernel_rfl) (fun _ _ _ h => h) (Or.inl ⟨by kernel_rfl, ?_⟩) (by assumption) ?_
  rotate_left
  · (intro w hSw; (try dsimp only at hSw); go_simp; first | done | with_reducible rfl)
  (try simp only [Act.put, List.setIfInBounds_toArray, List.set_cons_zero, List.set_cons_succ, List.getElem_toArray, List.getElem_cons_zero, List.getElem_cons_succ])
  refine wpAnyH_ready (rs := [5]) (by kernel_rfl) (by simp) ?_
  refine AllReadyH.cons rfl (fun KK hKK => ?_) AllReadyH.nil
  go_simp
  refine (hsum_any gh w3.heap.size rv7 (X ++ bytesOf ps) w7.drew HH7.out.drew (by rw [List.length_append]; have := HXL.out; have := HSZ.out; omega)).mono ?_
  rintro e w8 ⟨v8, rfl, hO8, hb8⟩
  obtain ⟨A8, c8, rfl, hr8, hc8⟩ := hO8.form
  have hcm8 := (own_len hO8).2
  rw [sha_len] at hO8 hc8 hcm8 ⊢
  have hz8 : w7.heap.size ≤ w8.heap.size := hb8.size
  have HB8 := Lib.hid (show Below w7.heap.size w7 w8 from ((Below.refl _ _).drew).trans hb8)
  have HR8 := Lib.hid hr8
  have HC8 := Lib.hid (show 32 ≤ c8 ∧ c8 ≤ 9223372036854775807 from ⟨hc8, by omega⟩)
  have HG8 := Lib.hid (HG7.out.below HB8.out (by omega))
  clear hO8 hb8 hr8 hc8 hcm8
  go_wp2_with fail
  refine hKK.out _ _ ?_ (fun hHeld => ?_)
  · (trivial)
  clear hKK KK
  (try simp only [Act.put, List.setIfInBounds_toArray, List.set_cons_zero, List.set_cons_succ, List.getElem_toArray, List.getElem_cons_zero, List.getElem_cons_succ])
  refine wpAnyH_ready (rs := [6]) (by kernel_rfl) (by simp) ?_
  refine AllReadyH.cons rfl (fun KK hKK => ?_) AllReadyH.nil
  go_simp
  refine hKK.out _ _ ?_ (fun hHeld => ?_)
  · (trivial)
  clear hKK KK
  (try simp only [Act.put, List.setIfInBounds_toArray, List.set_cons_zero, List.set_cons_succ, List.getElem_toArray, List.getElem_cons_zero, List.getElem_cons_succ])
  refine wpAnyH_ready (rs := [7]) (by kernel_rfl) (by simp) ?_
  refine AllReadyH.cons rfl (fun KK hKK => ?_) AllReadyH.nil
  go_simp
  have hq9 := parts_new (w := w8) (S := fun k => k < w8.heap.size) (T' := fun x => x < (w8.alloc (.cells #[.slice (some ⟨g, 68, none⟩) 64 64, .slice A8 32 c8] 22)).heap.size) 22 [(⟨some ⟨g, 68, none⟩, 64, 64, Y⟩ : Part), ⟨A8, 32, c8, sha (X ++ bytesOf ps)⟩]
    (by
      intro p hp
      simp only [List.mem_cons, List.not_mem_nil, or_false] at hp
      rcases hp with rfl | rfl
      · exact ⟨HYL.out, Nat.le_refl _, (by show 64 ≤ 9223372036854775807; omega), mo_rdy HG8.out HXL.out HG8.out.lt⟩
      · exact ⟨sha_len _, HC8.out.1, HC8.out.2, HR8.out.s (fun _ h => h)⟩) (fun _ h => h) (by simp) (fun x hx => by simp; omega)
  refine (shasum_any _ 2 2 [(⟨some ⟨g, 68, none⟩, 64, 64, Y⟩ : Part), ⟨A8, 32, c8, sha (X ++ bytesOf ps)⟩] _ hq9 rfl (by omega) (by simp [bytesOf, sha_len]; have := HYL.out; omega)).mono ?_
  rw [show bytesOf [(⟨some ⟨g, 68, none⟩, 64, 64, Y⟩ : Part), ⟨A8, 32, c8, sha (X ++ bytesOf ps)⟩] = Y ++ sha (X ++ bytesOf ps) by simp [bytesOf]]
  rintro e w9 ⟨v9, rfl, hO9, hb9⟩
  have hz9 : w8.heap.size + 1 ≤ w9.heap.size := by have := hb9.size; simpa using this
  have HO9 := Lib.hid (hO9.mono (base' := w.heap.size) (by simp; omega))
  have HB9 := Lib.hid (show Below B w w9 from (HF7.out.toBelow (fun k hk => hk)).trans ((HB8.out.trans ((((Below.refl w8.heap.size w8).alloc (Nat.le_refl _) _).trans (hb9.mono (by simp))).mono hz8)).mono (by omega)))
  clear hq9 hO9 hb9
  go_wp2_with fail
  refine hKK.out _ _ ?_ (fun hHeld => ?_)
  · (trivial)
  clear hKK KK
  (try simp only [Act.put, List.setIfInBounds_toArray, List.set_cons_zero, List.set_cons_succ, List.getElem_toArray, List.getElem_cons_zero, List.getElem_cons_succ])
  refine wpAnyH_take (i := 8) (v := ?_) rfl (by kernel_rfl) (by kernel_rfl) (by kernel_rfl) (fun _ _ _ h => h) (Or.inl ⟨by kernel_rfl, ?_⟩) (by assumption) ?_
  rotate_left
  · (intro w hSw; (try dsimp only at hSw); go_simp; first | done | with_reducible rfl)
  (try simp only [Act.put, List.setIfInBounds_toArray, List.set_cons_zero, List.set_cons_succ, List.getElem_toArray, List.getElem_cons_zero, List.getElem_cons_succ])
  refine wpAnyH_done (by kernel_rfl) ?_ _
  go_wp2_with fail
  go_ret
  exact ⟨_, rfl, (by rw [HML.out]; exact HO9.out), HB9.out⟩
set_option maxRecDepth 100000 in
set_option maxHeartbeats 1000000 in
theorem mac_any (A : Option Addr) (n c : Nat) (key : List UInt8) (w : World) (hkl : key.length = n) (hn : n ≤ 35184372088832) (hr : Rd w w.heap.size A key)
    (Ap : Option Addr) (np cp : Nat) (ps : List Part) (hps : PartsS w (fun k => k < w.heap.size) Ap ps) (hpn : ps.length = np) (hpm : np ≤ 9223372036854775807) (hsz : (bytesOf ps).length ≤ 17592186044416) :
    Calls Tryz.prog 27 #[.slice A n c, .slice Ap np cp] w fun e w' => ∃ v, e = .returned v ∧ Own w' 5 w.heap.size v (macL key (bytesOf ps)) ∧ Below w.heap.size w w' := by
  have HKL := Lib.hid hkl
  have HN := Lib.hid hn
  have HR := Lib.hid hr
  have HPS := Lib.hid hps
  have HPN := Lib.hid hpn
  have HPM := Lib.hid hpm
  have HSZ := Lib.hid hsz
  clear hkl hn hr hps hpn hpm hsz
  go_enter Tryz.func27, Tryz.ntmps27
  go_wp2_with fail
  refine (macnew_any A n c key w w.heap.size (Nat.le_refl _) HKL.out (by have := HN.out; omega) HR.out).mono ?_
  rintro e w1 ⟨g, A1, c1, rfl, hg1, hr1, hA1, hc1, hcm1, hgb, hb1⟩
  have HG1 := Lib.hid hg1
  have HR1 := Lib.hid hr1
  have HA1 := Lib.hid hA1
  have HB1 := Lib.hid hb1
  have HC1 := Lib.hid (And.intro hc1 hcm1)
  have hz1 := hb1.size
  clear hg1 hr1 hA1 hb1 hc1 hcm1
  go_wp2_with fail
  refine (macm_any g n c1 A1 key w1 HKL.out HN.out HC1.out.1 HC1.out.2 HG1.out HA1.out HR1.out Ap np cp ps w.heap.size (HPS.out.frame (Frame.of_below HB1.out (fun k hk => hk))) hgb HPN.out HPM.out HSZ.out).mono ?_
  rintro e w2 ⟨v2, rfl, hO2, hb2⟩
  have HO2 := Lib.hid (hO2.mono hz1)
  have HB2 := Lib.hid (HB1.out.trans hb2)
  obtain ⟨A2, c2, rfl, _, _⟩ := hO2.form
  clear hO2 hb2
  go_wp2_with fail
  go_ret
  exact ⟨_, rfl, HO2.out, HB2.out⟩
end Go.Proofs.YtkgnnlglabihkaaGreatDoor.Mac
