/- FF1: what a round adds. Contract of mask. Written by gen_mask.py. -/
import Derived.Test.YtkgnnlglabihkaaGreatDoorTB
import Derived.Test.YtkgnnlglabihkaaGreatDoorTA
import Derived.Deep.RegionWith
import Derived.Deep.RegionHeld3
import Derived.Deep.DrawnRows
namespace Go.Proofs.YtkgnnlglabihkaaGreatDoor.Top
open Go Go.ChangeShapes Go.WideShapes Go.ChangeAt Go.RowKit Go.Proofs.YtkgnnlglabihkaaGreatDoor.Aes Go.Proofs.YtkgnnlglabihkaaGreatDoor.Str Go.Proofs.YtkgnnlglabihkaaGreatDoor.Box
set_option linter.unusedVariables false
set_option linter.unusedSimpArgs false
/-- a cipher behind a pointer: its key, its tweak -/
structure Ciph (w : World) (base : Nat) (B : Nat → Prop) (gc g : Nat) (key tw : List UInt8) : Prop where
  key : KeyIs w base B g key
  ck : w.cell? ⟨gc, 0, none⟩ = some (.pointer (some ⟨g, 0, none⟩))
  gl : gc < w.heap.size
  gb : ¬ B gc
  tw : ∃ A c, w.cell? ⟨gc, 1, none⟩ = some (.slice A 10 c) ∧ tw.length = 10 ∧ 10 ≤ c ∧ c ≤ 9223372036854775807 ∧ RdS w (Off w B) A tw
section
variable {w w' : World} {base gc g : Nat} {B : Nat → Prop} {key tw : List UInt8}
theorem Ciph.below (h : Ciph w base B gc g key tw) (hb : Below w.heap.size w w') : Ciph w' base B gc g key tw := by
  obtain ⟨A, c, h1, h2, h3, h4, h5⟩ := h.tw
  have hf : Frame (fun k => k < w.heap.size) w w' := Frame.of_below hb (fun k hk => hk)
  exact ⟨h.key.below_ hb, (hb.cell (p := ⟨gc, 0, none⟩) h.gl).trans h.ck, Nat.lt_of_lt_of_le h.gl hb.size, h.gb, A, c, (hb.cell (p := ⟨gc, 1, none⟩) h.gl).trans h1, h2, h3, h4, RdS.mono (RdS.frame h5 (hf.mono (fun k hk => hk.1))) (fun k hk => ⟨Nat.lt_of_lt_of_le hk.1 hb.size, hk.2⟩)⟩
/-- behind a use: its blocks may have grown -/
def COut (w w' : World) (base : Nat) (B : Nat → Prop) (gc g : Nat) (key tw : List UInt8) : Prop := ∃ B' : Nat → Prop, Ciph w' base B' gc g key tw ∧ Frame (Off w B) w w' ∧ ∀ k, B' k → B k ∨ w.heap.size ≤ k
theorem Ciph.out {v : Value} (h : Ciph w base B gc g key tw) (hk : KOut w w' base g B key v) : COut w w' base B gc g key tw := by
  obtain ⟨B', h1, h2, h3, _⟩ := hk
  obtain ⟨A, c, t1, t2, t3, t4, t5⟩ := h.tw
  have ho : ∀ k, Off w B k → Off w' B' k := fun k hk => ⟨Nat.lt_of_lt_of_le hk.1 h2.size, fun hb => (h3 k hb).elim hk.2 (fun e => by have := hk.1; omega)⟩
  have hg : Off w B gc := ⟨h.gl, h.gb⟩
  exact ⟨B', ⟨h1, (World.cell?_of_block (a := ⟨gc, 0, none⟩) (h2.block gc hg)).trans h.ck, (ho gc hg).1, (ho gc hg).2, A, c, (World.cell?_of_block (a := ⟨gc, 1, none⟩) (h2.block gc hg)).trans t1, t2, t3, t4, RdS.mono (RdS.frame t5 h2) ho⟩, h2, h3⟩
theorem COut.then {w'' : World} (h : COut w w' base B gc g key tw) (hb : Below w'.heap.size w' w'') : COut w w'' base B gc g key tw := by
  obtain ⟨B', h1, h2, h3⟩ := h
  exact ⟨B', h1.below hb, h2.trans (Frame.of_below hb (S := Off w B) (fun k hk => Nat.lt_of_lt_of_le hk.1 h2.size)) (fun k hk => hk), h3⟩
theorem COut.ahead {w0 : World} (hb : Below w0.heap.size w0 w) (hB : ∀ k, B k → k < w0.heap.size) (h : COut w w' base B gc g key tw) : COut w0 w' base B gc g key tw := by
  obtain ⟨B', h1, h2, h3⟩ := h
  refine ⟨B', h1, (Frame.of_below hb (S := Off w0 B) (fun k hk => hk.1)).trans h2 (fun k hk => ⟨Nat.lt_of_lt_of_le hk.1 hb.size, hk.2⟩), fun k hk => (h3 k hk).imp id (fun h => Nat.le_trans hb.size h)⟩
end
/-- bytes read, the room known -/
def FRm (n : Nat) (l : List UInt8) : FF := fun v w => ∃ A c, v = .slice A n c ∧ l.length = n ∧ n ≤ c ∧ c ≤ 9223372036854775807 ∧ Rd w w.heap.size A l
theorem stable_rm (n : Nat) (l : List UInt8) : Stable (FRm n l) := fun v w w' ⟨A, c, h1, h2, h3, h4, h5⟩ hg => ⟨A, c, h1, h2, h3, h4, (h5.below hg).more hg.size⟩
/-- rows written out -/
def FJoin (n : Nat) (ls : List (List UInt8)) : FF := fun v w => ∃ b ps, v = .slice (some ⟨b, 0, none⟩) n n ∧ ps.map Part.l = ls ∧ PartsS w (fun k => k < w.heap.size) (some ⟨b, 0, none⟩) ps
theorem stable_join (n : Nat) (ls : List (List UInt8)) : Stable (FJoin n ls) := fun v w w' ⟨b, ps, h1, h2, h3⟩ hg => ⟨b, ps, h1, h2, (h3.frame (Frame.of_below hg (fun k hk => hk))).mono (fun k hk => Nat.lt_of_lt_of_le hk hg.size)⟩
theorem take_lt {ps : List Part} {ls : List (List UInt8)} (hm : ps.map Part.l = ls) {n : Nat} (hn : ls.length = n) (hl : ∀ k, k < n → (ls.take k).flatten.length < ls.flatten.length) : ps.length = n ∧ bytesOf ps = ls.flatten ∧ ∀ k, k < n → (bytesOf (ps.take k)).length < (bytesOf ps).length := by
  have h1 : ∀ k, bytesOf (ps.take k) = (ls.take k).flatten := fun k => by unfold bytesOf; rw [List.map_take, hm]
  have h2 : bytesOf ps = ls.flatten := by unfold bytesOf; rw [hm]
  refine ⟨by rw [← hn, ← hm, List.length_map], h2, fun k hk => ?_⟩
  rw [h1, h2]; exact hl k hk
theorem join_ls (n : Nat) (ls : List (List UInt8)) (b : Nat) (ps : List Part) (w : World) (hm : ps.map Part.l = ls) (hn : ls.length = n) (h2 : 2 ≤ n) (hc : n ≤ 1048576) (hps : PartsS w (fun k => k < w.heap.size) (some ⟨b, 0, none⟩) ps) (hsz : ls.flatten.length ≤ 1073741824) (hl : ∀ k, k < n → (ls.take k).flatten.length < ls.flatten.length) :
    Calls Tryz.prog 54 #[.slice (some ⟨b, 0, none⟩) n n, .slice none 0 0] w fun e w' => ∃ g, e = .returned (.slice (some ⟨g, 0, none⟩) ls.flatten.length ls.flatten.length) ∧ OwnB w' 5 w.heap.size (.slice (some ⟨g, 0, none⟩) ls.flatten.length ls.flatten.length) ls.flatten ∧ Below w.heap.size w w' := by
  obtain ⟨h3, h4, h5⟩ := take_lt hm hn hl
  refine (join_any b n n ps w h2 h3 (Nat.le_refl _) hc hps (by rw [h4]; exact hsz) h5).mono ?_
  rintro e w' ⟨g, m, rfl, hm', ho, hb⟩
  rw [h4] at hm' ho
  subst hm'
  exact ⟨g, rfl, ho, hb⟩
theorem ownb_rd {w : World} {e : TypeId} {base : Nat} {A : Option Addr} {n c : Nat} {l : List UInt8} (h : OwnB w e base (.slice A n c) l) : Rd w w.heap.size A l := by
  obtain ⟨A', c', h1, h2, _⟩ := OwnB.form h
  injection h1 with e1 e2 e3
  subst e1; exact h2
def headP (n : Nat) (tw : List UInt8) : List (List UInt8) := [[1, 2, 1, 0, 0, 10, 10, UInt8.ofNat (n / 2)], numL n 4, numL 10 4, tw]
def tailP (n r v : Nat) : List UInt8 := [UInt8.ofNat r] ++ numL v (widthN (n - n / 2))
def maskP (n r v : Nat) (tw : List UInt8) : List (List UInt8) := [(headP n tw).flatten, List.replicate (5 - widthN (n - n / 2)) 0, tailP n r v]
def maskN (key tw : List UInt8) (n r v : Nat) : Nat := restN (10 ^ halfN n r) ((chainL key 2 (maskP n r v tw).flatten).take 8)
theorem headP_len (n : Nat) {tw : List UInt8} (h : tw.length = 10) : (headP n tw).flatten.length = 26 := by simp [headP, numL_len, h]
theorem headP_lt (n : Nat) {tw : List UInt8} (h : tw.length = 10) : ∀ k, k < 4 → ((headP n tw).take k).flatten.length < (headP n tw).flatten.length := by
  intro k hk
  rw [headP_len n h]
  have : k = 0 ∨ k = 1 ∨ k = 2 ∨ k = 3 := by omega
  rcases this with rfl | rfl | rfl | rfl <;> simp [headP, numL_len]
theorem widthN_two (m : Nat) : widthN m = 2 ∨ widthN m = 3 := by unfold widthN; split <;> simp
theorem tailP_len (n r v : Nat) : (tailP n r v).length = 1 + widthN (n - n / 2) := by simp [tailP, numL_len]; omega
theorem maskP_len (n r v : Nat) {tw : List UInt8} (h : tw.length = 10) : (maskP n r v tw).flatten.length = 32 := by
  have h1 := headP_len n h
  have h2 := tailP_len n r v
  have h3 := widthN_two (n - n / 2)
  simp only [maskP, List.flatten_cons, List.flatten_nil, List.append_nil, List.length_append, List.length_replicate]
  omega
theorem maskP_lt (n r v : Nat) {tw : List UInt8} (h : tw.length = 10) : ∀ k, k < 3 → ((maskP n r v tw).take k).flatten.length < (maskP n r v tw).flatten.length := by
  intro k hk
  rw [maskP_len n r v h]
  have h1 := headP_len n h
  have h3 := widthN_two (n - n / 2)
  have : k = 0 ∨ k = 1 ∨ k = 2 := by omega
  rcases this with rfl | rfl | rfl
  · simp [maskP]
  · simp only [maskP, List.take_succ_cons, List.take_zero, List.flatten_cons, List.flatten_nil, List.append_nil]; omega
  · simp only [maskP, List.take_succ_cons, List.take_zero, List.flatten_cons, List.flatten_nil, List.append_nil, List.length_append, List.length_replicate]; omega
theorem halfN_pos {n r : Nat} (h : 2 ≤ n) (h9 : n ≤ 9) : 1 ≤ halfN n r ∧ halfN n r ≤ 5 := by unfold halfN; omega
theorem maskN_lt (key tw : List UInt8) {n r v : Nat} : maskN key tw n r v < 10 ^ halfN n r := by
  unfold maskN
  have h := restN_lt (p := 10 ^ halfN n r) (Nat.pow_pos (by omega)) ((chainL key 2 (maskP n r v tw).flatten).take 8) _ (Nat.le_refl _)
  rwa [List.take_length] at h
set_option maxRecDepth 100000 in
set_option maxHeartbeats 4000000 in
theorem mask6 (base : Nat) (B : Nat → Prop) (gc g : Nat) (key tw : List UInt8) (r v : Nat) (hr : r < 10) (hv : v < 1000000) (w : World) (h : Ciph w base B gc g key tw) (hbase : base ≤ w.heap.size) :
    Calls Tryz.prog 32 #[.pointer (some ⟨gc, 0, none⟩), .int .i64 6, .int .i64 (r : Int), .int .i64 (v : Int)] w fun e w' => e = .returned (.int .i64 (maskN key tw 6 r v : Int)) ∧ COut w w' base B gc g key tw := by
  have HC := Lib.hid h
  have HBS := Lib.hid hbase
  have HTL := Lib.hid (show tw.length = 10 by obtain ⟨A, c, h1, h2, h3⟩ := h.tw; exact h2)
  clear h hbase
  go_enter Tryz.func32, Tryz.ntmps32
  go_wp2_with fail
  refine (width_any 3 (by omega) _).mono ?_
  rintro e w1 ⟨rfl, hb1⟩
  rw [show widthN 3 = 2 from rfl, show ((2 : Nat) : Int) = 2 from rfl]
  have hC1 := HC.out.below hb1
  obtain ⟨At, ct, hT1, hTL, hct, hcm, hRT⟩ := hC1.tw
  have HB1 := Lib.hid hb1
  have HC1 := Lib.hid hC1
  have HGL := Lib.hid hC1.gl
  have HCT := Lib.hid hT1
  have HRT := Lib.hid (RdS.rd (B := w1.heap.size) hRT (fun k hk => hk.1))
  clear hb1 hC1 hT1 hTL hRT
  go_wp2_with fail
  refine wp_region_facts [FVal (.int .i64 6), FVal (.int .i64 3), FVal (.int .u8 3), FRm 8 ([1, 2, 1, 0, 0, 10, 10, 3]), FVal (.int .i64 6), FRm 4 (numL 6 4), FVal (.pointer (some ⟨gc, 0, none⟩)), FVal (.pointer (some ⟨gc, 0, none⟩)), FVal (.pointer (some ⟨gc, 1, none⟩)), FVal (.slice At 10 ct), FVal (.int .i64 10), FRm 4 (numL 10 4), FVal (.pointer (some ⟨gc, 0, none⟩)), FVal (.pointer (some ⟨gc, 0, none⟩)), FVal (.pointer (some ⟨gc, 1, none⟩)), FVal (.slice At 10 ct), FJoin 4 (headP 6 tw), FRm 26 ((headP 6 tw).flatten), FRm 26 ((headP 6 tw).flatten)] [0, 1, 2, 3, 4, 5, 6, 7, 8, 9, 10, 11, 12, 13, 14, 15, 16, 17, 18] [(0, some 21), (1, some 22), (2, some 23), (3, some 24), (4, some 25), (5, some 26), (6, some 27), (7, some 28), (8, some 29), (9, some 30), (10, some 31), (11, some 32), (12, some 33), (13, some 34), (14, some 35), (15, some 36), (16, some 37), (17, some 38), (18, some 10)] (by kernel_rfl) (by kernel_rfl) (by kernel_rfl) (by kernel_rfl) ?_ ?_ ?_
  · simp only [List.forall_mem_cons, List.not_mem_nil, false_implies, implies_true, and_true]
    exact ⟨stable_val _, stable_val _, stable_val _, stable_rm _ _, stable_val _, stable_rm _ _, stable_val _, stable_val _, stable_val _, stable_val _, stable_val _, stable_rm _ _, stable_val _, stable_val _, stable_val _, stable_val _, stable_join _ _, stable_rm _ _, stable_rm _ _⟩
  · simp only [List.forall_mem_cons, List.not_mem_nil, false_implies, implies_true, and_true]
    refine ⟨?_, ?_, ?_, ?_, ?_, ?_, ?_, ?_, ?_, ?_, ?_, ?_, ?_, ?_, ?_, ?_, ?_, ?_, ?_⟩
    · refine does_mk [] rfl (by kernel_rfl) (fun u wi hR hf => ?_)
      simp only [putPs, Act.put, List.setIfInBounds_toArray, List.set_cons_zero, List.set_cons_succ, List.getElem_toArray, List.getElem_cons_zero, List.getElem_cons_succ]
      rw [if_pos (by rfl)]
      intro K hK
      go_simp
      exact hK.out _ _ _ (by first | rfl | simp only [Act.put, List.setIfInBounds_toArray, List.set_cons_zero, List.set_cons_succ]) rfl (Grows.refl _)
    · refine does_mk [(0, some 21)] rfl (by kernel_rfl) (fun u wi hR hf => ?_)
      simp only [putPs, Act.put, List.setIfInBounds_toArray, List.set_cons_zero, List.set_cons_succ, List.getElem_toArray, List.getElem_cons_zero, List.getElem_cons_succ]
      obtain ⟨h0, _⟩ := hf
      have e0 : u 0 = .int .i64 6 := h0
      try rw [e0]
      clear h0 e0
      rw [if_pos (by rfl)]
      intro K hK
      go_simp
      exact hK.out _ _ _ (by first | rfl | simp only [Act.put, List.setIfInBounds_toArray, List.set_cons_zero, List.set_cons_succ]) rfl (Grows.refl _)
    · refine does_mk [(1, some 22)] rfl (by kernel_rfl) (fun u wi hR hf => ?_)
      simp only [putPs, Act.put, List.setIfInBounds_toArray, List.set_cons_zero, List.set_cons_succ, List.getElem_toArray, List.getElem_cons_zero, List.getElem_cons_succ]
      obtain ⟨h1, _⟩ := hf
      have e1 : u 1 = .int .i64 3 := h1
      try rw [e1]
      clear h1 e1
      rw [if_pos (by rfl)]
      intro K hK
      go_simp
      exact hK.out _ _ _ (by first | rfl | simp only [Act.put, List.setIfInBounds_toArray, List.set_cons_zero, List.set_cons_succ]) rfl (Grows.refl _)
    · refine does_mk [(2, some 23)] rfl (by kernel_rfl) (fun u wi hR hf => ?_)
      simp only [putPs, Act.put, List.setIfInBounds_toArray, List.set_cons_zero, List.set_cons_succ, List.getElem_toArray, List.getElem_cons_zero, List.getElem_cons_succ]
      obtain ⟨h2, _⟩ := hf
      have e2 : u 2 = .int .u8 3 := h2
      try rw [e2]
      clear h2 e2
      rw [if_pos (by rfl)]
      intro K hK
      go_simp
      exact hK.out _ _ _ (by first | rfl | simp only [Act.put, List.setIfInBounds_toArray, List.set_cons_zero, List.set_cons_succ]) ⟨_, _, rfl, rfl, by omega, by omega, (rd_lit _ [1, 2, 1, 0, 0, 10, 10, 3] rfl).more (by simp)⟩ ((Below.refl _ _).alloc (Nat.le_refl _) _)
    · refine does_mk [] rfl (by kernel_rfl) (fun u wi hR hf => ?_)
      simp only [putPs, Act.put, List.setIfInBounds_toArray, List.set_cons_zero, List.set_cons_succ, List.getElem_toArray, List.getElem_cons_zero, List.getElem_cons_succ]
      rw [if_pos (by rfl)]
      intro K hK
      go_simp
      exact hK.out _ _ _ (by first | rfl | simp only [Act.put, List.setIfInBounds_toArray, List.set_cons_zero, List.set_cons_succ]) rfl (Grows.refl _)
    · refine does_mk [(4, some 25)] rfl (by kernel_rfl) (fun u wi hR hf => ?_)
      simp only [putPs, Act.put, List.setIfInBounds_toArray, List.set_cons_zero, List.set_cons_succ, List.getElem_toArray, List.getElem_cons_zero, List.getElem_cons_succ]
      obtain ⟨h4, _⟩ := hf
      have e4 : u 4 = .int .i64 6 := h4
      try rw [e4]
      clear h4 e4
      rw [if_pos (by rfl)]
      intro K hK
      go_simp
      refine (fnum_any 6 4 (by omega) (by omega) _).mono ?_
      rintro e w5 ⟨rfl, hr5, hb5⟩
      exact hK.out _ _ _ (by first | rfl | simp only [Act.put, List.setIfInBounds_toArray, List.set_cons_zero, List.set_cons_succ]) ⟨_, _, rfl, numL_len _ _, by omega, by omega, row_rd hr5⟩ hb5
    · refine does_mk [] rfl (by kernel_rfl) (fun u wi hR hf => ?_)
      simp only [putPs, Act.put, List.setIfInBounds_toArray, List.set_cons_zero, List.set_cons_succ, List.getElem_toArray, List.getElem_cons_zero, List.getElem_cons_succ]
      rw [if_pos (by rfl)]
      intro K hK
      go_simp
      exact hK.out _ _ _ (by first | rfl | simp only [Act.put, List.setIfInBounds_toArray, List.set_cons_zero, List.set_cons_succ]) rfl (Grows.refl _)
    · refine does_mk [(6, some 27)] rfl (by kernel_rfl) (fun u wi hR hf => ?_)
      simp only [putPs, Act.put, List.setIfInBounds_toArray, List.set_cons_zero, List.set_cons_succ, List.getElem_toArray, List.getElem_cons_zero, List.getElem_cons_succ]
      obtain ⟨h6, _⟩ := hf
      have e6 : u 6 = .pointer (some ⟨gc, 0, none⟩) := h6
      try rw [e6]
      clear h6 e6
      rw [if_pos (by rfl)]
      intro K hK
      go_simp
      exact hK.out _ _ _ (by first | rfl | simp only [Act.put, List.setIfInBounds_toArray, List.set_cons_zero, List.set_cons_succ]) rfl (Grows.refl _)
    · refine does_mk [(7, some 28)] rfl (by kernel_rfl) (fun u wi hR hf => ?_)
      simp only [putPs, Act.put, List.setIfInBounds_toArray, List.set_cons_zero, List.set_cons_succ, List.getElem_toArray, List.getElem_cons_zero, List.getElem_cons_succ]
      obtain ⟨h7, _⟩ := hf
      have e7 : u 7 = .pointer (some ⟨gc, 0, none⟩) := h7
      try rw [e7]
      clear h7 e7
      rw [if_pos (by rfl)]
      intro K hK
      go_simp
      exact hK.out _ _ _ (by first | rfl | simp only [Act.put, List.setIfInBounds_toArray, List.set_cons_zero, List.set_cons_succ]) rfl (Grows.refl _)
    · refine does_mk [(8, some 29)] rfl (by kernel_rfl) (fun u wi hR hf => ?_)
      simp only [putPs, Act.put, List.setIfInBounds_toArray, List.set_cons_zero, List.set_cons_succ, List.getElem_toArray, List.getElem_cons_zero, List.getElem_cons_succ]
      obtain ⟨h8, _⟩ := hf
      have e8 : u 8 = .pointer (some ⟨gc, 1, none⟩) := h8
      try rw [e8]
      clear h8 e8
      rw [if_pos (by rfl)]
      intro K hK
      have cT : wi.cell? ⟨gc, 1, none⟩ = some (.slice At 10 ct) := (Below.cell (p := ⟨gc, 1, none⟩) hR HGL.out).trans HCT.out
      go_simp
      exact hK.out _ _ _ (by first | rfl | simp only [Act.put, List.setIfInBounds_toArray, List.set_cons_zero, List.set_cons_succ]) rfl (Grows.refl _)
    · refine does_mk [(9, some 30)] rfl (by kernel_rfl) (fun u wi hR hf => ?_)
      simp only [putPs, Act.put, List.setIfInBounds_toArray, List.set_cons_zero, List.set_cons_succ, List.getElem_toArray, List.getElem_cons_zero, List.getElem_cons_succ]
      obtain ⟨h9, _⟩ := hf
      have e9 : u 9 = .slice At 10 ct := h9
      try rw [e9]
      clear h9 e9
      rw [if_pos (by rfl)]
      intro K hK
      go_simp
      exact hK.out _ _ _ (by first | rfl | simp only [Act.put, List.setIfInBounds_toArray, List.set_cons_zero, List.set_cons_succ]) rfl (Grows.refl _)
    · refine does_mk [(5, some 26), (10, some 31)] rfl (by kernel_rfl) (fun u wi hR hf => ?_)
      simp only [putPs, Act.put, List.setIfInBounds_toArray, List.set_cons_zero, List.set_cons_succ, List.getElem_toArray, List.getElem_cons_zero, List.getElem_cons_succ]
      obtain ⟨h5, h10, _⟩ := hf
      obtain ⟨A5, c5, e5, hl5, hc5, hm5, hr5⟩ := h5
      try rw [e5]
      clear e5
      have e10 : u 10 = .int .i64 10 := h10
      try rw [e10]
      clear h10 e10
      rw [if_pos (by rfl)]
      intro K hK
      go_simp
      refine (fnum_any 10 4 (by omega) (by omega) _).mono ?_
      rintro e w5 ⟨rfl, hr5, hb5⟩
      exact hK.out _ _ _ (by first | rfl | simp only [Act.put, List.setIfInBounds_toArray, List.set_cons_zero, List.set_cons_succ]) ⟨_, _, rfl, numL_len _ _, by omega, by omega, row_rd hr5⟩ hb5
    · refine does_mk [] rfl (by kernel_rfl) (fun u wi hR hf => ?_)
      simp only [putPs, Act.put, List.setIfInBounds_toArray, List.set_cons_zero, List.set_cons_succ, List.getElem_toArray, List.getElem_cons_zero, List.getElem_cons_succ]
      rw [if_pos (by rfl)]
      intro K hK
      go_simp
      exact hK.out _ _ _ (by first | rfl | simp only [Act.put, List.setIfInBounds_toArray, List.set_cons_zero, List.set_cons_succ]) rfl (Grows.refl _)
    · refine does_mk [(12, some 33)] rfl (by kernel_rfl) (fun u wi hR hf => ?_)
      simp only [putPs, Act.put, List.setIfInBounds_toArray, List.set_cons_zero, List.set_cons_succ, List.getElem_toArray, List.getElem_cons_zero, List.getElem_cons_succ]
      obtain ⟨h12, _⟩ := hf
      have e12 : u 12 = .pointer (some ⟨gc, 0, none⟩) := h12
      try rw [e12]
      clear h12 e12
      rw [if_pos (by rfl)]
      intro K hK
      go_simp
      exact hK.out _ _ _ (by first | rfl | simp only [Act.put, List.setIfInBounds_toArray, List.set_cons_zero, List.set_cons_succ]) rfl (Grows.refl _)
    · refine does_mk [(13, some 34)] rfl (by kernel_rfl) (fun u wi hR hf => ?_)
      simp only [putPs, Act.put, List.setIfInBounds_toArray, List.set_cons_zero, List.set_cons_succ, List.getElem_toArray, List.getElem_cons_zero, List.getElem_cons_succ]
      obtain ⟨h13, _⟩ := hf
      have e13 : u 13 = .pointer (some ⟨gc, 0, none⟩) := h13
      try rw [e13]
      clear h13 e13
      rw [if_pos (by rfl)]
      intro K hK
      go_simp
      exact hK.out _ _ _ (by first | rfl | simp only [Act.put, List.setIfInBounds_toArray, List.set_cons_zero, List.set_cons_succ]) rfl (Grows.refl _)
    · refine does_mk [(14, some 35)] rfl (by kernel_rfl) (fun u wi hR hf => ?_)
      simp only [putPs, Act.put, List.setIfInBounds_toArray, List.set_cons_zero, List.set_cons_succ, List.getElem_toArray, List.getElem_cons_zero, List.getElem_cons_succ]
      obtain ⟨h14, _⟩ := hf
      have e14 : u 14 = .pointer (some ⟨gc, 1, none⟩) := h14
      try rw [e14]
      clear h14 e14
      rw [if_pos (by rfl)]
      intro K hK
      have cT : wi.cell? ⟨gc, 1, none⟩ = some (.slice At 10 ct) := (Below.cell (p := ⟨gc, 1, none⟩) hR HGL.out).trans HCT.out
      go_simp
      exact hK.out _ _ _ (by first | rfl | simp only [Act.put, List.setIfInBounds_toArray, List.set_cons_zero, List.set_cons_succ]) rfl (Grows.refl _)
    · refine does_mk [(3, some 24), (5, some 26), (11, some 32), (15, some 36)] rfl (by kernel_rfl) (fun u wi hR hf => ?_)
      simp only [putPs, Act.put, List.setIfInBounds_toArray, List.set_cons_zero, List.set_cons_succ, List.getElem_toArray, List.getElem_cons_zero, List.getElem_cons_succ]
      obtain ⟨h3, h5, h11, h15, _⟩ := hf
      obtain ⟨A3, c3, e3, hl3, hc3, hm3, hr3⟩ := h3
      try rw [e3]
      clear e3
      obtain ⟨A5, c5, e5, hl5, hc5, hm5, hr5⟩ := h5
      try rw [e5]
      clear e5
      obtain ⟨A11, c11, e11, hl11, hc11, hm11, hr11⟩ := h11
      try rw [e11]
      clear e11
      have e15 : u 15 = .slice At 10 ct := h15
      try rw [e15]
      clear h15 e15
      rw [if_pos (by rfl)]
      intro K hK
      go_simp
      have hrT := (HRT.out.below ((Below.refl _ _).drew.trans hR)).more hR.size
      have hq := parts_new (w := wi) (S := fun k => k < wi.heap.size) (T' := fun k => k < (wi.alloc (.cells (List.map Part.val [(⟨A3, 8, c3, [1, 2, 1, 0, 0, 10, 10, 3]⟩ : Part), ⟨A5, 4, c5, numL 6 4⟩, ⟨A11, 4, c11, numL 10 4⟩, ⟨At, 10, ct, tw⟩]).toArray 22)).heap.size) 22 [(⟨A3, 8, c3, [1, 2, 1, 0, 0, 10, 10, 3]⟩ : Part), ⟨A5, 4, c5, numL 6 4⟩, ⟨A11, 4, c11, numL 10 4⟩, ⟨At, 10, ct, tw⟩] (by
        intro p hp
        simp only [List.mem_cons, List.not_mem_nil, or_false] at hp
        rcases hp with rfl | rfl | rfl | rfl
        · exact ⟨hl3, hc3, hm3, hr3.s (fun _ h => h)⟩
        · exact ⟨hl5, hc5, hm5, hr5.s (fun _ h => h)⟩
        · exact ⟨hl11, hc11, hm11, hr11.s (fun _ h => h)⟩
        · exact ⟨HTL.out, hct, hcm, hrT.s (fun _ h => h)⟩) (fun _ h => h) (by simp) (fun x hx => by simp; omega)
      exact hK.out _ _ _ (by first | rfl | simp only [Act.put, List.setIfInBounds_toArray, List.set_cons_zero, List.set_cons_succ]) ⟨_, _, rfl, rfl, hq⟩ ((Below.refl _ _).alloc (Nat.le_refl _) _)
    · refine does_mk [(11, some 32), (16, some 37)] rfl (by kernel_rfl) (fun u wi hR hf => ?_)
      simp only [putPs, Act.put, List.setIfInBounds_toArray, List.set_cons_zero, List.set_cons_succ, List.getElem_toArray, List.getElem_cons_zero, List.getElem_cons_succ]
      obtain ⟨h11, h16, _⟩ := hf
      obtain ⟨A11, c11, e11, hl11, hc11, hm11, hr11⟩ := h11
      try rw [e11]
      clear e11
      obtain ⟨b16, ps16, e16, hm16, hp16⟩ := h16
      try rw [e16]
      clear e16
      rw [if_pos (by rfl)]
      intro K hK
      go_simp
      refine (join_ls 4 (headP 6 tw) b16 ps16 _ hm16 rfl (by omega) (by omega) hp16 (by rw [headP_len 6 HTL.out]; omega) (headP_lt 6 HTL.out)).mono ?_
      rintro e w6 ⟨g6, rfl, ho6, hb6⟩
      rw [headP_len 6 HTL.out] at ho6 ⊢
      exact hK.out _ _ _ (by first | rfl | simp only [Act.put, List.setIfInBounds_toArray, List.set_cons_zero, List.set_cons_succ]) ⟨_, _, rfl, headP_len _ HTL.out, by omega, by omega, ownb_rd ho6⟩ hb6
    · refine does_mk [(0, some 21), (1, some 22), (2, some 23), (3, some 24), (4, some 25), (5, some 26), (6, some 27), (7, some 28), (8, some 29), (9, some 30), (10, some 31), (11, some 32), (12, some 33), (13, some 34), (14, some 35), (15, some 36), (16, some 37), (17, some 38)] rfl (by kernel_rfl) (fun u wi hR hf => ?_)
      simp only [putPs, Act.put, List.setIfInBounds_toArray, List.set_cons_zero, List.set_cons_succ, List.getElem_toArray, List.getElem_cons_zero, List.getElem_cons_succ]
      obtain ⟨h0, h1, h2, h3, h4, h5, h6, h7, h8, h9, h10, h11, h12, h13, h14, h15, h16, h17, _⟩ := hf
      have e0 : u 0 = .int .i64 6 := h0
      try rw [e0]
      clear h0 e0
      have e1 : u 1 = .int .i64 3 := h1
      try rw [e1]
      clear h1 e1
      have e2 : u 2 = .int .u8 3 := h2
      try rw [e2]
      clear h2 e2
      obtain ⟨A3, c3, e3, hl3, hc3, hm3, hr3⟩ := h3
      try rw [e3]
      clear e3
      have e4 : u 4 = .int .i64 6 := h4
      try rw [e4]
      clear h4 e4
      obtain ⟨A5, c5, e5, hl5, hc5, hm5, hr5⟩ := h5
      try rw [e5]
      clear e5
      have e6 : u 6 = .pointer (some ⟨gc, 0, none⟩) := h6
      try rw [e6]
      clear h6 e6
      have e7 : u 7 = .pointer (some ⟨gc, 0, none⟩) := h7
      try rw [e7]
      clear h7 e7
      have e8 : u 8 = .pointer (some ⟨gc, 1, none⟩) := h8
      try rw [e8]
      clear h8 e8
      have e9 : u 9 = .slice At 10 ct := h9
      try rw [e9]
      clear h9 e9
      have e10 : u 10 = .int .i64 10 := h10
      try rw [e10]
      clear h10 e10
      obtain ⟨A11, c11, e11, hl11, hc11, hm11, hr11⟩ := h11
      try rw [e11]
      clear e11
      have e12 : u 12 = .pointer (some ⟨gc, 0, none⟩) := h12
      try rw [e12]
      clear h12 e12
      have e13 : u 13 = .pointer (some ⟨gc, 0, none⟩) := h13
      try rw [e13]
      clear h13 e13
      have e14 : u 14 = .pointer (some ⟨gc, 1, none⟩) := h14
      try rw [e14]
      clear h14 e14
      have e15 : u 15 = .slice At 10 ct := h15
      try rw [e15]
      clear h15 e15
      obtain ⟨b16, ps16, e16, hm16, hp16⟩ := h16
      try rw [e16]
      clear e16
      obtain ⟨A17, c17, e17, hl17, hc17, hm17, hr17⟩ := h17
      try rw [e17]
      clear e17
      rw [if_pos (by rfl)]
      intro K hK
      go_simp
      exact hK.out _ _ _ (by first | rfl | simp only [Act.put, List.setIfInBounds_toArray, List.set_cons_zero, List.set_cons_succ]) ⟨_, _, rfl, hl17, hc17, hm17, hr17⟩ (Grows.refl _)
  · intro u wi hR hf
    simp only [putPs, Act.put, List.setIfInBounds_toArray, List.set_cons_zero, List.set_cons_succ, List.getElem_toArray, List.getElem_cons_zero, List.getElem_cons_succ]
    obtain ⟨h0, h1, h2, h3, h4, h5, h6, h7, h8, h9, h10, h11, h12, h13, h14, h15, h16, h17, h18, _⟩ := hf
    have e0 : u 0 = .int .i64 6 := h0
    try rw [e0]
    clear h0 e0
    have e1 : u 1 = .int .i64 3 := h1
    try rw [e1]
    clear h1 e1
    have e2 : u 2 = .int .u8 3 := h2
    try rw [e2]
    clear h2 e2
    obtain ⟨A3, c3, e3, hl3, hc3, hm3, hr3⟩ := h3
    try rw [e3]
    clear e3
    have e4 : u 4 = .int .i64 6 := h4
    try rw [e4]
    clear h4 e4
    obtain ⟨A5, c5, e5, hl5, hc5, hm5, hr5⟩ := h5
    try rw [e5]
    clear e5
    have e6 : u 6 = .pointer (some ⟨gc, 0, none⟩) := h6
    try rw [e6]
    clear h6 e6
    have e7 : u 7 = .pointer (some ⟨gc, 0, none⟩) := h7
    try rw [e7]
    clear h7 e7
    have e8 : u 8 = .pointer (some ⟨gc, 1, none⟩) := h8
    try rw [e8]
    clear h8 e8
    have e9 : u 9 = .slice At 10 ct := h9
    try rw [e9]
    clear h9 e9
    have e10 : u 10 = .int .i64 10 := h10
    try rw [e10]
    clear h10 e10
    obtain ⟨A11, c11, e11, hl11, hc11, hm11, hr11⟩ := h11
    try rw [e11]
    clear e11
    have e12 : u 12 = .pointer (some ⟨gc, 0, none⟩) := h12
    try rw [e12]
    clear h12 e12
    have e13 : u 13 = .pointer (some ⟨gc, 0, none⟩) := h13
    try rw [e13]
    clear h13 e13
    have e14 : u 14 = .pointer (some ⟨gc, 1, none⟩) := h14
    try rw [e14]
    clear h14 e14
    have e15 : u 15 = .slice At 10 ct := h15
    try rw [e15]
    clear h15 e15
    obtain ⟨b16, ps16, e16, hm16, hp16⟩ := h16
    try rw [e16]
    clear e16
    obtain ⟨A17, c17, e17, hl17, hc17, hm17, hr17⟩ := h17
    try rw [e17]
    clear e17
    obtain ⟨A18, c18, e18, hl18, hc18, hm18, hr18⟩ := h18
    try rw [e18]
    clear e18
    have hb2 : Below w1.heap.size w1 wi := (Below.refl _ _).drew.trans (hR.mono (by simp))
    have HB2 := Lib.hid hb2
    have HR18 := Lib.hid hr18
    have HL18 := Lib.hid hl18
    have hzi : w1.heap.size ≤ wi.heap.size := hb2.size
    clear hl3 hc3 hm3 hr3 hl5 hc5 hm5 hr5 hl11 hc11 hm11 hr11 hm16 hp16 hl17 hc17 hm17 hr17 hl18 hr18 hb2 hR
    have hrw : IntKind.u8.wrap (r : Int) = (r : Int) := by rw [IntKind.wrap_u8]; omega
    go_wp2_with fail
    refine (fnum_any v 2 (by omega) (by omega) _).mono ?_
    rintro e w3 ⟨rfl, hr3, hb3⟩
    have hbr : bvs [UInt8.ofNat r] = [.int .u8 (r : Int)] := by
      simp only [bvs, bv, List.map_cons, List.map_nil, UInt8.toNat_ofNat']
      rw [Nat.mod_eq_of_lt (by omega)]
    have hrow3 : Row (wi.alloc (.cells #[.int .u8 (r : Int)] 5)) 5 wi.heap.size ([UInt8.ofNat r] ++ []) := by
      rw [List.append_nil]
      have := Row.new wi 5 [UInt8.ofNat r]
      rw [hbr] at this
      exact this
    have ho3 : Own w3 5 wi.heap.size (.slice (some ⟨wi.heap.size, 0, none⟩) 1 1) [UInt8.ofNat r] := Own.below (hrow3.toOwn (Nat.le_refl _) rfl rfl (by omega)) hb3
    have hb03 : Below wi.heap.size wi w3 := ((Below.refl _ _).alloc (Nat.le_refl _) _).trans (hb3.mono (by simp))
    have hz3 := hb03.size
    rw [show (wi.alloc (.cells #[.int .u8 (r : Int)] 5)).heap.size = wi.heap.size + 1 by simp] at hr3
    have HRN := Lib.hid (row_rd hr3)
    have HO3 := Lib.hid ho3
    have HB3 := Lib.hid hb03
    clear hbr hrow3 ho3 hb03 hr3 hb3
    go_wp2_with (first
      | (with_reducible refine at_slot 45 ?_
         refine wpList_append_u8 Go.Proofs.YtkgnnlglabihkaaGreatDoor.u8 rfl (.tmp 41) (.tmp 44) rfl wi.heap.size _ [UInt8.ofNat r] _ 2 2 (numL v 2) w3.heap.size rfl rfl HO3.out HRN.out (numL_len _ _) (by simp) hz3 ?_
         intro v4 w4 ho4 hg4 hat4
         have hb4 : Below wi.heap.size wi w4 := below_grown HB3.out hg4 hz3 HO3.out (Nat.le_refl _)
         have HO4 := Lib.hid ho4
         have HB4 := Lib.hid hb4
         clear hg4 hat4
         obtain ⟨A4, c4, hv4, hr4, hc4⟩ := ho4.form
         have hl4 : ([UInt8.ofNat r] ++ numL v 2).length = 3 := by simp [numL_len]
         rw [hl4] at hv4 hc4
         subst hv4
         obtain ⟨_, _, hcm4⟩ := Sha.own_len ho4
         have HL4 := Lib.hid hl4
         have HR4 := Lib.hid hr4
         clear ho4 hr4 hb4 hl4
         have hB14 := HB2.out.trans (HB4.out.mono hzi)
         have hz4 := hB14.size
         have cT4 : w4.cell? ⟨gc, 1, none⟩ = some (.slice At 10 ct) := (hB14.cell (p := ⟨gc, 1, none⟩) HGL.out).trans HCT.out
         have HB14 := Lib.hid hB14
         clear hB14)
      | (with_reducible refine at_slot 56 ?_
         refine wpList_make_u8 Go.Proofs.YtkgnnlglabihkaaGreatDoor.u8 rfl (.tmp 55) (.tmp 55) rfl .i64 .i64 _ _ 3 3 rfl rfl rfl rfl (by omega) (by omega) ?_))
    have hB5 := HB14.out.alloc hz4 (.cells (bvs (List.replicate 3 0)).toArray 5)
    have hC5 : Ciph (w4.alloc (.cells (bvs (List.replicate 3 0)).toArray 5)) base B gc g key tw := HC1.out.below hB5
    have hR5 := (Row.new w4 5 (List.replicate 3 0)).rd
    have hR4 := (HR4.out.alloc (Nat.le_refl _) (.cells (bvs (List.replicate 3 0)).toArray 5)).more (show w4.heap.size ≤ (w4.alloc (.cells (bvs (List.replicate 3 0)).toArray 5)).heap.size by simp)
    have hR18 := (((HR18.out.below HB4.out).more HB4.out.size).alloc (Nat.le_refl _) (.cells (bvs (List.replicate 3 0)).toArray 5)).more (show w4.heap.size ≤ (w4.alloc (.cells (bvs (List.replicate 3 0)).toArray 5)).heap.size by simp)
    obtain ⟨g5, hg5⟩ : ∃ x, w4.heap.size = x := ⟨_, rfl⟩
    rw [hg5] at hR5
    try rw [hg5]
    rw [show List.replicate 3 (0 : UInt8) = [0, 0, 0] from rfl] at hB5 hC5 hR5 hR4 hR18
    generalize w4.alloc (.cells (bvs [0, 0, 0]).toArray 5) = W5 at *
    have hz5 := hB5.size
    have HB5 := Lib.hid hB5
    have HC5 := Lib.hid hC5
    have HR5 := Lib.hid hR5
    have HR45 := Lib.hid hR4
    have HR185 := Lib.hid hR18
    have hck : W5.cell? ⟨gc, 0, none⟩ = some (.pointer (some ⟨g, 0, none⟩)) := hC5.ck
    clear hB5 hC5 hR5 hR4 hR18
    refine wp_region_held_drew (S := fun w' => w'.cell? ⟨gc, 0, none⟩ = some (.pointer (some ⟨g, 0, none⟩))) (by kernel_rfl) (hck) (fun hHeld => ?_)
    refine wpAnyH_take (i := 0) (v := ?_) rfl (by kernel_rfl) (by kernel_rfl) (by kernel_rfl) (fun _ _ _ h => h) (Or.inl ⟨by kernel_rfl, ?_⟩) (by assumption) ?_
    rotate_left
    · (intro w hSw; (try dsimp only at hSw); go_simp; first | done | with_reducible rfl)
    (try simp only [Act.put, List.setIfInBounds_toArray, List.set_cons_zero, List.set_cons_succ, List.getElem_toArray, List.getElem_cons_zero, List.getElem_cons_succ])
    refine wpAnyH_take (i := 1) (v := ?_) rfl (by kernel_rfl) (by kernel_rfl) (by kernel_rfl) (fun _ _ _ h => h) (Or.inl ⟨by kernel_rfl, ?_⟩) (by assumption) ?_
    rotate_left
    · (intro w hSw; (try dsimp only at hSw); go_simp; first | done | with_reducible rfl)
    (try simp only [Act.put, List.setIfInBounds_toArray, List.set_cons_zero, List.set_cons_succ, List.getElem_toArray, List.getElem_cons_zero, List.getElem_cons_succ])
    refine wpAnyH_take (i := 2) (v := ?_) rfl (by kernel_rfl) (by kernel_rfl) (by kernel_rfl) (fun _ _ _ h => h) (Or.inl ⟨by kernel_rfl, ?_⟩) (by assumption) ?_
    rotate_left
    · (intro w hSw; (try dsimp only at hSw); go_simp; first | done | with_reducible rfl)
    (try simp only [Act.put, List.setIfInBounds_toArray, List.set_cons_zero, List.set_cons_succ, List.getElem_toArray, List.getElem_cons_zero, List.getElem_cons_succ])
    refine wpAnyH_take (i := 3) (v := ?_) rfl (by kernel_rfl) (by kernel_rfl) (by kernel_rfl) (fun _ _ _ h => h) (Or.inl ⟨by kernel_rfl, ?_⟩) (by assumption) ?_
    rotate_left
    · (intro w hSw; (try dsimp only at hSw); go_simp; first | done | with_reducible rfl)
    (try simp only [Act.put, List.setIfInBounds_toArray, List.set_cons_zero, List.set_cons_succ, List.getElem_toArray, List.getElem_cons_zero, List.getElem_cons_succ])
    refine wpAnyH_take (i := 4) (v := ?_) rfl (by kernel_rfl) (by kernel_rfl) (by kernel_rfl) (fun _ _ _ h => h) (Or.inl ⟨by kernel_rfl, ?_⟩) (by assumption) ?_
    rotate_left
    · (intro w hSw; (try dsimp only at hSw); go_simp; first | done | with_reducible rfl)
    (try simp only [Act.put, List.setIfInBounds_toArray, List.set_cons_zero, List.set_cons_succ, List.getElem_toArray, List.getElem_cons_zero, List.getElem_cons_succ])
    refine wpAnyH_take (i := 5) (v := ?_) rfl (by kernel_rfl) (by kernel_rfl) (by kernel_rfl) (fun _ _ _ h => h) (Or.inl ⟨by kernel_rfl, ?_⟩) (by assumption) ?_
    rotate_left
    · (intro w hSw; (try dsimp only at hSw); go_simp; first | done | with_reducible rfl)
    (try simp only [Act.put, List.setIfInBounds_toArray, List.set_cons_zero, List.set_cons_succ, List.getElem_toArray, List.getElem_cons_zero, List.getElem_cons_succ])
    refine wpAnyH_take (i := 6) (v := ?_) rfl (by kernel_rfl) (by kernel_rfl) (by kernel_rfl) (fun _ _ _ h => h) (Or.inl ⟨by kernel_rfl, ?_⟩) (by assumption) ?_
    rotate_left
    · (intro w hSw; (try dsimp only at hSw); go_simp; first | done | with_reducible rfl)
    (try simp only [Act.put, List.setIfInBounds_toArray, List.set_cons_zero, List.set_cons_succ, List.getElem_toArray, List.getElem_cons_zero, List.getElem_cons_succ])
    refine wpAnyH_ready (rs := [7]) (by kernel_rfl) (by simp) ?_
    refine AllReadyH.cons rfl (fun KK hKK => ?_) AllReadyH.nil
    go_simp
    refine hKK.out _ _ ?_ (fun hHeld => ?_)
    · (first | assumption | (exact (World.cell?_alloc_lt W5 _ ⟨gc, 0, none⟩ HC5.out.gl).trans hck))
    clear hKK KK
    (try simp only [Act.put, List.setIfInBounds_toArray, List.set_cons_zero, List.set_cons_succ, List.getElem_toArray, List.getElem_cons_zero, List.getElem_cons_succ])
    refine wpAnyH_ready (rs := [8]) (by kernel_rfl) (by simp) ?_
    refine AllReadyH.cons rfl (fun KK hKK => ?_) AllReadyH.nil
    go_simp
    have hq0 := parts_new (w := W5) (S := fun k => k < W5.heap.size) (T' := fun k => k < (W5.alloc (.cells (List.map Part.val [(⟨A18, 26, c18, (headP 6 tw).flatten⟩ : Part), ⟨some ⟨g5, 0, none⟩, 3, 3, [0, 0, 0]⟩, ⟨A4, 3, c4, tailP 6 r v⟩]).toArray 22)).drew.heap.size) 22 [(⟨A18, 26, c18, (headP 6 tw).flatten⟩ : Part), ⟨some ⟨g5, 0, none⟩, 3, 3, [0, 0, 0]⟩, ⟨A4, 3, c4, tailP 6 r v⟩] (by
      intro p hp
      simp only [List.mem_cons, List.not_mem_nil, or_false] at hp
      rcases hp with rfl | rfl | rfl
      · exact ⟨HL18.out, hc18, hm18, HR185.out.s (fun _ h => h)⟩
      · exact ⟨rfl, Nat.le_refl _, (by omega : (3 : Nat) ≤ 9223372036854775807), HR5.out.s (fun _ h => h)⟩
      · exact ⟨HL4.out, hc4, hcm4, HR45.out.s (fun _ h => h)⟩) (fun _ h => h) (by simp [World.drew]) (fun x hx => by simp [World.drew]; omega)
    have hq : PartsS (W5.alloc (.cells (List.map Part.val [(⟨A18, 26, c18, (headP 6 tw).flatten⟩ : Part), ⟨some ⟨g5, 0, none⟩, 3, 3, [0, 0, 0]⟩, ⟨A4, 3, c4, tailP 6 r v⟩]).toArray 22)).drew (fun k => k < (W5.alloc (.cells (List.map Part.val [(⟨A18, 26, c18, (headP 6 tw).flatten⟩ : Part), ⟨some ⟨g5, 0, none⟩, 3, 3, [0, 0, 0]⟩, ⟨A4, 3, c4, tailP 6 r v⟩]).toArray 22)).drew.heap.size) (some ⟨W5.heap.size, 0, none⟩) [(⟨A18, 26, c18, (headP 6 tw).flatten⟩ : Part), ⟨some ⟨g5, 0, none⟩, 3, 3, [0, 0, 0]⟩, ⟨A4, 3, c4, tailP 6 r v⟩] := ⟨hq0.at_, hq0.part⟩
    clear hq0
    refine (join_ls 3 (maskP 6 r v tw) _ [(⟨A18, 26, c18, (headP 6 tw).flatten⟩ : Part), ⟨some ⟨g5, 0, none⟩, 3, 3, [0, 0, 0]⟩, ⟨A4, 3, c4, tailP 6 r v⟩] _ rfl rfl (by omega) (by omega) hq (by rw [maskP_len 6 r v HTL.out]; omega) (maskP_lt 6 r v HTL.out)).mono ?_
    rintro e w6 ⟨g6, rfl, ho6, hb6⟩
    rw [maskP_len 6 r v HTL.out] at ho6 ⊢
    have hb56 : Below W5.heap.size W5 w6 := ((Below.refl W5.heap.size W5).alloc (Nat.le_refl _) _).drew.trans (hb6.mono (by simp [World.drew]))
    have hg6 := (ho6.lt g6 rfl)
    have HC6 := Lib.hid (HC5.out.below hb56)
    have HO6 := Lib.hid ho6
    have HB56 := Lib.hid hb56
    have hck6 := HC6.out.ck
    have hz6 := hb56.size
    clear hq ho6 hb6 hb56
    go_wp2_with fail
    refine hKK.out _ _ ?_ (fun hHeld => ?_)
    · (exact hck6)
    clear hKK KK
    (try simp only [Act.put, List.setIfInBounds_toArray, List.set_cons_zero, List.set_cons_succ, List.getElem_toArray, List.getElem_cons_zero, List.getElem_cons_succ])
    refine wpAnyH_ready (rs := [9]) (by kernel_rfl) (by simp) ?_
    refine AllReadyH.cons rfl (fun KK hKK => ?_) AllReadyH.nil
    go_simp
    have hrd : RdS w6 (Off w6 B) (some ⟨g6, 0, none⟩) (maskP 6 r v tw).flatten := RdS.elim_off ((ownb_rd HO6.out).s (fun _ h => h)) (fun hb => by
      have h1 := (HC5.out.key.lt _ hb).2
      have h2 := hg6.1
      simp [World.drew] at h2
      omega)
    have hbw : base ≤ w6.heap.size := by have := HBS.out; have := HB1.out.size; omega
    refine (chain_any base B g key _ _ 2 32 32 w6 HC6.out.key hbw (maskP_len 6 r v HTL.out) rfl (by omega) (by omega) hrd).mono ?_
    rintro e w7 ⟨v7, rfl, ho7, hk7⟩
    have hko := HC6.out.key.ok
    have hl7 : (chainL key 2 (maskP 6 r v tw).flatten).length = 16 := cbc_len hko _ _ _ (by simp)
    obtain ⟨A7, c7, hv7, hr7, hc7⟩ := ho7.form
    rw [hl7] at hv7 hc7
    subst hv7
    have HO7 := Lib.hid (HC6.out.out hk7)
    have HR7 := Lib.hid hr7
    have HL7 := Lib.hid hl7
    obtain ⟨B7, hC7, _, _⟩ := HO7.out
    have hck7 := hC7.ck
    clear hrd ho7 hk7 hr7 hl7 hC7
    go_wp2_with fail
    refine hKK.out _ _ ?_ (fun hHeld => ?_)
    · (exact hck7)
    clear hKK KK
    (try simp only [Act.put, List.setIfInBounds_toArray, List.set_cons_zero, List.set_cons_succ, List.getElem_toArray, List.getElem_cons_zero, List.getElem_cons_succ])
    refine wpAnyH_ready (rs := [10]) (by kernel_rfl) (by simp) ?_
    refine AllReadyH.cons rfl (fun KK hKK => ?_) AllReadyH.nil
    go_simp
    refine hKK.out _ _ ?_ (fun hHeld => ?_)
    · (first | assumption | (exact (World.cell?_alloc_lt W5 _ ⟨gc, 0, none⟩ HC5.out.gl).trans hck))
    clear hKK KK
    (try simp only [Act.put, List.setIfInBounds_toArray, List.set_cons_zero, List.set_cons_succ, List.getElem_toArray, List.getElem_cons_zero, List.getElem_cons_succ])
    refine wpAnyH_done (by kernel_rfl) ?_ _
    go_wp2_with fail
    obtain ⟨A8, hsl, hr8⟩ := arg_to (k := 8) HR7.out HL7.out (by omega) hc7
    have hsl8 : ∀ w' : World, (Instr.slice 22 (.slice A7 16 c7) none (some (.int .i64 8)) none).run Tryz.prog w' = .ok (.slice A8 8 c7) w' := hsl
    have HR8 := Lib.hid hr8
    have hw8 : IntKind.i64.wrap (4 + bits BinOp.andNot IntKind.i64 (IntKind.i64.wrap 5) 3) = 8 := by decide
    have hhp := Lib.hid (halfN_pos (n := 6) (r := r) (by omega) (by omega))
    have HM := Lib.hid (show maskN key tw 6 r v = restN (10 ^ halfN 6 r) ((chainL key 2 (maskP 6 r v tw).flatten).take 8) from rfl)
    clear hsl hr8
    refine wp_region_held_drew (S := fun _ => True) (by kernel_rfl) (trivial) (fun hHeld => ?_)
    refine wpAnyH_take (i := 0) (v := ?_) rfl (by kernel_rfl) (by kernel_rfl) (by kernel_rfl) (fun _ _ _ h => h) (Or.inl ⟨by kernel_rfl, ?_⟩) (by assumption) ?_
    rotate_left
    · (intro w hSw; (try dsimp only at hSw); go_simp; first | done | with_reducible rfl)
    (try simp only [Act.put, List.setIfInBounds_toArray, List.set_cons_zero, List.set_cons_succ, List.getElem_toArray, List.getElem_cons_zero, List.getElem_cons_succ])
    refine wpAnyH_take (i := 1) (v := ?_) rfl (by kernel_rfl) (by kernel_rfl) (by kernel_rfl) (fun _ _ _ h => h) (Or.inl ⟨by kernel_rfl, ?_⟩) (by assumption) ?_
    rotate_left
    · (intro w hSw; (try dsimp only at hSw); go_simp; first | done | with_reducible rfl)
    (try simp only [Act.put, List.setIfInBounds_toArray, List.set_cons_zero, List.set_cons_succ, List.getElem_toArray, List.getElem_cons_zero, List.getElem_cons_succ])
    refine wpAnyH_take (i := 2) (v := ?_) rfl (by kernel_rfl) (by kernel_rfl) (by kernel_rfl) (fun _ _ _ h => h) (Or.inl ⟨by kernel_rfl, ?_⟩) (by assumption) ?_
    rotate_left
    · (intro w hSw; (try dsimp only at hSw); go_simp; first | done | with_reducible rfl)
    (try simp only [Act.put, List.setIfInBounds_toArray, List.set_cons_zero, List.set_cons_succ, List.getElem_toArray, List.getElem_cons_zero, List.getElem_cons_succ])
    refine wpAnyH_take (i := 3) (v := ?_) rfl (by kernel_rfl) (by kernel_rfl) (by kernel_rfl) (fun _ _ _ h => h) (Or.inl ⟨by kernel_rfl, ?_⟩) (by assumption) ?_
    rotate_left
    · (intro w hSw; (try dsimp only at hSw); go_simp; first | done | with_reducible rfl)
    (try simp only [Act.put, List.setIfInBounds_toArray, List.set_cons_zero, List.set_cons_succ, List.getElem_toArray, List.getElem_cons_zero, List.getElem_cons_succ])
    refine wpAnyH_take (i := 4) (v := ?_) rfl (by kernel_rfl) (by kernel_rfl) (by kernel_rfl) (fun _ _ _ h => h) (Or.inl ⟨by kernel_rfl, ?_⟩) (by assumption) ?_
    rotate_left
    · (intro w hSw; (try dsimp only at hSw); go_simp; first | done | with_reducible rfl)
    (try simp only [Act.put, List.setIfInBounds_toArray, List.set_cons_zero, List.set_cons_succ, List.getElem_toArray, List.getElem_cons_zero, List.getElem_cons_succ])
    refine wpAnyH_take (i := 5) (v := ?_) rfl (by kernel_rfl) (by kernel_rfl) (by kernel_rfl) (fun _ _ _ h => h) (Or.inl ⟨by kernel_rfl, ?_⟩) (by assumption) ?_
    rotate_left
    · (intro w hSw; (try dsimp only at hSw); go_simp; first | done | with_reducible rfl)
    (try simp only [Act.put, List.setIfInBounds_toArray, List.set_cons_zero, List.set_cons_succ, List.getElem_toArray, List.getElem_cons_zero, List.getElem_cons_succ])
    refine wpAnyH_take (i := 6) (v := ?_) rfl (by kernel_rfl) (by kernel_rfl) (by kernel_rfl) (fun _ _ _ h => h) (Or.inl ⟨by kernel_rfl, ?_⟩) (by assumption) ?_
    rotate_left
    · (intro w hSw; (try dsimp only at hSw); go_simp; first | done | with_reducible rfl)
    (try simp only [Act.put, List.setIfInBounds_toArray, List.set_cons_zero, List.set_cons_succ, List.getElem_toArray, List.getElem_cons_zero, List.getElem_cons_succ])
    refine wpAnyH_take (i := 7) (v := ?_) rfl (by kernel_rfl) (by kernel_rfl) (by kernel_rfl) (fun _ _ _ h => h) (Or.inl ⟨by kernel_rfl, ?_⟩) (by assumption) ?_
    rotate_left
    · (intro w hSw; (try dsimp only at hSw); go_simp; first | done | with_reducible rfl)
    (try simp only [Act.put, List.setIfInBounds_toArray, List.set_cons_zero, List.set_cons_succ, List.getElem_toArray, List.getElem_cons_zero, List.getElem_cons_succ])
    refine wpAnyH_ready (rs := [8]) (by kernel_rfl) (by simp) ?_
    refine AllReadyH.cons rfl (fun KK hKK => ?_) AllReadyH.nil
    go_simp
    refine (half_any 6 r (by omega) (by omega) _).mono ?_
    rintro e w8 ⟨rfl, rfl⟩
    go_wp2_with fail
    refine hKK.out _ _ ?_ (fun hHeld => ?_)
    · (trivial)
    clear hKK KK
    (try simp only [Act.put, List.setIfInBounds_toArray, List.set_cons_zero, List.set_cons_succ, List.getElem_toArray, List.getElem_cons_zero, List.getElem_cons_succ])
    refine wpAnyH_ready (rs := [9]) (by kernel_rfl) (by simp) ?_
    refine AllReadyH.cons rfl (fun KK hKK => ?_) AllReadyH.nil
    go_simp
    refine (rest_any w7.drew A8 8 c7 _ (halfN 6 r) (by rw [List.length_take, HL7.out]; rfl) (by omega) HR8.out hhp.out.1 (by have := hhp.out.2; omega)).mono ?_
    rintro e w9 ⟨rfl, hb9⟩
    rw [← HM.out]
    have HB9 := Lib.hid (show Below w7.heap.size w7 w9 from (Below.refl _ _).drew.trans hb9)
    clear hb9
    go_wp2_with fail
    refine hKK.out _ _ ?_ (fun hHeld => ?_)
    · (trivial)
    clear hKK KK
    (try simp only [Act.put, List.setIfInBounds_toArray, List.set_cons_zero, List.set_cons_succ, List.getElem_toArray, List.getElem_cons_zero, List.getElem_cons_succ])
    refine wpAnyH_take (i := 10) (v := ?_) rfl (by kernel_rfl) (by kernel_rfl) (by kernel_rfl) (fun _ _ _ h => h) (Or.inl ⟨by kernel_rfl, ?_⟩) (by assumption) ?_
    rotate_left
    · (intro w hSw; (try dsimp only at hSw); go_simp; first | done | with_reducible rfl)
    (try simp only [Act.put, List.setIfInBounds_toArray, List.set_cons_zero, List.set_cons_succ, List.getElem_toArray, List.getElem_cons_zero, List.getElem_cons_succ])
    refine wpAnyH_take (i := 11) (v := ?_) rfl (by kernel_rfl) (by kernel_rfl) (by kernel_rfl) (fun _ _ _ h => h) (Or.inl ⟨by kernel_rfl, ?_⟩) (by assumption) ?_
    rotate_left
    · (intro w hSw; (try dsimp only at hSw); go_simp; first | done | with_reducible rfl)
    (try simp only [Act.put, List.setIfInBounds_toArray, List.set_cons_zero, List.set_cons_succ, List.getElem_toArray, List.getElem_cons_zero, List.getElem_cons_succ])
    refine wpAnyH_take (i := 12) (v := ?_) rfl (by kernel_rfl) (by kernel_rfl) (by kernel_rfl) (fun _ _ _ h => h) (Or.inl ⟨by kernel_rfl, ?_⟩) (by assumption) ?_
    rotate_left
    · (intro w hSw; (try dsimp only at hSw); go_simp; first | done | with_reducible rfl)
    (try simp only [Act.put, List.setIfInBounds_toArray, List.set_cons_zero, List.set_cons_succ, List.getElem_toArray, List.getElem_cons_zero, List.getElem_cons_succ])
    refine wpAnyH_take (i := 13) (v := ?_) rfl (by kernel_rfl) (by kernel_rfl) (by kernel_rfl) (fun _ _ _ h => h) (Or.inl ⟨by kernel_rfl, ?_⟩) (by assumption) ?_
    rotate_left
    · (intro w hSw; (try dsimp only at hSw); go_simp; first | done | with_reducible rfl)
    (try simp only [Act.put, List.setIfInBounds_toArray, List.set_cons_zero, List.set_cons_succ, List.getElem_toArray, List.getElem_cons_zero, List.getElem_cons_succ])
    refine wpAnyH_take (i := 14) (v := ?_) rfl (by kernel_rfl) (by kernel_rfl) (by kernel_rfl) (fun _ _ _ h => h) (Or.inl ⟨by kernel_rfl, ?_⟩) (by assumption) ?_
    rotate_left
    · (intro w hSw; (try dsimp only at hSw); go_simp; first | done | with_reducible rfl)
    (try simp only [Act.put, List.setIfInBounds_toArray, List.set_cons_zero, List.set_cons_succ, List.getElem_toArray, List.getElem_cons_zero, List.getElem_cons_succ])
    refine wpAnyH_done (by kernel_rfl) ?_ _
    go_wp2
    go_ret
    exact ⟨rfl, COut.ahead (HB1.out.trans ((HB5.out.trans (HB56.out.mono hz5)).mono HB1.out.size)) (fun k hk => (HC.out.key.lt k hk).2) (HO7.out.then HB9.out)⟩
set_option maxRecDepth 100000 in
set_option maxHeartbeats 4000000 in
theorem mask7 (base : Nat) (B : Nat → Prop) (gc g : Nat) (key tw : List UInt8) (r v : Nat) (hr : r < 10) (hv : v < 1000000) (w : World) (h : Ciph w base B gc g key tw) (hbase : base ≤ w.heap.size) :
    Calls Tryz.prog 32 #[.pointer (some ⟨gc, 0, none⟩), .int .i64 7, .int .i64 (r : Int), .int .i64 (v : Int)] w fun e w' => e = .returned (.int .i64 (maskN key tw 7 r v : Int)) ∧ COut w w' base B gc g key tw := by
  have HC := Lib.hid h
  have HBS := Lib.hid hbase
  have HTL := Lib.hid (show tw.length = 10 by obtain ⟨A, c, h1, h2, h3⟩ := h.tw; exact h2)
  clear h hbase
  go_enter Tryz.func32, Tryz.ntmps32
  go_wp2_with fail
  refine (width_any 4 (by omega) _).mono ?_
  rintro e w1 ⟨rfl, hb1⟩
  rw [show widthN 4 = 2 from rfl, show ((2 : Nat) : Int) = 2 from rfl]
  have hC1 := HC.out.below hb1
  obtain ⟨At, ct, hT1, hTL, hct, hcm, hRT⟩ := hC1.tw
  have HB1 := Lib.hid hb1
  have HC1 := Lib.hid hC1
  have HGL := Lib.hid hC1.gl
  have HCT := Lib.hid hT1
  have HRT := Lib.hid (RdS.rd (B := w1.heap.size) hRT (fun k hk => hk.1))
  clear hb1 hC1 hT1 hTL hRT
  go_wp2_with fail
  refine wp_region_facts [FVal (.int .i64 7), FVal (.int .i64 3), FVal (.int .u8 3), FRm 8 ([1, 2, 1, 0, 0, 10, 10, 3]), FVal (.int .i64 7), FRm 4 (numL 7 4), FVal (.pointer (some ⟨gc, 0, none⟩)), FVal (.pointer (some ⟨gc, 0, none⟩)), FVal (.pointer (some ⟨gc, 1, none⟩)), FVal (.slice At 10 ct), FVal (.int .i64 10), FRm 4 (numL 10 4), FVal (.pointer (some ⟨gc, 0, none⟩)), FVal (.pointer (some ⟨gc, 0, none⟩)), FVal (.pointer (some ⟨gc, 1, none⟩)), FVal (.slice At 10 ct), FJoin 4 (headP 7 tw), FRm 26 ((headP 7 tw).flatten), FRm 26 ((headP 7 tw).flatten)] [0, 1, 2, 3, 4, 5, 6, 7, 8, 9, 10, 11, 12, 13, 14, 15, 16, 17, 18] [(0, some 21), (1, some 22), (2, some 23), (3, some 24), (4, some 25), (5, some 26), (6, some 27), (7, some 28), (8, some 29), (9, some 30), (10, some 31), (11, some 32), (12, some 33), (13, some 34), (14, some 35), (15, some 36), (16, some 37), (17, some 38), (18, some 10)] (by kernel_rfl) (by kernel_rfl) (by kernel_rfl) (by kernel_rfl) ?_ ?_ ?_
  · simp only [List.forall_mem_cons, List.not_mem_nil, false_implies, implies_true, and_true]
    exact ⟨stable_val _, stable_val _, stable_val _, stable_rm _ _, stable_val _, stable_rm _ _, stable_val _, stable_val _, stable_val _, stable_val _, stable_val _, stable_rm _ _, stable_val _, stable_val _, stable_val _, stable_val _, stable_join _ _, stable_rm _ _, stable_rm _ _⟩
  · simp only [List.forall_mem_cons, List.not_mem_nil, false_implies, implies_true, and_true]
    refine ⟨?_, ?_, ?_, ?_, ?_, ?_, ?_, ?_, ?_, ?_, ?_, ?_, ?_, ?_, ?_, ?_, ?_, ?_, ?_⟩
    · refine does_mk [] rfl (by kernel_rfl) (fun u wi hR hf => ?_)
      simp only [putPs, Act.put, List.setIfInBounds_toArray, List.set_cons_zero, List.set_cons_succ, List.getElem_toArray, List.getElem_cons_zero, List.getElem_cons_succ]
      rw [if_pos (by rfl)]
      intro K hK
      go_simp
      exact hK.out _ _ _ (by first | rfl | simp only [Act.put, List.setIfInBounds_toArray, List.set_cons_zero, List.set_cons_succ]) rfl (Grows.refl _)
    · refine does_mk [(0, some 21)] rfl (by kernel_rfl) (fun u wi hR hf => ?_)
      simp only [putPs, Act.put, List.setIfInBounds_toArray, List.set_cons_zero, List.set_cons_succ, List.getElem_toArray, List.getElem_cons_zero, List.getElem_cons_succ]
      obtain ⟨h0, _⟩ := hf
      have e0 : u 0 = .int .i64 7 := h0
      try rw [e0]
      clear h0 e0
      rw [if_pos (by rfl)]
      intro K hK
      go_simp
      exact hK.out _ _ _ (by first | rfl | simp only [Act.put, List.setIfInBounds_toArray, List.set_cons_zero, List.set_cons_succ]) rfl (Grows.refl _)
    · refine does_mk [(1, some 22)] rfl (by kernel_rfl) (fun u wi hR hf => ?_)
      simp only [putPs, Act.put, List.setIfInBounds_toArray, List.set_cons_zero, List.set_cons_succ, List.getElem_toArray, List.getElem_cons_zero, List.getElem_cons_succ]
      obtain ⟨h1, _⟩ := hf
      have e1 : u 1 = .int .i64 3 := h1
      try rw [e1]
      clear h1 e1
      rw [if_pos (by rfl)]
      intro K hK
      go_simp
      exact hK.out _ _ _ (by first | rfl | simp only [Act.put, List.setIfInBounds_toArray, List.set_cons_zero, List.set_cons_succ]) rfl (Grows.refl _)
    · refine does_mk [(2, some 23)] rfl (by kernel_rfl) (fun u wi hR hf => ?_)
      simp only [putPs, Act.put, List.setIfInBounds_toArray, List.set_cons_zero, List.set_cons_succ, List.getElem_toArray, List.getElem_cons_zero, List.getElem_cons_succ]
      obtain ⟨h2, _⟩ := hf
      have e2 : u 2 = .int .u8 3 := h2
      try rw [e2]
      clear h2 e2
      rw [if_pos (by rfl)]
      intro K hK
      go_simp
      exact hK.out _ _ _ (by first | rfl | simp only [Act.put, List.setIfInBounds_toArray, List.set_cons_zero, List.set_cons_succ]) ⟨_, _, rfl, rfl, by omega, by omega, (rd_lit _ [1, 2, 1, 0, 0, 10, 10, 3] rfl).more (by simp)⟩ ((Below.refl _ _).alloc (Nat.le_refl _) _)
    · refine does_mk [] rfl (by kernel_rfl) (fun u wi hR hf => ?_)
      simp only [putPs, Act.put, List.setIfInBounds_toArray, List.set_cons_zero, List.set_cons_succ, List.getElem_toArray, List.getElem_cons_zero, List.getElem_cons_succ]
      rw [if_pos (by rfl)]
      intro K hK
      go_simp
      exact hK.out _ _ _ (by first | rfl | simp only [Act.put, List.setIfInBounds_toArray, List.set_cons_zero, List.set_cons_succ]) rfl (Grows.refl _)
    · refine does_mk [(4, some 25)] rfl (by kernel_rfl) (fun u wi hR hf => ?_)
      simp only [putPs, Act.put, List.setIfInBounds_toArray, List.set_cons_zero, List.set_cons_succ, List.getElem_toArray, List.getElem_cons_zero, List.getElem_cons_succ]
      obtain ⟨h4, _⟩ := hf
      have e4 : u 4 = .int .i64 7 := h4
      try rw [e4]
      clear h4 e4
      rw [if_pos (by rfl)]
      intro K hK
      go_simp
      refine (fnum_any 7 4 (by omega) (by omega) _).mono ?_
      rintro e w5 ⟨rfl, hr5, hb5⟩
      exact hK.out _ _ _ (by first | rfl | simp only [Act.put, List.setIfInBounds_toArray, List.set_cons_zero, List.set_cons_succ]) ⟨_, _, rfl, numL_len _ _, by omega, by omega, row_rd hr5⟩ hb5
    · refine does_mk [] rfl (by kernel_rfl) (fun u wi hR hf => ?_)
      simp only [putPs, Act.put, List.setIfInBounds_toArray, List.set_cons_zero, List.set_cons_succ, List.getElem_toArray, List.getElem_cons_zero, List.getElem_cons_succ]
      rw [if_pos (by rfl)]
      intro K hK
      go_simp
      exact hK.out _ _ _ (by first | rfl | simp only [Act.put, List.setIfInBounds_toArray, List.set_cons_zero, List.set_cons_succ]) rfl (Grows.refl _)
    · refine does_mk [(6, some 27)] rfl (by kernel_rfl) (fun u wi hR hf => ?_)
      simp only [putPs, Act.put, List.setIfInBounds_toArray, List.set_cons_zero, List.set_cons_succ, List.getElem_toArray, List.getElem_cons_zero, List.getElem_cons_succ]
      obtain ⟨h6, _⟩ := hf
      have e6 : u 6 = .pointer (some ⟨gc, 0, none⟩) := h6
      try rw [e6]
      clear h6 e6
      rw [if_pos (by rfl)]
      intro K hK
      go_simp
      exact hK.out _ _ _ (by first | rfl | simp only [Act.put, List.setIfInBounds_toArray, List.set_cons_zero, List.set_cons_succ]) rfl (Grows.refl _)
    · refine does_mk [(7, some 28)] rfl (by kernel_rfl) (fun u wi hR hf => ?_)
      simp only [putPs, Act.put, List.setIfInBounds_toArray, List.set_cons_zero, List.set_cons_succ, List.getElem_toArray, List.getElem_cons_zero, List.getElem_cons_succ]
      obtain ⟨h7, _⟩ := hf
      have e7 : u 7 = .pointer (some ⟨gc, 0, none⟩) := h7
      try rw [e7]
      clear h7 e7
      rw [if_pos (by rfl)]
      intro K hK
      go_simp
      exact hK.out _ _ _ (by first | rfl | simp only [Act.put, List.setIfInBounds_toArray, List.set_cons_zero, List.set_cons_succ]) rfl (Grows.refl _)
    · refine does_mk [(8, some 29)] rfl (by kernel_rfl) (fun u wi hR hf => ?_)
      simp only [putPs, Act.put, List.setIfInBounds_toArray, List.set_cons_zero, List.set_cons_succ, List.getElem_toArray, List.getElem_cons_zero, List.getElem_cons_succ]
      obtain ⟨h8, _⟩ := hf
      have e8 : u 8 = .pointer (some ⟨gc, 1, none⟩) := h8
      try rw [e8]
      clear h8 e8
      rw [if_pos (by rfl)]
      intro K hK
      have cT : wi.cell? ⟨gc, 1, none⟩ = some (.slice At 10 ct) := (Below.cell (p := ⟨gc, 1, none⟩) hR HGL.out).trans HCT.out
      go_simp
      exact hK.out _ _ _ (by first | rfl | simp only [Act.put, List.setIfInBounds_toArray, List.set_cons_zero, List.set_cons_succ]) rfl (Grows.refl _)
    · refine does_mk [(9, some 30)] rfl (by kernel_rfl) (fun u wi hR hf => ?_)
      simp only [putPs, Act.put, List.setIfInBounds_toArray, List.set_cons_zero, List.set_cons_succ, List.getElem_toArray, List.getElem_cons_zero, List.getElem_cons_succ]
      obtain ⟨h9, _⟩ := hf
      have e9 : u 9 = .slice At 10 ct := h9
      try rw [e9]
      clear h9 e9
      rw [if_pos (by rfl)]
      intro K hK
      go_simp
      exact hK.out _ _ _ (by first | rfl | simp only [Act.put, List.setIfInBounds_toArray, List.set_cons_zero, List.set_cons_succ]) rfl (Grows.refl _)
    · refine does_mk [(5, some 26), (10, some 31)] rfl (by kernel_rfl) (fun u wi hR hf => ?_)
      simp only [putPs, Act.put, List.setIfInBounds_toArray, List.set_cons_zero, List.set_cons_succ, List.getElem_toArray, List.getElem_cons_zero, List.getElem_cons_succ]
      obtain ⟨h5, h10, _⟩ := hf
      obtain ⟨A5, c5, e5, hl5, hc5, hm5, hr5⟩ := h5
      try rw [e5]
      clear e5
      have e10 : u 10 = .int .i64 10 := h10
      try rw [e10]
      clear h10 e10
      rw [if_pos (by rfl)]
      intro K hK
      go_simp
      refine (fnum_any 10 4 (by omega) (by omega) _).mono ?_
      rintro e w5 ⟨rfl, hr5, hb5⟩
      exact hK.out _ _ _ (by first | rfl | simp only [Act.put, List.setIfInBounds_toArray, List.set_cons_zero, List.set_cons_succ]) ⟨_, _, rfl, numL_len _ _, by omega, by omega, row_rd hr5⟩ hb5
    · refine does_mk [] rfl (by kernel_rfl) (fun u wi hR hf => ?_)
      simp only [putPs, Act.put, List.setIfInBounds_toArray, List.set_cons_zero, List.set_cons_succ, List.getElem_toArray, List.getElem_cons_zero, List.getElem_cons_succ]
      rw [if_pos (by rfl)]
      intro K hK
      go_simp
      exact hK.out _ _ _ (by first | rfl | simp only [Act.put, List.setIfInBounds_toArray, List.set_cons_zero, List.set_cons_succ]) rfl (Grows.refl _)
    · refine does_mk [(12, some 33)] rfl (by kernel_rfl) (fun u wi hR hf => ?_)
      simp only [putPs, Act.put, List.setIfInBounds_toArray, List.set_cons_zero, List.set_cons_succ, List.getElem_toArray, List.getElem_cons_zero, List.getElem_cons_succ]
      obtain ⟨h12, _⟩ := hf
      have e12 : u 12 = .pointer (some ⟨gc, 0, none⟩) := h12
      try rw [e12]
      clear h12 e12
      rw [if_pos (by rfl)]
      intro K hK
      go_simp
      exact hK.out _ _ _ (by first | rfl | simp only [Act.put, List.setIfInBounds_toArray, List.set_cons_zero, List.set_cons_succ]) rfl (Grows.refl _)
    · refine does_mk [(13, some 34)] rfl (by kernel_rfl) (fun u wi hR hf => ?_)
      simp only [putPs, Act.put, List.setIfInBounds_toArray, List.set_cons_zero, List.set_cons_succ, List.getElem_toArray, List.getElem_cons_zero, List.getElem_cons_succ]
      obtain ⟨h13, _⟩ := hf
      have e13 : u 13 = .pointer (some ⟨gc, 0, none⟩) := h13
      try rw [e13]
      clear h13 e13
      rw [if_pos (by rfl)]
      intro K hK
      go_simp
      exact hK.out _ _ _ (by first | rfl | simp only [Act.put, List.setIfInBounds_toArray, List.set_cons_zero, List.set_cons_succ]) rfl (Grows.refl _)
    · refine does_mk [(14, some 35)] rfl (by kernel_rfl) (fun u wi hR hf => ?_)
      simp only [putPs, Act.put, List.setIfInBounds_toArray, List.set_cons_zero, List.set_cons_succ, List.getElem_toArray, List.getElem_cons_zero, List.getElem_cons_succ]
      obtain ⟨h14, _⟩ := hf
      have e14 : u 14 = .pointer (some ⟨gc, 1, none⟩) := h14
      try rw [e14]
      clear h14 e14
      rw [if_pos (by rfl)]
      intro K hK
      have cT : wi.cell? ⟨gc, 1, none⟩ = some (.slice At 10 ct) := (Below.cell (p := ⟨gc, 1, none⟩) hR HGL.out).trans HCT.out
      go_simp
      exact hK.out _ _ _ (by first | rfl | simp only [Act.put, List.setIfInBounds_toArray, List.set_cons_zero, List.set_cons_succ]) rfl (Grows.refl _)
    · refine does_mk [(3, some 24), (5, some 26), (11, some 32), (15, some 36)] rfl (by kernel_rfl) (fun u wi hR hf => ?_)
      simp only [putPs, Act.put, List.setIfInBounds_toArray, List.set_cons_zero, List.set_cons_succ, List.getElem_toArray, List.getElem_cons_zero, List.getElem_cons_succ]
      obtain ⟨h3, h5, h11, h15, _⟩ := hf
      obtain ⟨A3, c3, e3, hl3, hc3, hm3, hr3⟩ := h3
      try rw [e3]
      clear e3
      obtain ⟨A5, c5, e5, hl5, hc5, hm5, hr5⟩ := h5
      try rw [e5]
      clear e5
      obtain ⟨A11, c11, e11, hl11, hc11, hm11, hr11⟩ := h11
      try rw [e11]
      clear e11
      have e15 : u 15 = .slice At 10 ct := h15
      try rw [e15]
      clear h15 e15
      rw [if_pos (by rfl)]
      intro K hK
      go_simp
      have hrT := (HRT.out.below ((Below.refl _ _).drew.trans hR)).more hR.size
      have hq := parts_new (w := wi) (S := fun k => k < wi.heap.size) (T' := fun k => k < (wi.alloc (.cells (List.map Part.val [(⟨A3, 8, c3, [1, 2, 1, 0, 0, 10, 10, 3]⟩ : Part), ⟨A5, 4, c5, numL 7 4⟩, ⟨A11, 4, c11, numL 10 4⟩, ⟨At, 10, ct, tw⟩]).toArray 22)).heap.size) 22 [(⟨A3, 8, c3, [1, 2, 1, 0, 0, 10, 10, 3]⟩ : Part), ⟨A5, 4, c5, numL 7 4⟩, ⟨A11, 4, c11, numL 10 4⟩, ⟨At, 10, ct, tw⟩] (by
        intro p hp
        simp only [List.mem_cons, List.not_mem_nil, or_false] at hp
        rcases hp with rfl | rfl | rfl | rfl
        · exact ⟨hl3, hc3, hm3, hr3.s (fun _ h => h)⟩
        · exact ⟨hl5, hc5, hm5, hr5.s (fun _ h => h)⟩
        · exact ⟨hl11, hc11, hm11, hr11.s (fun _ h => h)⟩
        · exact ⟨HTL.out, hct, hcm, hrT.s (fun _ h => h)⟩) (fun _ h => h) (by simp) (fun x hx => by simp; omega)
      exact hK.out _ _ _ (by first | rfl | simp only [Act.put, List.setIfInBounds_toArray, List.set_cons_zero, List.set_cons_succ]) ⟨_, _, rfl, rfl, hq⟩ ((Below.refl _ _).alloc (Nat.le_refl _) _)
    · refine does_mk [(11, some 32), (16, some 37)] rfl (by kernel_rfl) (fun u wi hR hf => ?_)
      simp only [putPs, Act.put, List.setIfInBounds_toArray, List.set_cons_zero, List.set_cons_succ, List.getElem_toArray, List.getElem_cons_zero, List.getElem_cons_succ]
      obtain ⟨h11, h16, _⟩ := hf
      obtain ⟨A11, c11, e11, hl11, hc11, hm11, hr11⟩ := h11
      try rw [e11]
      clear e11
      obtain ⟨b16, ps16, e16, hm16, hp16⟩ := h16
      try rw [e16]
      clear e16
      rw [if_pos (by rfl)]
      intro K hK
      go_simp
      refine (join_ls 4 (headP 7 tw) b16 ps16 _ hm16 rfl (by omega) (by omega) hp16 (by rw [headP_len 7 HTL.out]; omega) (headP_lt 7 HTL.out)).mono ?_
      rintro e w6 ⟨g6, rfl, ho6, hb6⟩
      rw [headP_len 7 HTL.out] at ho6 ⊢
      exact hK.out _ _ _ (by first | rfl | simp only [Act.put, List.setIfInBounds_toArray, List.set_cons_zero, List.set_cons_succ]) ⟨_, _, rfl, headP_len _ HTL.out, by omega, by omega, ownb_rd ho6⟩ hb6
    · refine does_mk [(0, some 21), (1, some 22), (2, some 23), (3, some 24), (4, some 25), (5, some 26), (6, some 27), (7, some 28), (8, some 29), (9, some 30), (10, some 31), (11, some 32), (12, some 33), (13, some 34), (14, some 35), (15, some 36), (16, some 37), (17, some 38)] rfl (by kernel_rfl) (fun u wi hR hf => ?_)
      simp only [putPs, Act.put, List.setIfInBounds_toArray, List.set_cons_zero, List.set_cons_succ, List.getElem_toArray, List.getElem_cons_zero, List.getElem_cons_succ]
      obtain ⟨h0, h1, h2, h3, h4, h5, h6, h7, h8, h9, h10, h11, h12, h13, h14, h15, h16, h17, _⟩ := hf
      have e0 : u 0 = .int .i64 7 := h0
      try rw [e0]
      clear h0 e0
      have e1 : u 1 = .int .i64 3 := h1
      try rw [e1]
      clear h1 e1
      have e2 : u 2 = .int .u8 3 := h2
      try rw [e2]
      clear h2 e2
      obtain ⟨A3, c3, e3, hl3, hc3, hm3, hr3⟩ := h3
      try rw [e3]
      clear e3
      have e4 : u 4 = .int .i64 7 := h4
      try rw [e4]
      clear h4 e4
      obtain ⟨A5, c5, e5, hl5, hc5, hm5, hr5⟩ := h5
      try rw [e5]
      clear e5
      have e6 : u 6 = .pointer (some ⟨gc, 0, none⟩) := h6
      try rw [e6]
      clear h6 e6
      have e7 : u 7 = .pointer (some ⟨gc, 0, none⟩) := h7
      try rw [e7]
      clear h7 e7
      have e8 : u 8 = .pointer (some ⟨gc, 1, none⟩) := h8
      try rw [e8]
      clear h8 e8
      have e9 : u 9 = .slice At 10 ct := h9
      try rw [e9]
      clear h9 e9
      have e10 : u 10 = .int .i64 10 := h10
      try rw [e10]
      clear h10 e10
      obtain ⟨A11, c11, e11, hl11, hc11, hm11, hr11⟩ := h11
      try rw [e11]
      clear e11
      have e12 : u 12 = .pointer (some ⟨gc, 0, none⟩) := h12
      try rw [e12]
      clear h12 e12
      have e13 : u 13 = .pointer (some ⟨gc, 0, none⟩) := h13
      try rw [e13]
      clear h13 e13
      have e14 : u 14 = .pointer (some ⟨gc, 1, none⟩) := h14
      try rw [e14]
      clear h14 e14
      have e15 : u 15 = .slice At 10 ct := h15
      try rw [e15]
      clear h15 e15
      obtain ⟨b16, ps16, e16, hm16, hp16⟩ := h16
      try rw [e16]
      clear e16
      obtain ⟨A17, c17, e17, hl17, hc17, hm17, hr17⟩ := h17
      try rw [e17]
      clear e17
      rw [if_pos (by rfl)]
      intro K hK
      go_simp
      exact hK.out _ _ _ (by first | rfl | simp only [Act.put, List.setIfInBounds_toArray, List.set_cons_zero, List.set_cons_succ]) ⟨_, _, rfl, hl17, hc17, hm17, hr17⟩ (Grows.refl _)
  · intro u wi hR hf
    simp only [putPs, Act.put, List.setIfInBounds_toArray, List.set_cons_zero, List.set_cons_succ, List.getElem_toArray, List.getElem_cons_zero, List.getElem_cons_succ]
    obtain ⟨h0, h1, h2, h3, h4, h5, h6, h7, h8, h9, h10, h11, h12, h13, h14, h15, h16, h17, h18, _⟩ := hf
    have e0 : u 0 = .int .i64 7 := h0
    try rw [e0]
    clear h0 e0
    have e1 : u 1 = .int .i64 3 := h1
    try rw [e1]
    clear h1 e1
    have e2 : u 2 = .int .u8 3 := h2
    try rw [e2]
    clear h2 e2
    obtain ⟨A3, c3, e3, hl3, hc3, hm3, hr3⟩ := h3
    try rw [e3]
    clear e3
    have e4 : u 4 = .int .i64 7 := h4
    try rw [e4]
    clear h4 e4
    obtain ⟨A5, c5, e5, hl5, hc5, hm5, hr5⟩ := h5
    try rw [e5]
    clear e5
    have e6 : u 6 = .pointer (some ⟨gc, 0, none⟩) := h6
    try rw [e6]
    clear h6 e6
    have e7 : u 7 = .pointer (some ⟨gc, 0, none⟩) := h7
    try rw [e7]
    clear h7 e7
    have e8 : u 8 = .pointer (some ⟨gc, 1, none⟩) := h8
    try rw [e8]
    clear h8 e8
    have e9 : u 9 = .slice At 10 ct := h9
    try rw [e9]
    clear h9 e9
    have e10 : u 10 = .int .i64 10 := h10
    try rw [e10]
    clear h10 e10
    obtain ⟨A11, c11, e11, hl11, hc11, hm11, hr11⟩ := h11
    try rw [e11]
    clear e11
    have e12 : u 12 = .pointer (some ⟨gc, 0, none⟩) := h12
    try rw [e12]
    clear h12 e12
    have e13 : u 13 = .pointer (some ⟨gc, 0, none⟩) := h13
    try rw [e13]
    clear h13 e13
    have e14 : u 14 = .pointer (some ⟨gc, 1, none⟩) := h14
    try rw [e14]
    clear h14 e14
    have e15 : u 15 = .slice At 10 ct := h15
    try rw [e15]
    clear h15 e15
    obtain ⟨b16, ps16, e16, hm16, hp16⟩ := h16
    try rw [e16]
    clear e16
    obtain ⟨A17, c17, e17, hl17, hc17, hm17, hr17⟩ := h17
    try rw [e17]
    clear e17
    obtain ⟨A18, c18, e18, hl18, hc18, hm18, hr18⟩ := h18
    try rw [e18]
    clear e18
    have hb2 : Below w1.heap.size w1 wi := (Below.refl _ _).drew.trans (hR.mono (by simp))
    have HB2 := Lib.hid hb2
    have HR18 := Lib.hid hr18
    have HL18 := Lib.hid hl18
    have hzi : w1.heap.size ≤ wi.heap.size := hb2.size
    clear hl3 hc3 hm3 hr3 hl5 hc5 hm5 hr5 hl11 hc11 hm11 hr11 hm16 hp16 hl17 hc17 hm17 hr17 hl18 hr18 hb2 hR
    have hrw : IntKind.u8.wrap (r : Int) = (r : Int) := by rw [IntKind.wrap_u8]; omega
    go_wp2_with fail
    refine (fnum_any v 2 (by omega) (by omega) _).mono ?_
    rintro e w3 ⟨rfl, hr3, hb3⟩
    have hbr : bvs [UInt8.ofNat r] = [.int .u8 (r : Int)] := by
      simp only [bvs, bv, List.map_cons, List.map_nil, UInt8.toNat_ofNat']
      rw [Nat.mod_eq_of_lt (by omega)]
    have hrow3 : Row (wi.alloc (.cells #[.int .u8 (r : Int)] 5)) 5 wi.heap.size ([UInt8.ofNat r] ++ []) := by
      rw [List.append_nil]
      have := Row.new wi 5 [UInt8.ofNat r]
      rw [hbr] at this
      exact this
    have ho3 : Own w3 5 wi.heap.size (.slice (some ⟨wi.heap.size, 0, none⟩) 1 1) [UInt8.ofNat r] := Own.below (hrow3.toOwn (Nat.le_refl _) rfl rfl (by omega)) hb3
    have hb03 : Below wi.heap.size wi w3 := ((Below.refl _ _).alloc (Nat.le_refl _) _).trans (hb3.mono (by simp))
    have hz3 := hb03.size
    rw [show (wi.alloc (.cells #[.int .u8 (r : Int)] 5)).heap.size = wi.heap.size + 1 by simp] at hr3
    have HRN := Lib.hid (row_rd hr3)
    have HO3 := Lib.hid ho3
    have HB3 := Lib.hid hb03
    clear hbr hrow3 ho3 hb03 hr3 hb3
    go_wp2_with (first
      | (with_reducible refine at_slot 45 ?_
         refine wpList_append_u8 Go.Proofs.YtkgnnlglabihkaaGreatDoor.u8 rfl (.tmp 41) (.tmp 44) rfl wi.heap.size _ [UInt8.ofNat r] _ 2 2 (numL v 2) w3.heap.size rfl rfl HO3.out HRN.out (numL_len _ _) (by simp) hz3 ?_
         intro v4 w4 ho4 hg4 hat4
         have hb4 : Below wi.heap.size wi w4 := below_grown HB3.out hg4 hz3 HO3.out (Nat.le_refl _)
         have HO4 := Lib.hid ho4
         have HB4 := Lib.hid hb4
         clear hg4 hat4
         obtain ⟨A4, c4, hv4, hr4, hc4⟩ := ho4.form
         have hl4 : ([UInt8.ofNat r] ++ numL v 2).length = 3 := by simp [numL_len]
         rw [hl4] at hv4 hc4
         subst hv4
         obtain ⟨_, _, hcm4⟩ := Sha.own_len ho4
         have HL4 := Lib.hid hl4
         have HR4 := Lib.hid hr4
         clear ho4 hr4 hb4 hl4
         have hB14 := HB2.out.trans (HB4.out.mono hzi)
         have hz4 := hB14.size
         have cT4 : w4.cell? ⟨gc, 1, none⟩ = some (.slice At 10 ct) := (hB14.cell (p := ⟨gc, 1, none⟩) HGL.out).trans HCT.out
         have HB14 := Lib.hid hB14
         clear hB14)
      | (with_reducible refine at_slot 56 ?_
         refine wpList_make_u8 Go.Proofs.YtkgnnlglabihkaaGreatDoor.u8 rfl (.tmp 55) (.tmp 55) rfl .i64 .i64 _ _ 3 3 rfl rfl rfl rfl (by omega) (by omega) ?_))
    have hB5 := HB14.out.alloc hz4 (.cells (bvs (List.replicate 3 0)).toArray 5)
    have hC5 : Ciph (w4.alloc (.cells (bvs (List.replicate 3 0)).toArray 5)) base B gc g key tw := HC1.out.below hB5
    have hR5 := (Row.new w4 5 (List.replicate 3 0)).rd
    have hR4 := (HR4.out.alloc (Nat.le_refl _) (.cells (bvs (List.replicate 3 0)).toArray 5)).more (show w4.heap.size ≤ (w4.alloc (.cells (bvs (List.replicate 3 0)).toArray 5)).heap.size by simp)
    have hR18 := (((HR18.out.below HB4.out).more HB4.out.size).alloc (Nat.le_refl _) (.cells (bvs (List.replicate 3 0)).toArray 5)).more (show w4.heap.size ≤ (w4.alloc (.cells (bvs (List.replicate 3 0)).toArray 5)).heap.size by simp)
    obtain ⟨g5, hg5⟩ : ∃ x, w4.heap.size = x := ⟨_, rfl⟩
    rw [hg5] at hR5
    try rw [hg5]
    rw [show List.replicate 3 (0 : UInt8) = [0, 0, 0] from rfl] at hB5 hC5 hR5 hR4 hR18
    generalize w4.alloc (.cells (bvs [0, 0, 0]).toArray 5) = W5 at *
    have hz5 := hB5.size
    have HB5 := Lib.hid hB5
    have HC5 := Lib.hid hC5
    have HR5 := Lib.hid hR5
    have HR45 := Lib.hid hR4
    have HR185 := Lib.hid hR18
    have hck : W5.cell? ⟨gc, 0, none⟩ = some (.pointer (some ⟨g, 0, none⟩)) := hC5.ck
    clear hB5 hC5 hR5 hR4 hR18
    refine wp_region_held_drew (S := fun w' => w'.cell? ⟨gc, 0, none⟩ = some (.pointer (some ⟨g, 0, none⟩))) (by kernel_rfl) (hck) (fun hHeld => ?_)
    refine wpAnyH_take (i := 0) (v := ?_) rfl (by kernel_rfl) (by kernel_rfl) (by kernel_rfl) (fun _ _ _ h => h) (Or.inl ⟨by kernel_rfl, ?_⟩) (by assumption) ?_
    rotate_left
    · (intro w hSw; (try dsimp only at hSw); go_simp; first | done | with_reducible rfl)
    (try simp only [Act.put, List.setIfInBounds_toArray, List.set_cons_zero, List.set_cons_succ, List.getElem_toArray, List.getElem_cons_zero, List.getElem_cons_succ])
    refine wpAnyH_take (i := 1) (v := ?_) rfl (by kernel_rfl) (by kernel_rfl) (by kernel_rfl) (fun _ _ _ h => h) (Or.inl ⟨by kernel_rfl, ?_⟩) (by assumption) ?_
    rotate_left
    · (intro w hSw; (try dsimp only at hSw); go_simp; first | done | with_reducible rfl)
    (try simp only [Act.put, List.setIfInBounds_toArray, List.set_cons_zero, List.set_cons_succ, List.getElem_toArray, List.getElem_cons_zero, List.getElem_cons_succ])
    refine wpAnyH_take (i := 2) (v := ?_) rfl (by kernel_rfl) (by kernel_rfl) (by kernel_rfl) (fun _ _ _ h => h) (Or.inl ⟨by kernel_rfl, ?_⟩) (by assumption) ?_
    rotate_left
    · (intro w hSw; (try dsimp only at hSw); go_simp; first | done | with_reducible rfl)
    (try simp only [Act.put, List.setIfInBounds_toArray, List.set_cons_zero, List.set_cons_succ, List.getElem_toArray, List.getElem_cons_zero, List.getElem_cons_succ])
    refine wpAnyH_take (i := 3) (v := ?_) rfl (by kernel_rfl) (by kernel_rfl) (by kernel_rfl) (fun _ _ _ h => h) (Or.inl ⟨by kernel_rfl, ?_⟩) (by assumption) ?_
    rotate_left
    · (intro w hSw; (try dsimp only at hSw); go_simp; first | done | with_reducible rfl)
    (try simp only [Act.put, List.setIfInBounds_toArray, List.set_cons_zero, List.set_cons_succ, List.getElem_toArray, List.getElem_cons_zero, List.getElem_cons_succ])
    refine wpAnyH_take (i := 4) (v := ?_) rfl (by kernel_rfl) (by kernel_rfl) (by kernel_rfl) (fun _ _ _ h => h) (Or.inl ⟨by kernel_rfl, ?_⟩) (by assumption) ?_
    rotate_left
    · (intro w hSw; (try dsimp only at hSw); go_simp; first | done | with_reducible rfl)
    (try simp only [Act.put, List.setIfInBounds_toArray, List.set_cons_zero, List.set_cons_succ, List.getElem_toArray, List.getElem_cons_zero, List.getElem_cons_succ])
    refine wpAnyH_take (i := 5) (v := ?_) rfl (by kernel_rfl) (by kernel_rfl) (by kernel_rfl) (fun _ _ _ h => h) (Or.inl ⟨by kernel_rfl, ?_⟩) (by assumption) ?_
    rotate_left
    · (intro w hSw; (try dsimp only at hSw); go_simp; first | done | with_reducible rfl)
    (try simp only [Act.put, List.setIfInBounds_toArray, List.set_cons_zero, List.set_cons_succ, List.getElem_toArray, List.getElem_cons_zero, List.getElem_cons_succ])
    refine wpAnyH_take (i := 6) (v := ?_) rfl (by kernel_rfl) (by kernel_rfl) (by kernel_rfl) (fun _ _ _ h => h) (Or.inl ⟨by kernel_rfl, ?_⟩) (by assumption) ?_
    rotate_left
    · (intro w hSw; (try dsimp only at hSw); go_simp; first | done | with_reducible rfl)
    (try simp only [Act.put, List.setIfInBounds_toArray, List.set_cons_zero, List.set_cons_succ, List.getElem_toArray, List.getElem_cons_zero, List.getElem_cons_succ])
    refine wpAnyH_ready (rs := [7]) (by kernel_rfl) (by simp) ?_
    refine AllReadyH.cons rfl (fun KK hKK => ?_) AllReadyH.nil
    go_simp
    refine hKK.out _ _ ?_ (fun hHeld => ?_)
    · (first | assumption | (exact (World.cell?_alloc_lt W5 _ ⟨gc, 0, none⟩ HC5.out.gl).trans hck))
    clear hKK KK
    (try simp only [Act.put, List.setIfInBounds_toArray, List.set_cons_zero, List.set_cons_succ, List.getElem_toArray, List.getElem_cons_zero, List.getElem_cons_succ])
    refine wpAnyH_ready (rs := [8]) (by kernel_rfl) (by simp) ?_
    refine AllReadyH.cons rfl (fun KK hKK => ?_) AllReadyH.nil
    go_simp
    have hq0 := parts_new (w := W5) (S := fun k => k < W5.heap.size) (T' := fun k => k < (W5.alloc (.cells (List.map Part.val [(⟨A18, 26, c18, (headP 7 tw).flatten⟩ : Part), ⟨some ⟨g5, 0, none⟩, 3, 3, [0, 0, 0]⟩, ⟨A4, 3, c4, tailP 7 r v⟩]).toArray 22)).drew.heap.size) 22 [(⟨A18, 26, c18, (headP 7 tw).flatten⟩ : Part), ⟨some ⟨g5, 0, none⟩, 3, 3, [0, 0, 0]⟩, ⟨A4, 3, c4, tailP 7 r v⟩] (by
      intro p hp
      simp only [List.mem_cons, List.not_mem_nil, or_false] at hp
      rcases hp with rfl | rfl | rfl
      · exact ⟨HL18.out, hc18, hm18, HR185.out.s (fun _ h => h)⟩
      · exact ⟨rfl, Nat.le_refl _, (by omega : (3 : Nat) ≤ 9223372036854775807), HR5.out.s (fun _ h => h)⟩
      · exact ⟨HL4.out, hc4, hcm4, HR45.out.s (fun _ h => h)⟩) (fun _ h => h) (by simp [World.drew]) (fun x hx => by simp [World.drew]; omega)
    have hq : PartsS (W5.alloc (.cells (List.map Part.val [(⟨A18, 26, c18, (headP 7 tw).flatten⟩ : Part), ⟨some ⟨g5, 0, none⟩, 3, 3, [0, 0, 0]⟩, ⟨A4, 3, c4, tailP 7 r v⟩]).toArray 22)).drew (fun k => k < (W5.alloc (.cells (List.map Part.val [(⟨A18, 26, c18, (headP 7 tw).flatten⟩ : Part), ⟨some ⟨g5, 0, none⟩, 3, 3, [0, 0, 0]⟩, ⟨A4, 3, c4, tailP 7 r v⟩]).toArray 22)).drew.heap.size) (some ⟨W5.heap.size, 0, none⟩) [(⟨A18, 26, c18, (headP 7 tw).flatten⟩ : Part), ⟨some ⟨g5, 0, none⟩, 3, 3, [0, 0, 0]⟩, ⟨A4, 3, c4, tailP 7 r v⟩] := ⟨hq0.at_, hq0.part⟩
    clear hq0
    refine (join_ls 3 (maskP 7 r v tw) _ [(⟨A18, 26, c18, (headP 7 tw).flatten⟩ : Part), ⟨some ⟨g5, 0, none⟩, 3, 3, [0, 0, 0]⟩, ⟨A4, 3, c4, tailP 7 r v⟩] _ rfl rfl (by omega) (by omega) hq (by rw [maskP_len 7 r v HTL.out]; omega) (maskP_lt 7 r v HTL.out)).mono ?_
    rintro e w6 ⟨g6, rfl, ho6, hb6⟩
    rw [maskP_len 7 r v HTL.out] at ho6 ⊢
    have hb56 : Below W5.heap.size W5 w6 := ((Below.refl W5.heap.size W5).alloc (Nat.le_refl _) _).drew.trans (hb6.mono (by simp [World.drew]))
    have hg6 := (ho6.lt g6 rfl)
    have HC6 := Lib.hid (HC5.out.below hb56)
    have HO6 := Lib.hid ho6
    have HB56 := Lib.hid hb56
    have hck6 := HC6.out.ck
    have hz6 := hb56.size
    clear hq ho6 hb6 hb56
    go_wp2_with fail
    refine hKK.out _ _ ?_ (fun hHeld => ?_)
    · (exact hck6)
    clear hKK KK
    (try simp only [Act.put, List.setIfInBounds_toArray, List.set_cons_zero, List.set_cons_succ, List.getElem_toArray, List.getElem_cons_zero, List.getElem_cons_succ])
    refine wpAnyH_ready (rs := [9]) (by kernel_rfl) (by simp) ?_
    refine AllReadyH.cons rfl (fun KK hKK => ?_) AllReadyH.nil
    go_simp
    have hrd : RdS w6 (Off w6 B) (some ⟨g6, 0, none⟩) (maskP 7 r v tw).flatten := RdS.elim_off ((ownb_rd HO6.out).s (fun _ h => h)) (fun hb => by
      have h1 := (HC5.out.key.lt _ hb).2
      have h2 := hg6.1
      simp [World.drew] at h2
      omega)
    have hbw : base ≤ w6.heap.size := by have := HBS.out; have := HB1.out.size; omega
    refine (chain_any base B g key _ _ 2 32 32 w6 HC6.out.key hbw (maskP_len 7 r v HTL.out) rfl (by omega) (by omega) hrd).mono ?_
    rintro e w7 ⟨v7, rfl, ho7, hk7⟩
    have hko := HC6.out.key.ok
    have hl7 : (chainL key 2 (maskP 7 r v tw).flatten).length = 16 := cbc_len hko _ _ _ (by simp)
    obtain ⟨A7, c7, hv7, hr7, hc7⟩ := ho7.form
    rw [hl7] at hv7 hc7
    subst hv7
    have HO7 := Lib.hid (HC6.out.out hk7)
    have HR7 := Lib.hid hr7
    have HL7 := Lib.hid hl7
    obtain ⟨B7, hC7, _, _⟩ := HO7.out
    have hck7 := hC7.ck
    clear hrd ho7 hk7 hr7 hl7 hC7
    go_wp2_with fail
    refine hKK.out _ _ ?_ (fun hHeld => ?_)
    · (exact hck7)
    clear hKK KK
    (try simp only [Act.put, List.setIfInBounds_toArray, List.set_cons_zero, List.set_cons_succ, List.getElem_toArray, List.getElem_cons_zero, List.getElem_cons_succ])
    refine wpAnyH_ready (rs := [10]) (by kernel_rfl) (by simp) ?_
    refine AllReadyH.cons rfl (fun KK hKK => ?_) AllReadyH.nil
    go_simp
    refine hKK.out _ _ ?_ (fun hHeld => ?_)
    · (first | assumption | (exact (World.cell?_alloc_lt W5 _ ⟨gc, 0, none⟩ HC5.out.gl).trans hck))
    clear hKK KK
    (try simp only [Act.put, List.setIfInBounds_toArray, List.set_cons_zero, List.set_cons_succ, List.getElem_toArray, List.getElem_cons_zero, List.getElem_cons_succ])
    refine wpAnyH_done (by kernel_rfl) ?_ _
    go_wp2_with fail
    obtain ⟨A8, hsl, hr8⟩ := arg_to (k := 8) HR7.out HL7.out (by omega) hc7
    have hsl8 : ∀ w' : World, (Instr.slice 22 (.slice A7 16 c7) none (some (.int .i64 8)) none).run Tryz.prog w' = .ok (.slice A8 8 c7) w' := hsl
    have HR8 := Lib.hid hr8
    have hw8 : IntKind.i64.wrap (4 + bits BinOp.andNot IntKind.i64 (IntKind.i64.wrap 5) 3) = 8 := by decide
    have hhp := Lib.hid (halfN_pos (n := 7) (r := r) (by omega) (by omega))
    have HM := Lib.hid (show maskN key tw 7 r v = restN (10 ^ halfN 7 r) ((chainL key 2 (maskP 7 r v tw).flatten).take 8) from rfl)
    clear hsl hr8
    refine wp_region_held_drew (S := fun _ => True) (by kernel_rfl) (trivial) (fun hHeld => ?_)
    refine wpAnyH_take (i := 0) (v := ?_) rfl (by kernel_rfl) (by kernel_rfl) (by kernel_rfl) (fun _ _ _ h => h) (Or.inl ⟨by kernel_rfl, ?_⟩) (by assumption) ?_
    rotate_left
    · (intro w hSw; (try dsimp only at hSw); go_simp; first | done | with_reducible rfl)
    (try simp only [Act.put, List.setIfInBounds_toArray, List.set_cons_zero, List.set_cons_succ, List.getElem_toArray, List.getElem_cons_zero, List.getElem_cons_succ])
    refine wpAnyH_take (i := 1) (v := ?_) rfl (by kernel_rfl) (by kernel_rfl) (by kernel_rfl) (fun _ _ _ h => h) (Or.inl ⟨by kernel_rfl, ?_⟩) (by assumption) ?_
    rotate_left
    · (intro w hSw; (try dsimp only at hSw); go_simp; first | done | with_reducible rfl)
    (try simp only [Act.put, List.setIfInBounds_toArray, List.set_cons_zero, List.set_cons_succ, List.getElem_toArray, List.getElem_cons_zero, List.getElem_cons_succ])
    refine wpAnyH_take (i := 2) (v := ?_) rfl (by kernel_rfl) (by kernel_rfl) (by kernel_rfl) (fun _ _ _ h => h) (Or.inl ⟨by kernel_rfl, ?_⟩) (by assumption) ?_
    rotate_left
    · (intro w hSw; (try dsimp only at hSw); go_simp; first | done | with_reducible rfl)
    (try simp only [Act.put, List.setIfInBounds_toArray, List.set_cons_zero, List.set_cons_succ, List.getElem_toArray, List.getElem_cons_zero, List.getElem_cons_succ])
    refine wpAnyH_take (i := 3) (v := ?_) rfl (by kernel_rfl) (by kernel_rfl) (by kernel_rfl) (fun _ _ _ h => h) (Or.inl ⟨by kernel_rfl, ?_⟩) (by assumption) ?_
    rotate_left
    · (intro w hSw; (try dsimp only at hSw); go_simp; first | done | with_reducible rfl)
    (try simp only [Act.put, List.setIfInBounds_toArray, List.set_cons_zero, List.set_cons_succ, List.getElem_toArray, List.getElem_cons_zero, List.getElem_cons_succ])
    refine wpAnyH_take (i := 4) (v := ?_) rfl (by kernel_rfl) (by kernel_rfl) (by kernel_rfl) (fun _ _ _ h => h) (Or.inl ⟨by kernel_rfl, ?_⟩) (by assumption) ?_
    rotate_left
    · (intro w hSw; (try dsimp only at hSw); go_simp; first | done | with_reducible rfl)
    (try simp only [Act.put, List.setIfInBounds_toArray, List.set_cons_zero, List.set_cons_succ, List.getElem_toArray, List.getElem_cons_zero, List.getElem_cons_succ])
    refine wpAnyH_take (i := 5) (v := ?_) rfl (by kernel_rfl) (by kernel_rfl) (by kernel_rfl) (fun _ _ _ h => h) (Or.inl ⟨by kernel_rfl, ?_⟩) (by assumption) ?_
    rotate_left
    · (intro w hSw; (try dsimp only at hSw); go_simp; first | done | with_reducible rfl)
    (try simp only [Act.put, List.setIfInBounds_toArray, List.set_cons_zero, List.set_cons_succ, List.getElem_toArray, List.getElem_cons_zero, List.getElem_cons_succ])
    refine wpAnyH_take (i := 6) (v := ?_) rfl (by kernel_rfl) (by kernel_rfl) (by kernel_rfl) (fun _ _ _ h => h) (Or.inl ⟨by kernel_rfl, ?_⟩) (by assumption) ?_
    rotate_left
    · (intro w hSw; (try dsimp only at hSw); go_simp; first | done | with_reducible rfl)
    (try simp only [Act.put, List.setIfInBounds_toArray, List.set_cons_zero, List.set_cons_succ, List.getElem_toArray, List.getElem_cons_zero, List.getElem_cons_succ])
    refine wpAnyH_take (i := 7) (v := ?_) rfl (by kernel_rfl) (by kernel_rfl) (by kernel_rfl) (fun _ _ _ h => h) (Or.inl ⟨by kernel_rfl, ?_⟩) (by assumption) ?_
    rotate_left
    · (intro w hSw; (try dsimp only at hSw); go_simp; first | done | with_reducible rfl)
    (try simp only [Act.put, List.setIfInBounds_toArray, List.set_cons_zero, List.set_cons_succ, List.getElem_toArray, List.getElem_cons_zero, List.getElem_cons_succ])
    refine wpAnyH_ready (rs := [8]) (by kernel_rfl) (by simp) ?_
    refine AllReadyH.cons rfl (fun KK hKK => ?_) AllReadyH.nil
    go_simp
    refine (half_any 7 r (by omega) (by omega) _).mono ?_
    rintro e w8 ⟨rfl, rfl⟩
    go_wp2_with fail
    refine hKK.out _ _ ?_ (fun hHeld => ?_)
    · (trivial)
    clear hKK KK
    (try simp only [Act.put, List.setIfInBounds_toArray, List.set_cons_zero, List.set_cons_succ, List.getElem_toArray, List.getElem_cons_zero, List.getElem_cons_succ])
    refine wpAnyH_ready (rs := [9]) (by kernel_rfl) (by simp) ?_
    refine AllReadyH.cons rfl (fun KK hKK => ?_) AllReadyH.nil
    go_simp
    refine (rest_any w7.drew A8 8 c7 _ (halfN 7 r) (by rw [List.length_take, HL7.out]; rfl) (by omega) HR8.out hhp.out.1 (by have := hhp.out.2; omega)).mono ?_
    rintro e w9 ⟨rfl, hb9⟩
    rw [← HM.out]
    have HB9 := Lib.hid (show Below w7.heap.size w7 w9 from (Below.refl _ _).drew.trans hb9)
    clear hb9
    go_wp2_with fail
    refine hKK.out _ _ ?_ (fun hHeld => ?_)
    · (trivial)
    clear hKK KK
    (try simp only [Act.put, List.setIfInBounds_toArray, List.set_cons_zero, List.set_cons_succ, List.getElem_toArray, List.getElem_cons_zero, List.getElem_cons_succ])
    refine wpAnyH_take (i := 10) (v := ?_) rfl (by kernel_rfl) (by kernel_rfl) (by kernel_rfl) (fun _ _ _ h => h) (Or.inl ⟨by kernel_rfl, ?_⟩) (by assumption) ?_
    rotate_left
    · (intro w hSw; (try dsimp only at hSw); go_simp; first | done | with_reducible rfl)
    (try simp only [Act.put, List.setIfInBounds_toArray, List.set_cons_zero, List.set_cons_succ, List.getElem_toArray, List.getElem_cons_zero, List.getElem_cons_succ])
    refine wpAnyH_take (i := 11) (v := ?_) rfl (by kernel_rfl) (by kernel_rfl) (by kernel_rfl) (fun _ _ _ h => h) (Or.inl ⟨by kernel_rfl, ?_⟩) (by assumption) ?_
    rotate_left
    · (intro w hSw; (try dsimp only at hSw); go_simp; first | done | with_reducible rfl)
    (try simp only [Act.put, List.setIfInBounds_toArray, List.set_cons_zero, List.set_cons_succ, List.getElem_toArray, List.getElem_cons_zero, List.getElem_cons_succ])
    refine wpAnyH_take (i := 12) (v := ?_) rfl (by kernel_rfl) (by kernel_rfl) (by kernel_rfl) (fun _ _ _ h => h) (Or.inl ⟨by kernel_rfl, ?_⟩) (by assumption) ?_
    rotate_left
    · (intro w hSw; (try dsimp only at hSw); go_simp; first | done | with_reducible rfl)
    (try simp only [Act.put, List.setIfInBounds_toArray, List.set_cons_zero, List.set_cons_succ, List.getElem_toArray, List.getElem_cons_zero, List.getElem_cons_succ])
    refine wpAnyH_take (i := 13) (v := ?_) rfl (by kernel_rfl) (by kernel_rfl) (by kernel_rfl) (fun _ _ _ h => h) (Or.inl ⟨by kernel_rfl, ?_⟩) (by assumption) ?_
    rotate_left
    · (intro w hSw; (try dsimp only at hSw); go_simp; first | done | with_reducible rfl)
    (try simp only [Act.put, List.setIfInBounds_toArray, List.set_cons_zero, List.set_cons_succ, List.getElem_toArray, List.getElem_cons_zero, List.getElem_cons_succ])
    refine wpAnyH_take (i := 14) (v := ?_) rfl (by kernel_rfl) (by kernel_rfl) (by kernel_rfl) (fun _ _ _ h => h) (Or.inl ⟨by kernel_rfl, ?_⟩) (by assumption) ?_
    rotate_left
    · (intro w hSw; (try dsimp only at hSw); go_simp; first | done | with_reducible rfl)
    (try simp only [Act.put, List.setIfInBounds_toArray, List.set_cons_zero, List.set_cons_succ, List.getElem_toArray, List.getElem_cons_zero, List.getElem_cons_succ])
    refine wpAnyH_done (by kernel_rfl) ?_ _
    go_wp2
    go_ret
    exact ⟨rfl, COut.ahead (HB1.out.trans ((HB5.out.trans (HB56.out.mono hz5)).mono HB1.out.size)) (fun k hk => (HC.out.key.lt k hk).2) (HO7.out.then HB9.out)⟩
set_option maxRecDepth 100000 in
set_option maxHeartbeats 4000000 in
theorem mask8 (base : Nat) (B : Nat → Prop) (gc g : Nat) (key tw : List UInt8) (r v : Nat) (hr : r < 10) (hv : v < 1000000) (w : World) (h : Ciph w base B gc g key tw) (hbase : base ≤ w.heap.size) :
    Calls Tryz.prog 32 #[.pointer (some ⟨gc, 0, none⟩), .int .i64 8, .int .i64 (r : Int), .int .i64 (v : Int)] w fun e w' => e = .returned (.int .i64 (maskN key tw 8 r v : Int)) ∧ COut w w' base B gc g key tw := by
  have HC := Lib.hid h
  have HBS := Lib.hid hbase
  have HTL := Lib.hid (show tw.length = 10 by obtain ⟨A, c, h1, h2, h3⟩ := h.tw; exact h2)
  clear h hbase
  go_enter Tryz.func32, Tryz.ntmps32
  go_wp2_with fail
  refine (width_any 4 (by omega) _).mono ?_
  rintro e w1 ⟨rfl, hb1⟩
  rw [show widthN 4 = 2 from rfl, show ((2 : Nat) : Int) = 2 from rfl]
  have hC1 := HC.out.below hb1
  obtain ⟨At, ct, hT1, hTL, hct, hcm, hRT⟩ := hC1.tw
  have HB1 := Lib.hid hb1
  have HC1 := Lib.hid hC1
  have HGL := Lib.hid hC1.gl
  have HCT := Lib.hid hT1
  have HRT := Lib.hid (RdS.rd (B := w1.heap.size) hRT (fun k hk => hk.1))
  clear hb1 hC1 hT1 hTL hRT
  go_wp2_with fail
  refine wp_region_facts [FVal (.int .i64 8), FVal (.int .i64 4), FVal (.int .u8 4), FRm 8 ([1, 2, 1, 0, 0, 10, 10, 4]), FVal (.int .i64 8), FRm 4 (numL 8 4), FVal (.pointer (some ⟨gc, 0, none⟩)), FVal (.pointer (some ⟨gc, 0, none⟩)), FVal (.pointer (some ⟨gc, 1, none⟩)), FVal (.slice At 10 ct), FVal (.int .i64 10), FRm 4 (numL 10 4), FVal (.pointer (some ⟨gc, 0, none⟩)), FVal (.pointer (some ⟨gc, 0, none⟩)), FVal (.pointer (some ⟨gc, 1, none⟩)), FVal (.slice At 10 ct), FJoin 4 (headP 8 tw), FRm 26 ((headP 8 tw).flatten), FRm 26 ((headP 8 tw).flatten)] [0, 1, 2, 3, 4, 5, 6, 7, 8, 9, 10, 11, 12, 13, 14, 15, 16, 17, 18] [(0, some 21), (1, some 22), (2, some 23), (3, some 24), (4, some 25), (5, some 26), (6, some 27), (7, some 28), (8, some 29), (9, some 30), (10, some 31), (11, some 32), (12, some 33), (13, some 34), (14, some 35), (15, some 36), (16, some 37), (17, some 38), (18, some 10)] (by kernel_rfl) (by kernel_rfl) (by kernel_rfl) (by kernel_rfl) ?_ ?_ ?_
  · simp only [List.forall_mem_cons, List.not_mem_nil, false_implies, implies_true, and_true]
    exact ⟨stable_val _, stable_val _, stable_val _, stable_rm _ _, stable_val _, stable_rm _ _, stable_val _, stable_val _, stable_val _, stable_val _, stable_val _, stable_rm _ _, stable_val _, stable_val _, stable_val _, stable_val _, stable_join _ _, stable_rm _ _, stable_rm _ _⟩
  · simp only [List.forall_mem_cons, List.not_mem_nil, false_implies, implies_true, and_true]
    refine ⟨?_, ?_, ?_, ?_, ?_, ?_, ?_, ?_, ?_, ?_, ?_, ?_, ?_, ?_, ?_, ?_, ?_, ?_, ?_⟩
    · refine does_mk [] rfl (by kernel_rfl) (fun u wi hR hf => ?_)
      simp only [putPs, Act.put, List.setIfInBounds_toArray, List.set_cons_zero, List.set_cons_succ, List.getElem_toArray, List.getElem_cons_zero, List.getElem_cons_succ]
      rw [if_pos (by rfl)]
      intro K hK
      go_simp
      exact hK.out _ _ _ (by first | rfl | simp only [Act.put, List.setIfInBounds_toArray, List.set_cons_zero, List.set_cons_succ]) rfl (Grows.refl _)
    · refine does_mk [(0, some 21)] rfl (by kernel_rfl) (fun u wi hR hf => ?_)
      simp only [putPs, Act.put, List.setIfInBounds_toArray, List.set_cons_zero, List.set_cons_succ, List.getElem_toArray, List.getElem_cons_zero, List.getElem_cons_succ]
      obtain ⟨h0, _⟩ := hf
      have e0 : u 0 = .int .i64 8 := h0
      try rw [e0]
      clear h0 e0
      rw [if_pos (by rfl)]
      intro K hK
      go_simp
      exact hK.out _ _ _ (by first | rfl | simp only [Act.put, List.setIfInBounds_toArray, List.set_cons_zero, List.set_cons_succ]) rfl (Grows.refl _)
    · refine does_mk [(1, some 22)] rfl (by kernel_rfl) (fun u wi hR hf => ?_)
      simp only [putPs, Act.put, List.setIfInBounds_toArray, List.set_cons_zero, List.set_cons_succ, List.getElem_toArray, List.getElem_cons_zero, List.getElem_cons_succ]
      obtain ⟨h1, _⟩ := hf
      have e1 : u 1 = .int .i64 4 := h1
      try rw [e1]
      clear h1 e1
      rw [if_pos (by rfl)]
      intro K hK
      go_simp
      exact hK.out _ _ _ (by first | rfl | simp only [Act.put, List.setIfInBounds_toArray, List.set_cons_zero, List.set_cons_succ]) rfl (Grows.refl _)
    · refine does_mk [(2, some 23)] rfl (by kernel_rfl) (fun u wi hR hf => ?_)
      simp only [putPs, Act.put, List.setIfInBounds_toArray, List.set_cons_zero, List.set_cons_succ, List.getElem_toArray, List.getElem_cons_zero, List.getElem_cons_succ]
      obtain ⟨h2, _⟩ := hf
      have e2 : u 2 = .int .u8 4 := h2
      try rw [e2]
      clear h2 e2
      rw [if_pos (by rfl)]
      intro K hK
      go_simp
      exact hK.out _ _ _ (by first | rfl | simp only [Act.put, List.setIfInBounds_toArray, List.set_cons_zero, List.set_cons_succ]) ⟨_, _, rfl, rfl, by omega, by omega, (rd_lit _ [1, 2, 1, 0, 0, 10, 10, 4] rfl).more (by simp)⟩ ((Below.refl _ _).alloc (Nat.le_refl _) _)
    · refine does_mk [] rfl (by kernel_rfl) (fun u wi hR hf => ?_)
      simp only [putPs, Act.put, List.setIfInBounds_toArray, List.set_cons_zero, List.set_cons_succ, List.getElem_toArray, List.getElem_cons_zero, List.getElem_cons_succ]
      rw [if_pos (by rfl)]
      intro K hK
      go_simp
      exact hK.out _ _ _ (by first | rfl | simp only [Act.put, List.setIfInBounds_toArray, List.set_cons_zero, List.set_cons_succ]) rfl (Grows.refl _)
    · refine does_mk [(4, some 25)] rfl (by kernel_rfl) (fun u wi hR hf => ?_)
      simp only [putPs, Act.put, List.setIfInBounds_toArray, List.set_cons_zero, List.set_cons_succ, List.getElem_toArray, List.getElem_cons_zero, List.getElem_cons_succ]
      obtain ⟨h4, _⟩ := hf
      have e4 : u 4 = .int .i64 8 := h4
      try rw [e4]
      clear h4 e4
      rw [if_pos (by rfl)]
      intro K hK
      go_simp
      refine (fnum_any 8 4 (by omega) (by omega) _).mono ?_
      rintro e w5 ⟨rfl, hr5, hb5⟩
      exact hK.out _ _ _ (by first | rfl | simp only [Act.put, List.setIfInBounds_toArray, List.set_cons_zero, List.set_cons_succ]) ⟨_, _, rfl, numL_len _ _, by omega, by omega, row_rd hr5⟩ hb5
    · refine does_mk [] rfl (by kernel_rfl) (fun u wi hR hf => ?_)
      simp only [putPs, Act.put, List.setIfInBounds_toArray, List.set_cons_zero, List.set_cons_succ, List.getElem_toArray, List.getElem_cons_zero, List.getElem_cons_succ]
      rw [if_pos (by rfl)]
      intro K hK
      go_simp
      exact hK.out _ _ _ (by first | rfl | simp only [Act.put, List.setIfInBounds_toArray, List.set_cons_zero, List.set_cons_succ]) rfl (Grows.refl _)
    · refine does_mk [(6, some 27)] rfl (by kernel_rfl) (fun u wi hR hf => ?_)
      simp only [putPs, Act.put, List.setIfInBounds_toArray, List.set_cons_zero, List.set_cons_succ, List.getElem_toArray, List.getElem_cons_zero, List.getElem_cons_succ]
      obtain ⟨h6, _⟩ := hf
      have e6 : u 6 = .pointer (some ⟨gc, 0, none⟩) := h6
      try rw [e6]
      clear h6 e6
      rw [if_pos (by rfl)]
      intro K hK
      go_simp
      exact hK.out _ _ _ (by first | rfl | simp only [Act.put, List.setIfInBounds_toArray, List.set_cons_zero, List.set_cons_succ]) rfl (Grows.refl _)
    · refine does_mk [(7, some 28)] rfl (by kernel_rfl) (fun u wi hR hf => ?_)
      simp only [putPs, Act.put, List.setIfInBounds_toArray, List.set_cons_zero, List.set_cons_succ, List.getElem_toArray, List.getElem_cons_zero, List.getElem_cons_succ]
      obtain ⟨h7, _⟩ := hf
      have e7 : u 7 = .pointer (some ⟨gc, 0, none⟩) := h7
      try rw [e7]
      clear h7 e7
      rw [if_pos (by rfl)]
      intro K hK
      go_simp
      exact hK.out _ _ _ (by first | rfl | simp only [Act.put, List.setIfInBounds_toArray, List.set_cons_zero, List.set_cons_succ]) rfl (Grows.refl _)
    · refine does_mk [(8, some 29)] rfl (by kernel_rfl) (fun u wi hR hf => ?_)
      simp only [putPs, Act.put, List.setIfInBounds_toArray, List.set_cons_zero, List.set_cons_succ, List.getElem_toArray, List.getElem_cons_zero, List.getElem_cons_succ]
      obtain ⟨h8, _⟩ := hf
      have e8 : u 8 = .pointer (some ⟨gc, 1, none⟩) := h8
      try rw [e8]
      clear h8 e8
      rw [if_pos (by rfl)]
      intro K hK
      have cT : wi.cell? ⟨gc, 1, none⟩ = some (.slice At 10 ct) := (Below.cell (p := ⟨gc, 1, none⟩) hR HGL.out).trans HCT.out
      go_simp
      exact hK.out _ _ _ (by first | rfl | simp only [Act.put, List.setIfInBounds_toArray, List.set_cons_zero, List.set_cons_succ]) rfl (Grows.refl _)
    · refine does_mk [(9, some 30)] rfl (by kernel_rfl) (fun u wi hR hf => ?_)
      simp only [putPs, Act.put, List.setIfInBounds_toArray, List.set_cons_zero, List.set_cons_succ, List.getElem_toArray, List.getElem_cons_zero, List.getElem_cons_succ]
      obtain ⟨h9, _⟩ := hf
      have e9 : u 9 = .slice At 10 ct := h9
      try rw [e9]
      clear h9 e9
      rw [if_pos (by rfl)]
      intro K hK
      go_simp
      exact hK.out _ _ _ (by first | rfl | simp only [Act.put, List.setIfInBounds_toArray, List.set_cons_zero, List.set_cons_succ]) rfl (Grows.refl _)
    · refine does_mk [(5, some 26), (10, some 31)] rfl (by kernel_rfl) (fun u wi hR hf => ?_)
      simp only [putPs, Act.put, List.setIfInBounds_toArray, List.set_cons_zero, List.set_cons_succ, List.getElem_toArray, List.getElem_cons_zero, List.getElem_cons_succ]
      obtain ⟨h5, h10, _⟩ := hf
      obtain ⟨A5, c5, e5, hl5, hc5, hm5, hr5⟩ := h5
      try rw [e5]
      clear e5
      have e10 : u 10 = .int .i64 10 := h10
      try rw [e10]
      clear h10 e10
      rw [if_pos (by rfl)]
      intro K hK
      go_simp
      refine (fnum_any 10 4 (by omega) (by omega) _).mono ?_
      rintro e w5 ⟨rfl, hr5, hb5⟩
      exact hK.out _ _ _ (by first | rfl | simp only [Act.put, List.setIfInBounds_toArray, List.set_cons_zero, List.set_cons_succ]) ⟨_, _, rfl, numL_len _ _, by omega, by omega, row_rd hr5⟩ hb5
    · refine does_mk [] rfl (by kernel_rfl) (fun u wi hR hf => ?_)
      simp only [putPs, Act.put, List.setIfInBounds_toArray, List.set_cons_zero, List.set_cons_succ, List.getElem_toArray, List.getElem_cons_zero, List.getElem_cons_succ]
      rw [if_pos (by rfl)]
      intro K hK
      go_simp
      exact hK.out _ _ _ (by first | rfl | simp only [Act.put, List.setIfInBounds_toArray, List.set_cons_zero, List.set_cons_succ]) rfl (Grows.refl _)
    · refine does_mk [(12, some 33)] rfl (by kernel_rfl) (fun u wi hR hf => ?_)
      simp only [putPs, Act.put, List.setIfInBounds_toArray, List.set_cons_zero, List.set_cons_succ, List.getElem_toArray, List.getElem_cons_zero, List.getElem_cons_succ]
      obtain ⟨h12, _⟩ := hf
      have e12 : u 12 = .pointer (some ⟨gc, 0, none⟩) := h12
      try rw [e12]
      clear h12 e12
      rw [if_pos (by rfl)]
      intro K hK
      go_simp
      exact hK.out _ _ _ (by first | rfl | simp only [Act.put, List.setIfInBounds_toArray, List.set_cons_zero, List.set_cons_succ]) rfl (Grows.refl _)
    · refine does_mk [(13, some 34)] rfl (by kernel_rfl) (fun u wi hR hf => ?_)
      simp only [putPs, Act.put, List.setIfInBounds_toArray, List.set_cons_zero, List.set_cons_succ, List.getElem_toArray, List.getElem_cons_zero, List.getElem_cons_succ]
      obtain ⟨h13, _⟩ := hf
      have e13 : u 13 = .pointer (some ⟨gc, 0, none⟩) := h13
      try rw [e13]
      clear h13 e13
      rw [if_pos (by rfl)]
      intro K hK
      go_simp
      exact hK.out _ _ _ (by first | rfl | simp only [Act.put, List.setIfInBounds_toArray, List.set_cons_zero, List.set_cons_succ]) rfl (Grows.refl _)
    · refine does_mk [(14, some 35)] rfl (by kernel_rfl) (fun u wi hR hf => ?_)
      simp only [putPs, Act.put, List.setIfInBounds_toArray, List.set_cons_zero, List.set_cons_succ, List.getElem_toArray, List.getElem_cons_zero, List.getElem_cons_succ]
      obtain ⟨h14, _⟩ := hf
      have e14 : u 14 = .pointer (some ⟨gc, 1, none⟩) := h14
      try rw [e14]
      clear h14 e14
      rw [if_pos (by rfl)]
      intro K hK
      have cT : wi.cell? ⟨gc, 1, none⟩ = some (.slice At 10 ct) := (Below.cell (p := ⟨gc, 1, none⟩) hR HGL.out).trans HCT.out
      go_simp
      exact hK.out _ _ _ (by first | rfl | simp only [Act.put, List.setIfInBounds_toArray, List.set_cons_zero, List.set_cons_succ]) rfl (Grows.refl _)
    · refine does_mk [(3, some 24), (5, some 26), (11, some 32), (15, some 36)] rfl (by kernel_rfl) (fun u wi hR hf => ?_)
      simp only [putPs, Act.put, List.setIfInBounds_toArray, List.set_cons_zero, List.set_cons_succ, List.getElem_toArray, List.getElem_cons_zero, List.getElem_cons_succ]
      obtain ⟨h3, h5, h11, h15, _⟩ := hf
      obtain ⟨A3, c3, e3, hl3, hc3, hm3, hr3⟩ := h3
      try rw [e3]
      clear e3
      obtain ⟨A5, c5, e5, hl5, hc5, hm5, hr5⟩ := h5
      try rw [e5]
      clear e5
      obtain ⟨A11, c11, e11, hl11, hc11, hm11, hr11⟩ := h11
      try rw [e11]
      clear e11
      have e15 : u 15 = .slice At 10 ct := h15
      try rw [e15]
      clear h15 e15
      rw [if_pos (by rfl)]
      intro K hK
      go_simp
      have hrT := (HRT.out.below ((Below.refl _ _).drew.trans hR)).more hR.size
      have hq := parts_new (w := wi) (S := fun k => k < wi.heap.size) (T' := fun k => k < (wi.alloc (.cells (List.map Part.val [(⟨A3, 8, c3, [1, 2, 1, 0, 0, 10, 10, 4]⟩ : Part), ⟨A5, 4, c5, numL 8 4⟩, ⟨A11, 4, c11, numL 10 4⟩, ⟨At, 10, ct, tw⟩]).toArray 22)).heap.size) 22 [(⟨A3, 8, c3, [1, 2, 1, 0, 0, 10, 10, 4]⟩ : Part), ⟨A5, 4, c5, numL 8 4⟩, ⟨A11, 4, c11, numL 10 4⟩, ⟨At, 10, ct, tw⟩] (by
        intro p hp
        simp only [List.mem_cons, List.not_mem_nil, or_false] at hp
        rcases hp with rfl | rfl | rfl | rfl
        · exact ⟨hl3, hc3, hm3, hr3.s (fun _ h => h)⟩
        · exact ⟨hl5, hc5, hm5, hr5.s (fun _ h => h)⟩
        · exact ⟨hl11, hc11, hm11, hr11.s (fun _ h => h)⟩
        · exact ⟨HTL.out, hct, hcm, hrT.s (fun _ h => h)⟩) (fun _ h => h) (by simp) (fun x hx => by simp; omega)
      exact hK.out _ _ _ (by first | rfl | simp only [Act.put, List.setIfInBounds_toArray, List.set_cons_zero, List.set_cons_succ]) ⟨_, _, rfl, rfl, hq⟩ ((Below.refl _ _).alloc (Nat.le_refl _) _)
    · refine does_mk [(11, some 32), (16, some 37)] rfl (by kernel_rfl) (fun u wi hR hf => ?_)
      simp only [putPs, Act.put, List.setIfInBounds_toArray, List.set_cons_zero, List.set_cons_succ, List.getElem_toArray, List.getElem_cons_zero, List.getElem_cons_succ]
      obtain ⟨h11, h16, _⟩ := hf
      obtain ⟨A11, c11, e11, hl11, hc11, hm11, hr11⟩ := h11
      try rw [e11]
      clear e11
      obtain ⟨b16, ps16, e16, hm16, hp16⟩ := h16
      try rw [e16]
      clear e16
      rw [if_pos (by rfl)]
      intro K hK
      go_simp
      refine (join_ls 4 (headP 8 tw) b16 ps16 _ hm16 rfl (by omega) (by omega) hp16 (by rw [headP_len 8 HTL.out]; omega) (headP_lt 8 HTL.out)).mono ?_
      rintro e w6 ⟨g6, rfl, ho6, hb6⟩
      rw [headP_len 8 HTL.out] at ho6 ⊢
      exact hK.out _ _ _ (by first | rfl | simp only [Act.put, List.setIfInBounds_toArray, List.set_cons_zero, List.set_cons_succ]) ⟨_, _, rfl, headP_len _ HTL.out, by omega, by omega, ownb_rd ho6⟩ hb6
    · refine does_mk [(0, some 21), (1, some 22), (2, some 23), (3, some 24), (4, some 25), (5, some 26), (6, some 27), (7, some 28), (8, some 29), (9, some 30), (10, some 31), (11, some 32), (12, some 33), (13, some 34), (14, some 35), (15, some 36), (16, some 37), (17, some 38)] rfl (by kernel_rfl) (fun u wi hR hf => ?_)
      simp only [putPs, Act.put, List.setIfInBounds_toArray, List.set_cons_zero, List.set_cons_succ, List.getElem_toArray, List.getElem_cons_zero, List.getElem_cons_succ]
      obtain ⟨h0, h1, h2, h3, h4, h5, h6, h7, h8, h9, h10, h11, h12, h13, h14, h15, h16, h17, _⟩ := hf
      have e0 : u 0 = .int .i64 8 := h0
      try rw [e0]
      clear h0 e0
      have e1 : u 1 = .int .i64 4 := h1
      try rw [e1]
      clear h1 e1
      have e2 : u 2 = .int .u8 4 := h2
      try rw [e2]
      clear h2 e2
      obtain ⟨A3, c3, e3, hl3, hc3, hm3, hr3⟩ := h3
      try rw [e3]
      clear e3
      have e4 : u 4 = .int .i64 8 := h4
      try rw [e4]
      clear h4 e4
      obtain ⟨A5, c5, e5, hl5, hc5, hm5, hr5⟩ := h5
      try rw [e5]
      clear e5
      have e6 : u 6 = .pointer (some ⟨gc, 0, none⟩) := h6
      try rw [e6]
      clear h6 e6
      have e7 : u 7 = .pointer (some ⟨gc, 0, none⟩) := h7
      try rw [e7]
      clear h7 e7
      have e8 : u 8 = .pointer (some ⟨gc, 1, none⟩) := h8
      try rw [e8]
      clear h8 e8
      have e9 : u 9 = .slice At 10 ct := h9
      try rw [e9]
      clear h9 e9
      have e10 : u 10 = .int .i64 10 := h10
      try rw [e10]
      clear h10 e10
      obtain ⟨A11, c11, e11, hl11, hc11, hm11, hr11⟩ := h11
      try rw [e11]
      clear e11
      have e12 : u 12 = .pointer (some ⟨gc, 0, none⟩) := h12
      try rw [e12]
      clear h12 e12
      have e13 : u 13 = .pointer (some ⟨gc, 0, none⟩) := h13
      try rw [e13]
      clear h13 e13
      have e14 : u 14 = .pointer (some ⟨gc, 1, none⟩) := h14
      try rw [e14]
      clear h14 e14
      have e15 : u 15 = .slice At 10 ct := h15
      try rw [e15]
      clear h15 e15
      obtain ⟨b16, ps16, e16, hm16, hp16⟩ := h16
      try rw [e16]
      clear e16
      obtain ⟨A17, c17, e17, hl17, hc17, hm17, hr17⟩ := h17
      try rw [e17]
      clear e17
      rw [if_pos (by rfl)]
      intro K hK
      go_simp
      exact hK.out _ _ _ (by first | rfl | simp only [Act.put, List.setIfInBounds_toArray, List.set_cons_zero, List.set_cons_succ]) ⟨_, _, rfl, hl17, hc17, hm17, hr17⟩ (Grows.refl _)
  · intro u wi hR hf
    simp only [putPs, Act.put, List.setIfInBounds_toArray, List.set_cons_zero, List.set_cons_succ, List.getElem_toArray, List.getElem_cons_zero, List.getElem_cons_succ]
    obtain ⟨h0, h1, h2, h3, h4, h5, h6, h7, h8, h9, h10, h11, h12, h13, h14, h15, h16, h17, h18, _⟩ := hf
    have e0 : u 0 = .int .i64 8 := h0
    try rw [e0]
    clear h0 e0
    have e1 : u 1 = .int .i64 4 := h1
    try rw [e1]
    clear h1 e1
    have e2 : u 2 = .int .u8 4 := h2
    try rw [e2]
    clear h2 e2
    obtain ⟨A3, c3, e3, hl3, hc3, hm3, hr3⟩ := h3
    try rw [e3]
    clear e3
    have e4 : u 4 = .int .i64 8 := h4
    try rw [e4]
    clear h4 e4
    obtain ⟨A5, c5, e5, hl5, hc5, hm5, hr5⟩ := h5
    try rw [e5]
    clear e5
    have e6 : u 6 = .pointer (some ⟨gc, 0, none⟩) := h6
    try rw [e6]
    clear h6 e6
    have e7 : u 7 = .pointer (some ⟨gc, 0, none⟩) := h7
    try rw [e7]
    clear h7 e7
    have e8 : u 8 = .pointer (some ⟨gc, 1, none⟩) := h8
    try rw [e8]
    clear h8 e8
    have e9 : u 9 = .slice At 10 ct := h9
    try rw [e9]
    clear h9 e9
    have e10 : u 10 = .int .i64 10 := h10
    try rw [e10]
    clear h10 e10
    obtain ⟨A11, c11, e11, hl11, hc11, hm11, hr11⟩ := h11
    try rw [e11]
    clear e11
    have e12 : u 12 = .pointer (some ⟨gc, 0, none⟩) := h12
    try rw [e12]
    clear h12 e12
    have e13 : u 13 = .pointer (some ⟨gc, 0, none⟩) := h13
    try rw [e13]
    clear h13 e13
    have e14 : u 14 = .pointer (some ⟨gc, 1, none⟩) := h14
    try rw [e14]
    clear h14 e14
    have e15 : u 15 = .slice At 10 ct := h15
    try rw [e15]
    clear h15 e15
    obtain ⟨b16, ps16, e16, hm16, hp16⟩ := h16
    try rw [e16]
    clear e16
    obtain ⟨A17, c17, e17, hl17, hc17, hm17, hr17⟩ := h17
    try rw [e17]
    clear e17
    obtain ⟨A18, c18, e18, hl18, hc18, hm18, hr18⟩ := h18
    try rw [e18]
    clear e18
    have hb2 : Below w1.heap.size w1 wi := (Below.refl _ _).drew.trans (hR.mono (by simp))
    have HB2 := Lib.hid hb2
    have HR18 := Lib.hid hr18
    have HL18 := Lib.hid hl18
    have hzi : w1.heap.size ≤ wi.heap.size := hb2.size
    clear hl3 hc3 hm3 hr3 hl5 hc5 hm5 hr5 hl11 hc11 hm11 hr11 hm16 hp16 hl17 hc17 hm17 hr17 hl18 hr18 hb2 hR
    have hrw : IntKind.u8.wrap (r : Int) = (r : Int) := by rw [IntKind.wrap_u8]; omega
    go_wp2_with fail
    refine (fnum_any v 2 (by omega) (by omega) _).mono ?_
    rintro e w3 ⟨rfl, hr3, hb3⟩
    have hbr : bvs [UInt8.ofNat r] = [.int .u8 (r : Int)] := by
      simp only [bvs, bv, List.map_cons, List.map_nil, UInt8.toNat_ofNat']
      rw [Nat.mod_eq_of_lt (by omega)]
    have hrow3 : Row (wi.alloc (.cells #[.int .u8 (r : Int)] 5)) 5 wi.heap.size ([UInt8.ofNat r] ++ []) := by
      rw [List.append_nil]
      have := Row.new wi 5 [UInt8.ofNat r]
      rw [hbr] at this
      exact this
    have ho3 : Own w3 5 wi.heap.size (.slice (some ⟨wi.heap.size, 0, none⟩) 1 1) [UInt8.ofNat r] := Own.below (hrow3.toOwn (Nat.le_refl _) rfl rfl (by omega)) hb3
    have hb03 : Below wi.heap.size wi w3 := ((Below.refl _ _).alloc (Nat.le_refl _) _).trans (hb3.mono (by simp))
    have hz3 := hb03.size
    rw [show (wi.alloc (.cells #[.int .u8 (r : Int)] 5)).heap.size = wi.heap.size + 1 by simp] at hr3
    have HRN := Lib.hid (row_rd hr3)
    have HO3 := Lib.hid ho3
    have HB3 := Lib.hid hb03
    clear hbr hrow3 ho3 hb03 hr3 hb3
    go_wp2_with (first
      | (with_reducible refine at_slot 45 ?_
         refine wpList_append_u8 Go.Proofs.YtkgnnlglabihkaaGreatDoor.u8 rfl (.tmp 41) (.tmp 44) rfl wi.heap.size _ [UInt8.ofNat r] _ 2 2 (numL v 2) w3.heap.size rfl rfl HO3.out HRN.out (numL_len _ _) (by simp) hz3 ?_
         intro v4 w4 ho4 hg4 hat4
         have hb4 : Below wi.heap.size wi w4 := below_grown HB3.out hg4 hz3 HO3.out (Nat.le_refl _)
         have HO4 := Lib.hid ho4
         have HB4 := Lib.hid hb4
         clear hg4 hat4
         obtain ⟨A4, c4, hv4, hr4, hc4⟩ := ho4.form
         have hl4 : ([UInt8.ofNat r] ++ numL v 2).length = 3 := by simp [numL_len]
         rw [hl4] at hv4 hc4
         subst hv4
         obtain ⟨_, _, hcm4⟩ := Sha.own_len ho4
         have HL4 := Lib.hid hl4
         have HR4 := Lib.hid hr4
         clear ho4 hr4 hb4 hl4
         have hB14 := HB2.out.trans (HB4.out.mono hzi)
         have hz4 := hB14.size
         have cT4 : w4.cell? ⟨gc, 1, none⟩ = some (.slice At 10 ct) := (hB14.cell (p := ⟨gc, 1, none⟩) HGL.out).trans HCT.out
         have HB14 := Lib.hid hB14
         clear hB14)
      | (with_reducible refine at_slot 56 ?_
         refine wpList_make_u8 Go.Proofs.YtkgnnlglabihkaaGreatDoor.u8 rfl (.tmp 55) (.tmp 55) rfl .i64 .i64 _ _ 3 3 rfl rfl rfl rfl (by omega) (by omega) ?_))
    have hB5 := HB14.out.alloc hz4 (.cells (bvs (List.replicate 3 0)).toArray 5)
    have hC5 : Ciph (w4.alloc (.cells (bvs (List.replicate 3 0)).toArray 5)) base B gc g key tw := HC1.out.below hB5
    have hR5 := (Row.new w4 5 (List.replicate 3 0)).rd
    have hR4 := (HR4.out.alloc (Nat.le_refl _) (.cells (bvs (List.replicate 3 0)).toArray 5)).more (show w4.heap.size ≤ (w4.alloc (.cells (bvs (List.replicate 3 0)).toArray 5)).heap.size by simp)
    have hR18 := (((HR18.out.below HB4.out).more HB4.out.size).alloc (Nat.le_refl _) (.cells (bvs (List.replicate 3 0)).toArray 5)).more (show w4.heap.size ≤ (w4.alloc (.cells (bvs (List.replicate 3 0)).toArray 5)).heap.size by simp)
    obtain ⟨g5, hg5⟩ : ∃ x, w4.heap.size = x := ⟨_, rfl⟩
    rw [hg5] at hR5
    try rw [hg5]
    rw [show List.replicate 3 (0 : UInt8) = [0, 0, 0] from rfl] at hB5 hC5 hR5 hR4 hR18
    generalize w4.alloc (.cells (bvs [0, 0, 0]).toArray 5) = W5 at *
    have hz5 := hB5.size
    have HB5 := Lib.hid hB5
    have HC5 := Lib.hid hC5
    have HR5 := Lib.hid hR5
    have HR45 := Lib.hid hR4
    have HR185 := Lib.hid hR18
    have hck : W5.cell? ⟨gc, 0, none⟩ = some (.pointer (some ⟨g, 0, none⟩)) := hC5.ck
    clear hB5 hC5 hR5 hR4 hR18
    refine wp_region_held_drew (S := fun w' => w'.cell? ⟨gc, 0, none⟩ = some (.pointer (some ⟨g, 0, none⟩))) (by kernel_rfl) (hck) (fun hHeld => ?_)
    refine wpAnyH_take (i := 0) (v := ?_) rfl (by kernel_rfl) (by kernel_rfl) (by kernel_rfl) (fun _ _ _ h => h) (Or.inl ⟨by kernel_rfl, ?_⟩) (by assumption) ?_
    rotate_left
    · (intro w hSw; (try dsimp only at hSw); go_simp; first | done | with_reducible rfl)
    (try simp only [Act.put, List.setIfInBounds_toArray, List.set_cons_zero, List.set_cons_succ, List.getElem_toArray, List.getElem_cons_zero, List.getElem_cons_succ])
    refine wpAnyH_take (i := 1) (v := ?_) rfl (by kernel_rfl) (by kernel_rfl) (by kernel_rfl) (fun _ _ _ h => h) (Or.inl ⟨by kernel_rfl, ?_⟩) (by assumption) ?_
    rotate_left
    · (intro w hSw; (try dsimp only at hSw); go_simp; first | done | with_reducible rfl)
    (try simp only [Act.put, List.setIfInBounds_toArray, List.set_cons_zero, List.set_cons_succ, List.getElem_toArray, List.getElem_cons_zero, List.getElem_cons_succ])
    refine wpAnyH_take (i := 2) (v := ?_) rfl (by kernel_rfl) (by kernel_rfl) (by kernel_rfl) (fun _ _ _ h => h) (Or.inl ⟨by kernel_rfl, ?_⟩) (by assumption) ?_
    rotate_left
    · (intro w hSw; (try dsimp only at hSw); go_simp; first | done | with_reducible rfl)
    (try simp only [Act.put, List.setIfInBounds_toArray, List.set_cons_zero, List.set_cons_succ, List.getElem_toArray, List.getElem_cons_zero, List.getElem_cons_succ])
    refine wpAnyH_take (i := 3) (v := ?_) rfl (by kernel_rfl) (by kernel_rfl) (by kernel_rfl) (fun _ _ _ h => h) (Or.inl ⟨by kernel_rfl, ?_⟩) (by assumption) ?_
    rotate_left
    · (intro w hSw; (try dsimp only at hSw); go_simp; first | done | with_reducible rfl)
    (try simp only [Act.put, List.setIfInBounds_toArray, List.set_cons_zero, List.set_cons_succ, List.getElem_toArray, List.getElem_cons_zero, List.getElem_cons_succ])
    refine wpAnyH_take (i := 4) (v := ?_) rfl (by kernel_rfl) (by kernel_rfl) (by kernel_rfl) (fun _ _ _ h => h) (Or.inl ⟨by kernel_rfl, ?_⟩) (by assumption) ?_
    rotate_left
    · (intro w hSw; (try dsimp only at hSw); go_simp; first | done | with_reducible rfl)
    (try simp only [Act.put, List.setIfInBounds_toArray, List.set_cons_zero, List.set_cons_succ, List.getElem_toArray, List.getElem_cons_zero, List.getElem_cons_succ])
    refine wpAnyH_take (i := 5) (v := ?_) rfl (by kernel_rfl) (by kernel_rfl) (by kernel_rfl) (fun _ _ _ h => h) (Or.inl ⟨by kernel_rfl, ?_⟩) (by assumption) ?_
    rotate_left
    · (intro w hSw; (try dsimp only at hSw); go_simp; first | done | with_reducible rfl)
    (try simp only [Act.put, List.setIfInBounds_toArray, List.set_cons_zero, List.set_cons_succ, List.getElem_toArray, List.getElem_cons_zero, List.getElem_cons_succ])
    refine wpAnyH_take (i := 6) (v := ?_) rfl (by kernel_rfl) (by kernel_rfl) (by kernel_rfl) (fun _ _ _ h => h) (Or.inl ⟨by kernel_rfl, ?_⟩) (by assumption) ?_
    rotate_left
    · (intro w hSw; (try dsimp only at hSw); go_simp; first | done | with_reducible rfl)
    (try simp only [Act.put, List.setIfInBounds_toArray, List.set_cons_zero, List.set_cons_succ, List.getElem_toArray, List.getElem_cons_zero, List.getElem_cons_succ])
    refine wpAnyH_ready (rs := [7]) (by kernel_rfl) (by simp) ?_
    refine AllReadyH.cons rfl (fun KK hKK => ?_) AllReadyH.nil
    go_simp
    refine hKK.out _ _ ?_ (fun hHeld => ?_)
    · (first | assumption | (exact (World.cell?_alloc_lt W5 _ ⟨gc, 0, none⟩ HC5.out.gl).trans hck))
    clear hKK KK
    (try simp only [Act.put, List.setIfInBounds_toArray, List.set_cons_zero, List.set_cons_succ, List.getElem_toArray, List.getElem_cons_zero, List.getElem_cons_succ])
    refine wpAnyH_ready (rs := [8]) (by kernel_rfl) (by simp) ?_
    refine AllReadyH.cons rfl (fun KK hKK => ?_) AllReadyH.nil
    go_simp
    have hq0 := parts_new (w := W5) (S := fun k => k < W5.heap.size) (T' := fun k => k < (W5.alloc (.cells (List.map Part.val [(⟨A18, 26, c18, (headP 8 tw).flatten⟩ : Part), ⟨some ⟨g5, 0, none⟩, 3, 3, [0, 0, 0]⟩, ⟨A4, 3, c4, tailP 8 r v⟩]).toArray 22)).drew.heap.size) 22 [(⟨A18, 26, c18, (headP 8 tw).flatten⟩ : Part), ⟨some ⟨g5, 0, none⟩, 3, 3, [0, 0, 0]⟩, ⟨A4, 3, c4, tailP 8 r v⟩] (by
      intro p hp
      simp only [List.mem_cons, List.not_mem_nil, or_false] at hp
      rcases hp with rfl | rfl | rfl
      · exact ⟨HL18.out, hc18, hm18, HR185.out.s (fun _ h => h)⟩
      · exact ⟨rfl, Nat.le_refl _, (by omega : (3 : Nat) ≤ 9223372036854775807), HR5.out.s (fun _ h => h)⟩
      · exact ⟨HL4.out, hc4, hcm4, HR45.out.s (fun _ h => h)⟩) (fun _ h => h) (by simp [World.drew]) (fun x hx => by simp [World.drew]; omega)
    have hq : PartsS (W5.alloc (.cells (List.map Part.val [(⟨A18, 26, c18, (headP 8 tw).flatten⟩ : Part), ⟨some ⟨g5, 0, none⟩, 3, 3, [0, 0, 0]⟩, ⟨A4, 3, c4, tailP 8 r v⟩]).toArray 22)).drew (fun k => k < (W5.alloc (.cells (List.map Part.val [(⟨A18, 26, c18, (headP 8 tw).flatten⟩ : Part), ⟨some ⟨g5, 0, none⟩, 3, 3, [0, 0, 0]⟩, ⟨A4, 3, c4, tailP 8 r v⟩]).toArray 22)).drew.heap.size) (some ⟨W5.heap.size, 0, none⟩) [(⟨A18, 26, c18, (headP 8 tw).flatten⟩ : Part), ⟨some ⟨g5, 0, none⟩, 3, 3, [0, 0, 0]⟩, ⟨A4, 3, c4, tailP 8 r v⟩] := ⟨hq0.at_, hq0.part⟩
    clear hq0
    refine (join_ls 3 (maskP 8 r v tw) _ [(⟨A18, 26, c18, (headP 8 tw).flatten⟩ : Part), ⟨some ⟨g5, 0, none⟩, 3, 3, [0, 0, 0]⟩, ⟨A4, 3, c4, tailP 8 r v⟩] _ rfl rfl (by omega) (by omega) hq (by rw [maskP_len 8 r v HTL.out]; omega) (maskP_lt 8 r v HTL.out)).mono ?_
    rintro e w6 ⟨g6, rfl, ho6, hb6⟩
    rw [maskP_len 8 r v HTL.out] at ho6 ⊢
    have hb56 : Below W5.heap.size W5 w6 := ((Below.refl W5.heap.size W5).alloc (Nat.le_refl _) _).drew.trans (hb6.mono (by simp [World.drew]))
    have hg6 := (ho6.lt g6 rfl)
    have HC6 := Lib.hid (HC5.out.below hb56)
    have HO6 := Lib.hid ho6
    have HB56 := Lib.hid hb56
    have hck6 := HC6.out.ck
    have hz6 := hb56.size
    clear hq ho6 hb6 hb56
    go_wp2_with fail
    refine hKK.out _ _ ?_ (fun hHeld => ?_)
    · (exact hck6)
    clear hKK KK
    (try simp only [Act.put, List.setIfInBounds_toArray, List.set_cons_zero, List.set_cons_succ, List.getElem_toArray, List.getElem_cons_zero, List.getElem_cons_succ])
    refine wpAnyH_ready (rs := [9]) (by kernel_rfl) (by simp) ?_
    refine AllReadyH.cons rfl (fun KK hKK => ?_) AllReadyH.nil
    go_simp
    have hrd : RdS w6 (Off w6 B) (some ⟨g6, 0, none⟩) (maskP 8 r v tw).flatten := RdS.elim_off ((ownb_rd HO6.out).s (fun _ h => h)) (fun hb => by
      have h1 := (HC5.out.key.lt _ hb).2
      have h2 := hg6.1
      simp [World.drew] at h2
      omega)
    have hbw : base ≤ w6.heap.size := by have := HBS.out; have := HB1.out.size; omega
    refine (chain_any base B g key _ _ 2 32 32 w6 HC6.out.key hbw (maskP_len 8 r v HTL.out) rfl (by omega) (by omega) hrd).mono ?_
    rintro e w7 ⟨v7, rfl, ho7, hk7⟩
    have hko := HC6.out.key.ok
    have hl7 : (chainL key 2 (maskP 8 r v tw).flatten).length = 16 := cbc_len hko _ _ _ (by simp)
    obtain ⟨A7, c7, hv7, hr7, hc7⟩ := ho7.form
    rw [hl7] at hv7 hc7
    subst hv7
    have HO7 := Lib.hid (HC6.out.out hk7)
    have HR7 := Lib.hid hr7
    have HL7 := Lib.hid hl7
    obtain ⟨B7, hC7, _, _⟩ := HO7.out
    have hck7 := hC7.ck
    clear hrd ho7 hk7 hr7 hl7 hC7
    go_wp2_with fail
    refine hKK.out _ _ ?_ (fun hHeld => ?_)
    · (exact hck7)
    clear hKK KK
    (try simp only [Act.put, List.setIfInBounds_toArray, List.set_cons_zero, List.set_cons_succ, List.getElem_toArray, List.getElem_cons_zero, List.getElem_cons_succ])
    refine wpAnyH_ready (rs := [10]) (by kernel_rfl) (by simp) ?_
    refine AllReadyH.cons rfl (fun KK hKK => ?_) AllReadyH.nil
    go_simp
    refine hKK.out _ _ ?_ (fun hHeld => ?_)
    · (first | assumption | (exact (World.cell?_alloc_lt W5 _ ⟨gc, 0, none⟩ HC5.out.gl).trans hck))
    clear hKK KK
    (try simp only [Act.put, List.setIfInBounds_toArray, List.set_cons_zero, List.set_cons_succ, List.getElem_toArray, List.getElem_cons_zero, List.getElem_cons_succ])
    refine wpAnyH_done (by kernel_rfl) ?_ _
    go_wp2_with fail
    obtain ⟨A8, hsl, hr8⟩ := arg_to (k := 8) HR7.out HL7.out (by omega) hc7
    have hsl8 : ∀ w' : World, (Instr.slice 22 (.slice A7 16 c7) none (some (.int .i64 8)) none).run Tryz.prog w' = .ok (.slice A8 8 c7) w' := hsl
    have HR8 := Lib.hid hr8
    have hw8 : IntKind.i64.wrap (4 + bits BinOp.andNot IntKind.i64 (IntKind.i64.wrap 5) 3) = 8 := by decide
    have hhp := Lib.hid (halfN_pos (n := 8) (r := r) (by omega) (by omega))
    have HM := Lib.hid (show maskN key tw 8 r v = restN (10 ^ halfN 8 r) ((chainL key 2 (maskP 8 r v tw).flatten).take 8) from rfl)
    clear hsl hr8
    refine wp_region_held_drew (S := fun _ => True) (by kernel_rfl) (trivial) (fun hHeld => ?_)
    refine wpAnyH_take (i := 0) (v := ?_) rfl (by kernel_rfl) (by kernel_rfl) (by kernel_rfl) (fun _ _ _ h => h) (Or.inl ⟨by kernel_rfl, ?_⟩) (by assumption) ?_
    rotate_left
    · (intro w hSw; (try dsimp only at hSw); go_simp; first | done | with_reducible rfl)
    (try simp only [Act.put, List.setIfInBounds_toArray, List.set_cons_zero, List.set_cons_succ, List.getElem_toArray, List.getElem_cons_zero, List.getElem_cons_succ])
    refine wpAnyH_take (i := 1) (v := ?_) rfl (by kernel_rfl) (by kernel_rfl) (by kernel_rfl) (fun _ _ _ h => h) (Or.inl ⟨by kernel_rfl, ?_⟩) (by assumption) ?_
    rotate_left
    · (intro w hSw; (try dsimp only at hSw); go_simp; first | done | with_reducible rfl)
    (try simp only [Act.put, List.setIfInBounds_toArray, List.set_cons_zero, List.set_cons_succ, List.getElem_toArray, List.getElem_cons_zero, List.getElem_cons_succ])
    refine wpAnyH_take (i := 2) (v := ?_) rfl (by kernel_rfl) (by kernel_rfl) (by kernel_rfl) (fun _ _ _ h => h) (Or.inl ⟨by kernel_rfl, ?_⟩) (by assumption) ?_
    rotate_left
    · (intro w hSw; (try dsimp only at hSw); go_simp; first | done | with_reducible rfl)
    (try simp only [Act.put, List.setIfInBounds_toArray, List.set_cons_zero, List.set_cons_succ, List.getElem_toArray, List.getElem_cons_zero, List.getElem_cons_succ])
    refine wpAnyH_take (i := 3) (v := ?_) rfl (by kernel_rfl) (by kernel_rfl) (by kernel_rfl) (fun _ _ _ h => h) (Or.inl ⟨by kernel_rfl, ?_⟩) (by assumption) ?_
    rotate_left
    · (intro w hSw; (try dsimp only at hSw); go_simp; first | done | with_reducible rfl)
    (try simp only [Act.put, List.setIfInBounds_toArray, List.set_cons_zero, List.set_cons_succ, List.getElem_toArray, List.getElem_cons_zero, List.getElem_cons_succ])
    refine wpAnyH_take (i := 4) (v := ?_) rfl (by kernel_rfl) (by kernel_rfl) (by kernel_rfl) (fun _ _ _ h => h) (Or.inl ⟨by kernel_rfl, ?_⟩) (by assumption) ?_
    rotate_left
    · (intro w hSw; (try dsimp only at hSw); go_simp; first | done | with_reducible rfl)
    (try simp only [Act.put, List.setIfInBounds_toArray, List.set_cons_zero, List.set_cons_succ, List.getElem_toArray, List.getElem_cons_zero, List.getElem_cons_succ])
    refine wpAnyH_take (i := 5) (v := ?_) rfl (by kernel_rfl) (by kernel_rfl) (by kernel_rfl) (fun _ _ _ h => h) (Or.inl ⟨by kernel_rfl, ?_⟩) (by assumption) ?_
    rotate_left
    · (intro w hSw; (try dsimp only at hSw); go_simp; first | done | with_reducible rfl)
    (try simp only [Act.put, List.setIfInBounds_toArray, List.set_cons_zero, List.set_cons_succ, List.getElem_toArray, List.getElem_cons_zero, List.getElem_cons_succ])
    refine wpAnyH_take (i := 6) (v := ?_) rfl (by kernel_rfl) (by kernel_rfl) (by kernel_rfl) (fun _ _ _ h => h) (Or.inl ⟨by kernel_rfl, ?_⟩) (by assumption) ?_
    rotate_left
    · (intro w hSw; (try dsimp only at hSw); go_simp; first | done | with_reducible rfl)
    (try simp only [Act.put, List.setIfInBounds_toArray, List.set_cons_zero, List.set_cons_succ, List.getElem_toArray, List.getElem_cons_zero, List.getElem_cons_succ])
    refine wpAnyH_take (i := 7) (v := ?_) rfl (by kernel_rfl) (by kernel_rfl) (by kernel_rfl) (fun _ _ _ h => h) (Or.inl ⟨by kernel_rfl, ?_⟩) (by assumption) ?_
    rotate_left
    · (intro w hSw; (try dsimp only at hSw); go_simp; first | done | with_reducible rfl)
    (try simp only [Act.put, List.setIfInBounds_toArray, List.set_cons_zero, List.set_cons_succ, List.getElem_toArray, List.getElem_cons_zero, List.getElem_cons_succ])
    refine wpAnyH_ready (rs := [8]) (by kernel_rfl) (by simp) ?_
    refine AllReadyH.cons rfl (fun KK hKK => ?_) AllReadyH.nil
    go_simp
    refine (half_any 8 r (by omega) (by omega) _).mono ?_
    rintro e w8 ⟨rfl, rfl⟩
    go_wp2_with fail
    refine hKK.out _ _ ?_ (fun hHeld => ?_)
    · (trivial)
    clear hKK KK
    (try simp only [Act.put, List.setIfInBounds_toArray, List.set_cons_zero, List.set_cons_succ, List.getElem_toArray, List.getElem_cons_zero, List.getElem_cons_succ])
    refine wpAnyH_ready (rs := [9]) (by kernel_rfl) (by simp) ?_
    refine AllReadyH.cons rfl (fun KK hKK => ?_) AllReadyH.nil
    go_simp
    refine (rest_any w7.drew A8 8 c7 _ (halfN 8 r) (by rw [List.length_take, HL7.out]; rfl) (by omega) HR8.out hhp.out.1 (by have := hhp.out.2; omega)).mono ?_
    rintro e w9 ⟨rfl, hb9⟩
    rw [← HM.out]
    have HB9 := Lib.hid (show Below w7.heap.size w7 w9 from (Below.refl _ _).drew.trans hb9)
    clear hb9
    go_wp2_with fail
    refine hKK.out _ _ ?_ (fun hHeld => ?_)
    · (trivial)
    clear hKK KK
    (try simp only [Act.put, List.setIfInBounds_toArray, List.set_cons_zero, List.set_cons_succ, List.getElem_toArray, List.getElem_cons_zero, List.getElem_cons_succ])
    refine wpAnyH_take (i := 10) (v := ?_) rfl (by kernel_rfl) (by kernel_rfl) (by kernel_rfl) (fun _ _ _ h => h) (Or.inl ⟨by kernel_rfl, ?_⟩) (by assumption) ?_
    rotate_left
    · (intro w hSw; (try dsimp only at hSw); go_simp; first | done | with_reducible rfl)
    (try simp only [Act.put, List.setIfInBounds_toArray, List.set_cons_zero, List.set_cons_succ, List.getElem_toArray, List.getElem_cons_zero, List.getElem_cons_succ])
    refine wpAnyH_take (i := 11) (v := ?_) rfl (by kernel_rfl) (by kernel_rfl) (by kernel_rfl) (fun _ _ _ h => h) (Or.inl ⟨by kernel_rfl, ?_⟩) (by assumption) ?_
    rotate_left
    · (intro w hSw; (try dsimp only at hSw); go_simp; first | done | with_reducible rfl)
    (try simp only [Act.put, List.setIfInBounds_toArray, List.set_cons_zero, List.set_cons_succ, List.getElem_toArray, List.getElem_cons_zero, List.getElem_cons_succ])
    refine wpAnyH_take (i := 12) (v := ?_) rfl (by kernel_rfl) (by kernel_rfl) (by kernel_rfl) (fun _ _ _ h => h) (Or.inl ⟨by kernel_rfl, ?_⟩) (by assumption) ?_
    rotate_left
    · (intro w hSw; (try dsimp only at hSw); go_simp; first | done | with_reducible rfl)
    (try simp only [Act.put, List.setIfInBounds_toArray, List.set_cons_zero, List.set_cons_succ, List.getElem_toArray, List.getElem_cons_zero, List.getElem_cons_succ])
    refine wpAnyH_take (i := 13) (v := ?_) rfl (by kernel_rfl) (by kernel_rfl) (by kernel_rfl) (fun _ _ _ h => h) (Or.inl ⟨by kernel_rfl, ?_⟩) (by assumption) ?_
    rotate_left
    · (intro w hSw; (try dsimp only at hSw); go_simp; first | done | with_reducible rfl)
    (try simp only [Act.put, List.setIfInBounds_toArray, List.set_cons_zero, List.set_cons_succ, List.getElem_toArray, List.getElem_cons_zero, List.getElem_cons_succ])
    refine wpAnyH_take (i := 14) (v := ?_) rfl (by kernel_rfl) (by kernel_rfl) (by kernel_rfl) (fun _ _ _ h => h) (Or.inl ⟨by kernel_rfl, ?_⟩) (by assumption) ?_
    rotate_left
    · (intro w hSw; (try dsimp only at hSw); go_simp; first | done | with_reducible rfl)
    (try simp only [Act.put, List.setIfInBounds_toArray, List.set_cons_zero, List.set_cons_succ, List.getElem_toArray, List.getElem_cons_zero, List.getElem_cons_succ])
    refine wpAnyH_done (by kernel_rfl) ?_ _
    go_wp2
    go_ret
    exact ⟨rfl, COut.ahead (HB1.out.trans ((HB5.out.trans (HB56.out.mono hz5)).mono HB1.out.size)) (fun k hk => (HC.out.key.lt k hk).2) (HO7.out.then HB9.out)⟩
set_option maxRecDepth 100000 in
set_option maxHeartbeats 4000000 in
theorem mask9 (base : Nat) (B : Nat → Prop) (gc g : Nat) (key tw : List UInt8) (r v : Nat) (hr : r < 10) (hv : v < 1000000) (w : World) (h : Ciph w base B gc g key tw) (hbase : base ≤ w.heap.size) :
    Calls Tryz.prog 32 #[.pointer (some ⟨gc, 0, none⟩), .int .i64 9, .int .i64 (r : Int), .int .i64 (v : Int)] w fun e w' => e = .returned (.int .i64 (maskN key tw 9 r v : Int)) ∧ COut w w' base B gc g key tw := by
  have HC := Lib.hid h
  have HBS := Lib.hid hbase
  have HTL := Lib.hid (show tw.length = 10 by obtain ⟨A, c, h1, h2, h3⟩ := h.tw; exact h2)
  clear h hbase
  go_enter Tryz.func32, Tryz.ntmps32
  go_wp2_with fail
  refine (width_any 5 (by omega) _).mono ?_
  rintro e w1 ⟨rfl, hb1⟩
  rw [show widthN 5 = 3 from rfl, show ((3 : Nat) : Int) = 3 from rfl]
  have hC1 := HC.out.below hb1
  obtain ⟨At, ct, hT1, hTL, hct, hcm, hRT⟩ := hC1.tw
  have HB1 := Lib.hid hb1
  have HC1 := Lib.hid hC1
  have HGL := Lib.hid hC1.gl
  have HCT := Lib.hid hT1
  have HRT := Lib.hid (RdS.rd (B := w1.heap.size) hRT (fun k hk => hk.1))
  clear hb1 hC1 hT1 hTL hRT
  go_wp2_with fail
  refine wp_region_facts [FVal (.int .i64 9), FVal (.int .i64 4), FVal (.int .u8 4), FRm 8 ([1, 2, 1, 0, 0, 10, 10, 4]), FVal (.int .i64 9), FRm 4 (numL 9 4), FVal (.pointer (some ⟨gc, 0, none⟩)), FVal (.pointer (some ⟨gc, 0, none⟩)), FVal (.pointer (some ⟨gc, 1, none⟩)), FVal (.slice At 10 ct), FVal (.int .i64 10), FRm 4 (numL 10 4), FVal (.pointer (some ⟨gc, 0, none⟩)), FVal (.pointer (some ⟨gc, 0, none⟩)), FVal (.pointer (some ⟨gc, 1, none⟩)), FVal (.slice At 10 ct), FJoin 4 (headP 9 tw), FRm 26 ((headP 9 tw).flatten), FRm 26 ((headP 9 tw).flatten)] [0, 1, 2, 3, 4, 5, 6, 7, 8, 9, 10, 11, 12, 13, 14, 15, 16, 17, 18] [(0, some 21), (1, some 22), (2, some 23), (3, some 24), (4, some 25), (5, some 26), (6, some 27), (7, some 28), (8, some 29), (9, some 30), (10, some 31), (11, some 32), (12, some 33), (13, some 34), (14, some 35), (15, some 36), (16, some 37), (17, some 38), (18, some 10)] (by kernel_rfl) (by kernel_rfl) (by kernel_rfl) (by kernel_rfl) ?_ ?_ ?_
  · simp only [List.forall_mem_cons, List.not_mem_nil, false_implies, implies_true, and_true]
    exact ⟨stable_val _, stable_val _, stable_val _, stable_rm _ _, stable_val _, stable_rm _ _, stable_val _, stable_val _, stable_val _, stable_val _, stable_val _, stable_rm _ _, stable_val _, stable_val _, stable_val _, stable_val _, stable_join _ _, stable_rm _ _, stable_rm _ _⟩
  · simp only [List.forall_mem_cons, List.not_mem_nil, false_implies, implies_true, and_true]
    refine ⟨?_, ?_, ?_, ?_, ?_, ?_, ?_, ?_, ?_, ?_, ?_, ?_, ?_, ?_, ?_, ?_, ?_, ?_, ?_⟩
    · refine does_mk [] rfl (by kernel_rfl) (fun u wi hR hf => ?_)
      simp only [putPs, Act.put, List.setIfInBounds_toArray, List.set_cons_zero, List.set_cons_succ, List.getElem_toArray, List.getElem_cons_zero, List.getElem_cons_succ]
      rw [if_pos (by rfl)]
      intro K hK
      go_simp
      exact hK.out _ _ _ (by first | rfl | simp only [Act.put, List.setIfInBounds_toArray, List.set_cons_zero, List.set_cons_succ]) rfl (Grows.refl _)
    · refine does_mk [(0, some 21)] rfl (by kernel_rfl) (fun u wi hR hf => ?_)
      simp only [putPs, Act.put, List.setIfInBounds_toArray, List.set_cons_zero, List.set_cons_succ, List.getElem_toArray, List.getElem_cons_zero, List.getElem_cons_succ]
      obtain ⟨h0, _⟩ := hf
      have e0 : u 0 = .int .i64 9 := h0
      try rw [e0]
      clear h0 e0
      rw [if_pos (by rfl)]
      intro K hK
      go_simp
      exact hK.out _ _ _ (by first | rfl | simp only [Act.put, List.setIfInBounds_toArray, List.set_cons_zero, List.set_cons_succ]) rfl (Grows.refl _)
    · refine does_mk [(1, some 22)] rfl (by kernel_rfl) (fun u wi hR hf => ?_)
      simp only [putPs, Act.put, List.setIfInBounds_toArray, List.set_cons_zero, List.set_cons_succ, List.getElem_toArray, List.getElem_cons_zero, List.getElem_cons_succ]
      obtain ⟨h1, _⟩ := hf
      have e1 : u 1 = .int .i64 4 := h1
      try rw [e1]
      clear h1 e1
      rw [if_pos (by rfl)]
      intro K hK
      go_simp
      exact hK.out _ _ _ (by first | rfl | simp only [Act.put, List.setIfInBounds_toArray, List.set_cons_zero, List.set_cons_succ]) rfl (Grows.refl _)
    · refine does_mk [(2, some 23)] rfl (by kernel_rfl) (fun u wi hR hf => ?_)
      simp only [putPs, Act.put, List.setIfInBounds_toArray, List.set_cons_zero, List.set_cons_succ, List.getElem_toArray, List.getElem_cons_zero, List.getElem_cons_succ]
      obtain ⟨h2, _⟩ := hf
      have e2 : u 2 = .int .u8 4 := h2
      try rw [e2]
      clear h2 e2
      rw [if_pos (by rfl)]
      intro K hK
      go_simp
      exact hK.out _ _ _ (by first | rfl | simp only [Act.put, List.setIfInBounds_toArray, List.set_cons_zero, List.set_cons_succ]) ⟨_, _, rfl, rfl, by omega, by omega, (rd_lit _ [1, 2, 1, 0, 0, 10, 10, 4] rfl).more (by simp)⟩ ((Below.refl _ _).alloc (Nat.le_refl _) _)
    · refine does_mk [] rfl (by kernel_rfl) (fun u wi hR hf => ?_)
      simp only [putPs, Act.put, List.setIfInBounds_toArray, List.set_cons_zero, List.set_cons_succ, List.getElem_toArray, List.getElem_cons_zero, List.getElem_cons_succ]
      rw [if_pos (by rfl)]
      intro K hK
      go_simp
      exact hK.out _ _ _ (by first | rfl | simp only [Act.put, List.setIfInBounds_toArray, List.set_cons_zero, List.set_cons_succ]) rfl (Grows.refl _)
    · refine does_mk [(4, some 25)] rfl (by kernel_rfl) (fun u wi hR hf => ?_)
      simp only [putPs, Act.put, List.setIfInBounds_toArray, List.set_cons_zero, List.set_cons_succ, List.getElem_toArray, List.getElem_cons_zero, List.getElem_cons_succ]
      obtain ⟨h4, _⟩ := hf
      have e4 : u 4 = .int .i64 9 := h4
      try rw [e4]
      clear h4 e4
      rw [if_pos (by rfl)]
      intro K hK
      go_simp
      refine (fnum_any 9 4 (by omega) (by omega) _).mono ?_
      rintro e w5 ⟨rfl, hr5, hb5⟩
      exact hK.out _ _ _ (by first | rfl | simp only [Act.put, List.setIfInBounds_toArray, List.set_cons_zero, List.set_cons_succ]) ⟨_, _, rfl, numL_len _ _, by omega, by omega, row_rd hr5⟩ hb5
    · refine does_mk [] rfl (by kernel_rfl) (fun u wi hR hf => ?_)
      simp only [putPs, Act.put, List.setIfInBounds_toArray, List.set_cons_zero, List.set_cons_succ, List.getElem_toArray, List.getElem_cons_zero, List.getElem_cons_succ]
      rw [if_pos (by rfl)]
      intro K hK
      go_simp
      exact hK.out _ _ _ (by first | rfl | simp only [Act.put, List.setIfInBounds_toArray, List.set_cons_zero, List.set_cons_succ]) rfl (Grows.refl _)
    · refine does_mk [(6, some 27)] rfl (by kernel_rfl) (fun u wi hR hf => ?_)
      simp only [putPs, Act.put, List.setIfInBounds_toArray, List.set_cons_zero, List.set_cons_succ, List.getElem_toArray, List.getElem_cons_zero, List.getElem_cons_succ]
      obtain ⟨h6, _⟩ := hf
      have e6 : u 6 = .pointer (some ⟨gc, 0, none⟩) := h6
      try rw [e6]
      clear h6 e6
      rw [if_pos (by rfl)]
      intro K hK
      go_simp
      exact hK.out _ _ _ (by first | rfl | simp only [Act.put, List.setIfInBounds_toArray, List.set_cons_zero, List.set_cons_succ]) rfl (Grows.refl _)
    · refine does_mk [(7, some 28)] rfl (by kernel_rfl) (fun u wi hR hf => ?_)
      simp only [putPs, Act.put, List.setIfInBounds_toArray, List.set_cons_zero, List.set_cons_succ, List.getElem_toArray, List.getElem_cons_zero, List.getElem_cons_succ]
      obtain ⟨h7, _⟩ := hf
      have e7 : u 7 = .pointer (some ⟨gc, 0, none⟩) := h7
      try rw [e7]
      clear h7 e7
      rw [if_pos (by rfl)]
      intro K hK
      go_simp
      exact hK.out _ _ _ (by first | rfl | simp only [Act.put, List.setIfInBounds_toArray, List.set_cons_zero, List.set_cons_succ]) rfl (Grows.refl _)
    · refine does_mk [(8, some 29)] rfl (by kernel_rfl) (fun u wi hR hf => ?_)
      simp only [putPs, Act.put, List.setIfInBounds_toArray, List.set_cons_zero, List.set_cons_succ, List.getElem_toArray, List.getElem_cons_zero, List.getElem_cons_succ]
      obtain ⟨h8, _⟩ := hf
      have e8 : u 8 = .pointer (some ⟨gc, 1, none⟩) := h8
      try rw [e8]
      clear h8 e8
      rw [if_pos (by rfl)]
      intro K hK
      have cT : wi.cell? ⟨gc, 1, none⟩ = some (.slice At 10 ct) := (Below.cell (p := ⟨gc, 1, none⟩) hR HGL.out).trans HCT.out
      go_simp
      exact hK.out _ _ _ (by first | rfl | simp only [Act.put, List.setIfInBounds_toArray, List.set_cons_zero, List.set_cons_succ]) rfl (Grows.refl _)
    · refine does_mk [(9, some 30)] rfl (by kernel_rfl) (fun u wi hR hf => ?_)
      simp only [putPs, Act.put, List.setIfInBounds_toArray, List.set_cons_zero, List.set_cons_succ, List.getElem_toArray, List.getElem_cons_zero, List.getElem_cons_succ]
      obtain ⟨h9, _⟩ := hf
      have e9 : u 9 = .slice At 10 ct := h9
      try rw [e9]
      clear h9 e9
      rw [if_pos (by rfl)]
      intro K hK
      go_simp
      exact hK.out _ _ _ (by first | rfl | simp only [Act.put, List.setIfInBounds_toArray, List.set_cons_zero, List.set_cons_succ]) rfl (Grows.refl _)
    · refine does_mk [(5, some 26), (10, some 31)] rfl (by kernel_rfl) (fun u wi hR hf => ?_)
      simp only [putPs, Act.put, List.setIfInBounds_toArray, List.set_cons_zero, List.set_cons_succ, List.getElem_toArray, List.getElem_cons_zero, List.getElem_cons_succ]
      obtain ⟨h5, h10, _⟩ := hf
      obtain ⟨A5, c5, e5, hl5, hc5, hm5, hr5⟩ := h5
      try rw [e5]
      clear e5
      have e10 : u 10 = .int .i64 10 := h10
      try rw [e10]
      clear h10 e10
      rw [if_pos (by rfl)]
      intro K hK
      go_simp
      refine (fnum_any 10 4 (by omega) (by omega) _).mono ?_
      rintro e w5 ⟨rfl, hr5, hb5⟩
      exact hK.out _ _ _ (by first | rfl | simp only [Act.put, List.setIfInBounds_toArray, List.set_cons_zero, List.set_cons_succ]) ⟨_, _, rfl, numL_len _ _, by omega, by omega, row_rd hr5⟩ hb5
    · refine does_mk [] rfl (by kernel_rfl) (fun u wi hR hf => ?_)
      simp only [putPs, Act.put, List.setIfInBounds_toArray, List.set_cons_zero, List.set_cons_succ, List.getElem_toArray, List.getElem_cons_zero, List.getElem_cons_succ]
      rw [if_pos (by rfl)]
      intro K hK
      go_simp
      exact hK.out _ _ _ (by first | rfl | simp only [Act.put, List.setIfInBounds_toArray, List.set_cons_zero, List.set_cons_succ]) rfl (Grows.refl _)
    · refine does_mk [(12, some 33)] rfl (by kernel_rfl) (fun u wi hR hf => ?_)
      simp only [putPs, Act.put, List.setIfInBounds_toArray, List.set_cons_zero, List.set_cons_succ, List.getElem_toArray, List.getElem_cons_zero, List.getElem_cons_succ]
      obtain ⟨h12, _⟩ := hf
      have e12 : u 12 = .pointer (some ⟨gc, 0, none⟩) := h12
      try rw [e12]
      clear h12 e12
      rw [if_pos (by rfl)]
      intro K hK
      go_simp
      exact hK.out _ _ _ (by first | rfl | simp only [Act.put, List.setIfInBounds_toArray, List.set_cons_zero, List.set_cons_succ]) rfl (Grows.refl _)
    · refine does_mk [(13, some 34)] rfl (by kernel_rfl) (fun u wi hR hf => ?_)
      simp only [putPs, Act.put, List.setIfInBounds_toArray, List.set_cons_zero, List.set_cons_succ, List.getElem_toArray, List.getElem_cons_zero, List.getElem_cons_succ]
      obtain ⟨h13, _⟩ := hf
      have e13 : u 13 = .pointer (some ⟨gc, 0, none⟩) := h13
      try rw [e13]
      clear h13 e13
      rw [if_pos (by rfl)]
      intro K hK
      go_simp
      exact hK.out _ _ _ (by first | rfl | simp only [Act.put, List.setIfInBounds_toArray, List.set_cons_zero, List.set_cons_succ]) rfl (Grows.refl _)
    · refine does_mk [(14, some 35)] rfl (by kernel_rfl) (fun u wi hR hf => ?_)
      simp only [putPs, Act.put, List.setIfInBounds_toArray, List.set_cons_zero, List.set_cons_succ, List.getElem_toArray, List.getElem_cons_zero, List.getElem_cons_succ]
      obtain ⟨h14, _⟩ := hf
      have e14 : u 14 = .pointer (some ⟨gc, 1, none⟩) := h14
      try rw [e14]
      clear h14 e14
      rw [if_pos (by rfl)]
      intro K hK
      have cT : wi.cell? ⟨gc, 1, none⟩ = some (.slice At 10 ct) := (Below.cell (p := ⟨gc, 1, none⟩) hR HGL.out).trans HCT.out
      go_simp
      exact hK.out _ _ _ (by first | rfl | simp only [Act.put, List.setIfInBounds_toArray, List.set_cons_zero, List.set_cons_succ]) rfl (Grows.refl _)
    · refine does_mk [(3, some 24), (5, some 26), (11, some 32), (15, some 36)] rfl (by kernel_rfl) (fun u wi hR hf => ?_)
      simp only [putPs, Act.put, List.setIfInBounds_toArray, List.set_cons_zero, List.set_cons_succ, List.getElem_toArray, List.getElem_cons_zero, List.getElem_cons_succ]
      obtain ⟨h3, h5, h11, h15, _⟩ := hf
      obtain ⟨A3, c3, e3, hl3, hc3, hm3, hr3⟩ := h3
      try rw [e3]
      clear e3
      obtain ⟨A5, c5, e5, hl5, hc5, hm5, hr5⟩ := h5
      try rw [e5]
      clear e5
      obtain ⟨A11, c11, e11, hl11, hc11, hm11, hr11⟩ := h11
      try rw [e11]
      clear e11
      have e15 : u 15 = .slice At 10 ct := h15
      try rw [e15]
      clear h15 e15
      rw [if_pos (by rfl)]
      intro K hK
      go_simp
      have hrT := (HRT.out.below ((Below.refl _ _).drew.trans hR)).more hR.size
      have hq := parts_new (w := wi) (S := fun k => k < wi.heap.size) (T' := fun k => k < (wi.alloc (.cells (List.map Part.val [(⟨A3, 8, c3, [1, 2, 1, 0, 0, 10, 10, 4]⟩ : Part), ⟨A5, 4, c5, numL 9 4⟩, ⟨A11, 4, c11, numL 10 4⟩, ⟨At, 10, ct, tw⟩]).toArray 22)).heap.size) 22 [(⟨A3, 8, c3, [1, 2, 1, 0, 0, 10, 10, 4]⟩ : Part), ⟨A5, 4, c5, numL 9 4⟩, ⟨A11, 4, c11, numL 10 4⟩, ⟨At, 10, ct, tw⟩] (by
        intro p hp
        simp only [List.mem_cons, List.not_mem_nil, or_false] at hp
        rcases hp with rfl | rfl | rfl | rfl
        · exact ⟨hl3, hc3, hm3, hr3.s (fun _ h => h)⟩
        · exact ⟨hl5, hc5, hm5, hr5.s (fun _ h => h)⟩
        · exact ⟨hl11, hc11, hm11, hr11.s (fun _ h => h)⟩
        · exact ⟨HTL.out, hct, hcm, hrT.s (fun _ h => h)⟩) (fun _ h => h) (by simp) (fun x hx => by simp; omega)
      exact hK.out _ _ _ (by first | rfl | simp only [Act.put, List.setIfInBounds_toArray, List.set_cons_zero, List.set_cons_succ]) ⟨_, _, rfl, rfl, hq⟩ ((Below.refl _ _).alloc (Nat.le_refl _) _)
    · refine does_mk [(11, some 32), (16, some 37)] rfl (by kernel_rfl) (fun u wi hR hf => ?_)
      simp only [putPs, Act.put, List.setIfInBounds_toArray, List.set_cons_zero, List.set_cons_succ, List.getElem_toArray, List.getElem_cons_zero, List.getElem_cons_succ]
      obtain ⟨h11, h16, _⟩ := hf
      obtain ⟨A11, c11, e11, hl11, hc11, hm11, hr11⟩ := h11
      try rw [e11]
      clear e11
      obtain ⟨b16, ps16, e16, hm16, hp16⟩ := h16
      try rw [e16]
      clear e16
      rw [if_pos (by rfl)]
      intro K hK
      go_simp
      refine (join_ls 4 (headP 9 tw) b16 ps16 _ hm16 rfl (by omega) (by omega) hp16 (by rw [headP_len 9 HTL.out]; omega) (headP_lt 9 HTL.out)).mono ?_
      rintro e w6 ⟨g6, rfl, ho6, hb6⟩
      rw [headP_len 9 HTL.out] at ho6 ⊢
      exact hK.out _ _ _ (by first | rfl | simp only [Act.put, List.setIfInBounds_toArray, List.set_cons_zero, List.set_cons_succ]) ⟨_, _, rfl, headP_len _ HTL.out, by omega, by omega, ownb_rd ho6⟩ hb6
    · refine does_mk [(0, some 21), (1, some 22), (2, some 23), (3, some 24), (4, some 25), (5, some 26), (6, some 27), (7, some 28), (8, some 29), (9, some 30), (10, some 31), (11, some 32), (12, some 33), (13, some 34), (14, some 35), (15, some 36), (16, some 37), (17, some 38)] rfl (by kernel_rfl) (fun u wi hR hf => ?_)
      simp only [putPs, Act.put, List.setIfInBounds_toArray, List.set_cons_zero, List.set_cons_succ, List.getElem_toArray, List.getElem_cons_zero, List.getElem_cons_succ]
      obtain ⟨h0, h1, h2, h3, h4, h5, h6, h7, h8, h9, h10, h11, h12, h13, h14, h15, h16, h17, _⟩ := hf
      have e0 : u 0 = .int .i64 9 := h0
      try rw [e0]
      clear h0 e0
      have e1 : u 1 = .int .i64 4 := h1
      try rw [e1]
      clear h1 e1
      have e2 : u 2 = .int .u8 4 := h2
      try rw [e2]
      clear h2 e2
      obtain ⟨A3, c3, e3, hl3, hc3, hm3, hr3⟩ := h3
      try rw [e3]
      clear e3
      have e4 : u 4 = .int .i64 9 := h4
      try rw [e4]
      clear h4 e4
      obtain ⟨A5, c5, e5, hl5, hc5, hm5, hr5⟩ := h5
      try rw [e5]
      clear e5
      have e6 : u 6 = .pointer (some ⟨gc, 0, none⟩) := h6
      try rw [e6]
      clear h6 e6
      have e7 : u 7 = .pointer (some ⟨gc, 0, none⟩) := h7
      try rw [e7]
      clear h7 e7
      have e8 : u 8 = .pointer (some ⟨gc, 1, none⟩) := h8
      try rw [e8]
      clear h8 e8
      have e9 : u 9 = .slice At 10 ct := h9
      try rw [e9]
      clear h9 e9
      have e10 : u 10 = .int .i64 10 := h10
      try rw [e10]
      clear h10 e10
      obtain ⟨A11, c11, e11, hl11, hc11, hm11, hr11⟩ := h11
      try rw [e11]
      clear e11
      have e12 : u 12 = .pointer (some ⟨gc, 0, none⟩) := h12
      try rw [e12]
      clear h12 e12
      have e13 : u 13 = .pointer (some ⟨gc, 0, none⟩) := h13
      try rw [e13]
      clear h13 e13
      have e14 : u 14 = .pointer (some ⟨gc, 1, none⟩) := h14
      try rw [e14]
      clear h14 e14
      have e15 : u 15 = .slice At 10 ct := h15
      try rw [e15]
      clear h15 e15
      obtain ⟨b16, ps16, e16, hm16, hp16⟩ := h16
      try rw [e16]
      clear e16
      obtain ⟨A17, c17, e17, hl17, hc17, hm17, hr17⟩ := h17
      try rw [e17]
      clear e17
      rw [if_pos (by rfl)]
      intro K hK
      go_simp
      exact hK.out _ _ _ (by first | rfl | simp only [Act.put, List.setIfInBounds_toArray, List.set_cons_zero, List.set_cons_succ]) ⟨_, _, rfl, hl17, hc17, hm17, hr17⟩ (Grows.refl _)
  · intro u wi hR hf
    simp only [putPs, Act.put, List.setIfInBounds_toArray, List.set_cons_zero, List.set_cons_succ, List.getElem_toArray, List.getElem_cons_zero, List.getElem_cons_succ]
    obtain ⟨h0, h1, h2, h3, h4, h5, h6, h7, h8, h9, h10, h11, h12, h13, h14, h15, h16, h17, h18, _⟩ := hf
    have e0 : u 0 = .int .i64 9 := h0
    try rw [e0]
    clear h0 e0
    have e1 : u 1 = .int .i64 4 := h1
    try rw [e1]
    clear h1 e1
    have e2 : u 2 = .int .u8 4 := h2
    try rw [e2]
    clear h2 e2
    obtain ⟨A3, c3, e3, hl3, hc3, hm3, hr3⟩ := h3
    try rw [e3]
    clear e3
    have e4 : u 4 = .int .i64 9 := h4
    try rw [e4]
    clear h4 e4
    obtain ⟨A5, c5, e5, hl5, hc5, hm5, hr5⟩ := h5
    try rw [e5]
    clear e5
    have e6 : u 6 = .pointer (some ⟨gc, 0, none⟩) := h6
    try rw [e6]
    clear h6 e6
    have e7 : u 7 = .pointer (some ⟨gc, 0, none⟩) := h7
    try rw [e7]
    clear h7 e7
    have e8 : u 8 = .pointer (some ⟨gc, 1, none⟩) := h8
    try rw [e8]
    clear h8 e8
    have e9 : u 9 = .slice At 10 ct := h9
    try rw [e9]
    clear h9 e9
    have e10 : u 10 = .int .i64 10 := h10
    try rw [e10]
    clear h10 e10
    obtain ⟨A11, c11, e11, hl11, hc11, hm11, hr11⟩ := h11
    try rw [e11]
    clear e11
    have e12 : u 12 = .pointer (some ⟨gc, 0, none⟩) := h12
    try rw [e12]
    clear h12 e12
    have e13 : u 13 = .pointer (some ⟨gc, 0, none⟩) := h13
    try rw [e13]
    clear h13 e13
    have e14 : u 14 = .pointer (some ⟨gc, 1, none⟩) := h14
    try rw [e14]
    clear h14 e14
    have e15 : u 15 = .slice At 10 ct := h15
    try rw [e15]
    clear h15 e15
    obtain ⟨b16, ps16, e16, hm16, hp16⟩ := h16
    try rw [e16]
    clear e16
    obtain ⟨A17, c17, e17, hl17, hc17, hm17, hr17⟩ := h17
    try rw [e17]
    clear e17
    obtain ⟨A18, c18, e18, hl18, hc18, hm18, hr18⟩ := h18
    try rw [e18]
    clear e18
    have hb2 : Below w1.heap.size w1 wi := (Below.refl _ _).drew.trans (hR.mono (by simp))
    have HB2 := Lib.hid hb2
    have HR18 := Lib.hid hr18
    have HL18 := Lib.hid hl18
    have hzi : w1.heap.size ≤ wi.heap.size := hb2.size
    clear hl3 hc3 hm3 hr3 hl5 hc5 hm5 hr5 hl11 hc11 hm11 hr11 hm16 hp16 hl17 hc17 hm17 hr17 hl18 hr18 hb2 hR
    have hrw : IntKind.u8.wrap (r : Int) = (r : Int) := by rw [IntKind.wrap_u8]; omega
    go_wp2_with fail
    refine (fnum_any v 3 (by omega) (by omega) _).mono ?_
    rintro e w3 ⟨rfl, hr3, hb3⟩
    have hbr : bvs [UInt8.ofNat r] = [.int .u8 (r : Int)] := by
      simp only [bvs, bv, List.map_cons, List.map_nil, UInt8.toNat_ofNat']
      rw [Nat.mod_eq_of_lt (by omega)]
    have hrow3 : Row (wi.alloc (.cells #[.int .u8 (r : Int)] 5)) 5 wi.heap.size ([UInt8.ofNat r] ++ []) := by
      rw [List.append_nil]
      have := Row.new wi 5 [UInt8.ofNat r]
      rw [hbr] at this
      exact this
    have ho3 : Own w3 5 wi.heap.size (.slice (some ⟨wi.heap.size, 0, none⟩) 1 1) [UInt8.ofNat r] := Own.below (hrow3.toOwn (Nat.le_refl _) rfl rfl (by omega)) hb3
    have hb03 : Below wi.heap.size wi w3 := ((Below.refl _ _).alloc (Nat.le_refl _) _).trans (hb3.mono (by simp))
    have hz3 := hb03.size
    rw [show (wi.alloc (.cells #[.int .u8 (r : Int)] 5)).heap.size = wi.heap.size + 1 by simp] at hr3
    have HRN := Lib.hid (row_rd hr3)
    have HO3 := Lib.hid ho3
    have HB3 := Lib.hid hb03
    clear hbr hrow3 ho3 hb03 hr3 hb3
    go_wp2_with (first
      | (with_reducible refine at_slot 45 ?_
         refine wpList_append_u8 Go.Proofs.YtkgnnlglabihkaaGreatDoor.u8 rfl (.tmp 41) (.tmp 44) rfl wi.heap.size _ [UInt8.ofNat r] _ 3 3 (numL v 3) w3.heap.size rfl rfl HO3.out HRN.out (numL_len _ _) (by simp) hz3 ?_
         intro v4 w4 ho4 hg4 hat4
         have hb4 : Below wi.heap.size wi w4 := below_grown HB3.out hg4 hz3 HO3.out (Nat.le_refl _)
         have HO4 := Lib.hid ho4
         have HB4 := Lib.hid hb4
         clear hg4 hat4
         obtain ⟨A4, c4, hv4, hr4, hc4⟩ := ho4.form
         have hl4 : ([UInt8.ofNat r] ++ numL v 3).length = 4 := by simp [numL_len]
         rw [hl4] at hv4 hc4
         subst hv4
         obtain ⟨_, _, hcm4⟩ := Sha.own_len ho4
         have HL4 := Lib.hid hl4
         have HR4 := Lib.hid hr4
         clear ho4 hr4 hb4 hl4
         have hB14 := HB2.out.trans (HB4.out.mono hzi)
         have hz4 := hB14.size
         have cT4 : w4.cell? ⟨gc, 1, none⟩ = some (.slice At 10 ct) := (hB14.cell (p := ⟨gc, 1, none⟩) HGL.out).trans HCT.out
         have HB14 := Lib.hid hB14
         clear hB14)
      | (with_reducible refine at_slot 56 ?_
         refine wpList_make_u8 Go.Proofs.YtkgnnlglabihkaaGreatDoor.u8 rfl (.tmp 55) (.tmp 55) rfl .i64 .i64 _ _ 2 2 rfl rfl rfl rfl (by omega) (by omega) ?_))
    have hB5 := HB14.out.alloc hz4 (.cells (bvs (List.replicate 2 0)).toArray 5)
    have hC5 : Ciph (w4.alloc (.cells (bvs (List.replicate 2 0)).toArray 5)) base B gc g key tw := HC1.out.below hB5
    have hR5 := (Row.new w4 5 (List.replicate 2 0)).rd
    have hR4 := (HR4.out.alloc (Nat.le_refl _) (.cells (bvs (List.replicate 2 0)).toArray 5)).more (show w4.heap.size ≤ (w4.alloc (.cells (bvs (List.replicate 2 0)).toArray 5)).heap.size by simp)
    have hR18 := (((HR18.out.below HB4.out).more HB4.out.size).alloc (Nat.le_refl _) (.cells (bvs (List.replicate 2 0)).toArray 5)).more (show w4.heap.size ≤ (w4.alloc (.cells (bvs (List.replicate 2 0)).toArray 5)).heap.size by simp)
    obtain ⟨g5, hg5⟩ : ∃ x, w4.heap.size = x := ⟨_, rfl⟩
    rw [hg5] at hR5
    try rw [hg5]
    rw [show List.replicate 2 (0 : UInt8) = [0, 0] from rfl] at hB5 hC5 hR5 hR4 hR18
    generalize w4.alloc (.cells (bvs [0, 0]).toArray 5) = W5 at *
    have hz5 := hB5.size
    have HB5 := Lib.hid hB5
    have HC5 := Lib.hid hC5
    have HR5 := Lib.hid hR5
    have HR45 := Lib.hid hR4
    have HR185 := Lib.hid hR18
    have hck : W5.cell? ⟨gc, 0, none⟩ = some (.pointer (some ⟨g, 0, none⟩)) := hC5.ck
    clear hB5 hC5 hR5 hR4 hR18
    refine wp_region_held_drew (S := fun w' => w'.cell? ⟨gc, 0, none⟩ = some (.pointer (some ⟨g, 0, none⟩))) (by kernel_rfl) (hck) (fun hHeld => ?_)
    refine wpAnyH_take (i := 0) (v := ?_) rfl (by kernel_rfl) (by kernel_rfl) (by kernel_rfl) (fun _ _ _ h => h) (Or.inl ⟨by kernel_rfl, ?_⟩) (by assumption) ?_
    rotate_left
    · (intro w hSw; (try dsimp only at hSw); go_simp; first | done | with_reducible rfl)
    (try simp only [Act.put, List.setIfInBounds_toArray, List.set_cons_zero, List.set_cons_succ, List.getElem_toArray, List.getElem_cons_zero, List.getElem_cons_succ])
    refine wpAnyH_take (i := 1) (v := ?_) rfl (by kernel_rfl) (by kernel_rfl) (by kernel_rfl) (fun _ _ _ h => h) (Or.inl ⟨by kernel_rfl, ?_⟩) (by assumption) ?_
    rotate_left
    · (intro w hSw; (try dsimp only at hSw); go_simp; first | done | with_reducible rfl)
    (try simp only [Act.put, List.setIfInBounds_toArray, List.set_cons_zero, List.set_cons_succ, List.getElem_toArray, List.getElem_cons_zero, List.getElem_cons_succ])
    refine wpAnyH_take (i := 2) (v := ?_) rfl (by kernel_rfl) (by kernel_rfl) (by kernel_rfl) (fun _ _ _ h => h) (Or.inl ⟨by kernel_rfl, ?_⟩) (by assumption) ?_
    rotate_left
    · (intro w hSw; (try dsimp only at hSw); go_simp; first | done | with_reducible rfl)
    (try simp only [Act.put, List.setIfInBounds_toArray, List.set_cons_zero, List.set_cons_succ, List.getElem_toArray, List.getElem_cons_zero, List.getElem_cons_succ])
    refine wpAnyH_take (i := 3) (v := ?_) rfl (by kernel_rfl) (by kernel_rfl) (by kernel_rfl) (fun _ _ _ h => h) (Or.inl ⟨by kernel_rfl, ?_⟩) (by assumption) ?_
    rotate_left
    · (intro w hSw; (try dsimp only at hSw); go_simp; first | done | with_reducible rfl)
    (try simp only [Act.put, List.setIfInBounds_toArray, List.set_cons_zero, List.set_cons_succ, List.getElem_toArray, List.getElem_cons_zero, List.getElem_cons_succ])
    refine wpAnyH_take (i := 4) (v := ?_) rfl (by kernel_rfl) (by kernel_rfl) (by kernel_rfl) (fun _ _ _ h => h) (Or.inl ⟨by kernel_rfl, ?_⟩) (by assumption) ?_
    rotate_left
    · (intro w hSw; (try dsimp only at hSw); go_simp; first | done | with_reducible rfl)
    (try simp only [Act.put, List.setIfInBounds_toArray, List.set_cons_zero, List.set_cons_succ, List.getElem_toArray, List.getElem_cons_zero, List.getElem_cons_succ])
    refine wpAnyH_take (i := 5) (v := ?_) rfl (by kernel_rfl) (by kernel_rfl) (by kernel_rfl) (fun _ _ _ h => h) (Or.inl ⟨by kernel_rfl, ?_⟩) (by assumption) ?_
    rotate_left
    · (intro w hSw; (try dsimp only at hSw); go_simp; first | done | with_reducible rfl)
    (try simp only [Act.put, List.setIfInBounds_toArray, List.set_cons_zero, List.set_cons_succ, List.getElem_toArray, List.getElem_cons_zero, List.getElem_cons_succ])
    refine wpAnyH_take (i := 6) (v := ?_) rfl (by kernel_rfl) (by kernel_rfl) (by kernel_rfl) (fun _ _ _ h => h) (Or.inl ⟨by kernel_rfl, ?_⟩) (by assumption) ?_
    rotate_left
    · (intro w hSw; (try dsimp only at hSw); go_simp; first | done | with_reducible rfl)
    (try simp only [Act.put, List.setIfInBounds_toArray, List.set_cons_zero, List.set_cons_succ, List.getElem_toArray, List.getElem_cons_zero, List.getElem_cons_succ])
    refine wpAnyH_ready (rs := [7]) (by kernel_rfl) (by simp) ?_
    refine AllReadyH.cons rfl (fun KK hKK => ?_) AllReadyH.nil
    go_simp
    refine hKK.out _ _ ?_ (fun hHeld => ?_)
    · (first | assumption | (exact (World.cell?_alloc_lt W5 _ ⟨gc, 0, none⟩ HC5.out.gl).trans hck))
    clear hKK KK
    (try simp only [Act.put, List.setIfInBounds_toArray, List.set_cons_zero, List.set_cons_succ, List.getElem_toArray, List.getElem_cons_zero, List.getElem_cons_succ])
    refine wpAnyH_ready (rs := [8]) (by kernel_rfl) (by simp) ?_
    refine AllReadyH.cons rfl (fun KK hKK => ?_) AllReadyH.nil
    go_simp
    have hq0 := parts_new (w := W5) (S := fun k => k < W5.heap.size) (T' := fun k => k < (W5.alloc (.cells (List.map Part.val [(⟨A18, 26, c18, (headP 9 tw).flatten⟩ : Part), ⟨some ⟨g5, 0, none⟩, 2, 2, [0, 0]⟩, ⟨A4, 4, c4, tailP 9 r v⟩]).toArray 22)).drew.heap.size) 22 [(⟨A18, 26, c18, (headP 9 tw).flatten⟩ : Part), ⟨some ⟨g5, 0, none⟩, 2, 2, [0, 0]⟩, ⟨A4, 4, c4, tailP 9 r v⟩] (by
      intro p hp
      simp only [List.mem_cons, List.not_mem_nil, or_false] at hp
      rcases hp with rfl | rfl | rfl
      · exact ⟨HL18.out, hc18, hm18, HR185.out.s (fun _ h => h)⟩
      · exact ⟨rfl, Nat.le_refl _, (by omega : (2 : Nat) ≤ 9223372036854775807), HR5.out.s (fun _ h => h)⟩
      · exact ⟨HL4.out, hc4, hcm4, HR45.out.s (fun _ h => h)⟩) (fun _ h => h) (by simp [World.drew]) (fun x hx => by simp [World.drew]; omega)
    have hq : PartsS (W5.alloc (.cells (List.map Part.val [(⟨A18, 26, c18, (headP 9 tw).flatten⟩ : Part), ⟨some ⟨g5, 0, none⟩, 2, 2, [0, 0]⟩, ⟨A4, 4, c4, tailP 9 r v⟩]).toArray 22)).drew (fun k => k < (W5.alloc (.cells (List.map Part.val [(⟨A18, 26, c18, (headP 9 tw).flatten⟩ : Part), ⟨some ⟨g5, 0, none⟩, 2, 2, [0, 0]⟩, ⟨A4, 4, c4, tailP 9 r v⟩]).toArray 22)).drew.heap.size) (some ⟨W5.heap.size, 0, none⟩) [(⟨A18, 26, c18, (headP 9 tw).flatten⟩ : Part), ⟨some ⟨g5, 0, none⟩, 2, 2, [0, 0]⟩, ⟨A4, 4, c4, tailP 9 r v⟩] := ⟨hq0.at_, hq0.part⟩
    clear hq0
    refine (join_ls 3 (maskP 9 r v tw) _ [(⟨A18, 26, c18, (headP 9 tw).flatten⟩ : Part), ⟨some ⟨g5, 0, none⟩, 2, 2, [0, 0]⟩, ⟨A4, 4, c4, tailP 9 r v⟩] _ rfl rfl (by omega) (by omega) hq (by rw [maskP_len 9 r v HTL.out]; omega) (maskP_lt 9 r v HTL.out)).mono ?_
    rintro e w6 ⟨g6, rfl, ho6, hb6⟩
    rw [maskP_len 9 r v HTL.out] at ho6 ⊢
    have hb56 : Below W5.heap.size W5 w6 := ((Below.refl W5.heap.size W5).alloc (Nat.le_refl _) _).drew.trans (hb6.mono (by simp [World.drew]))
    have hg6 := (ho6.lt g6 rfl)
    have HC6 := Lib.hid (HC5.out.below hb56)
    have HO6 := Lib.hid ho6
    have HB56 := Lib.hid hb56
    have hck6 := HC6.out.ck
    have hz6 := hb56.size
    clear hq ho6 hb6 hb56
    go_wp2_with fail
    refine hKK.out _ _ ?_ (fun hHeld => ?_)
    · (exact hck6)
    clear hKK KK
    (try simp only [Act.put, List.setIfInBounds_toArray, List.set_cons_zero, List.set_cons_succ, List.getElem_toArray, List.getElem_cons_zero, List.getElem_cons_succ])
    refine wpAnyH_ready (rs := [9]) (by kernel_rfl) (by simp) ?_
    refine AllReadyH.cons rfl (fun KK hKK => ?_) AllReadyH.nil
    go_simp
    have hrd : RdS w6 (Off w6 B) (some ⟨g6, 0, none⟩) (maskP 9 r v tw).flatten := RdS.elim_off ((ownb_rd HO6.out).s (fun _ h => h)) (fun hb => by
      have h1 := (HC5.out.key.lt _ hb).2
      have h2 := hg6.1
      simp [World.drew] at h2
      omega)
    have hbw : base ≤ w6.heap.size := by have := HBS.out; have := HB1.out.size; omega
    refine (chain_any base B g key _ _ 2 32 32 w6 HC6.out.key hbw (maskP_len 9 r v HTL.out) rfl (by omega) (by omega) hrd).mono ?_
    rintro e w7 ⟨v7, rfl, ho7, hk7⟩
    have hko := HC6.out.key.ok
    have hl7 : (chainL key 2 (maskP 9 r v tw).flatten).length = 16 := cbc_len hko _ _ _ (by simp)
    obtain ⟨A7, c7, hv7, hr7, hc7⟩ := ho7.form
    rw [hl7] at hv7 hc7
    subst hv7
    have HO7 := Lib.hid (HC6.out.out hk7)
    have HR7 := Lib.hid hr7
    have HL7 := Lib.hid hl7
    obtain ⟨B7, hC7, _, _⟩ := HO7.out
    have hck7 := hC7.ck
    clear hrd ho7 hk7 hr7 hl7 hC7
    go_wp2_with fail
    refine hKK.out _ _ ?_ (fun hHeld => ?_)
    · (exact hck7)
    clear hKK KK
    (try simp only [Act.put, List.setIfInBounds_toArray, List.set_cons_zero, List.set_cons_succ, List.getElem_toArray, List.getElem_cons_zero, List.getElem_cons_succ])
    refine wpAnyH_ready (rs := [10]) (by kernel_rfl) (by simp) ?_
    refine AllReadyH.cons rfl (fun KK hKK => ?_) AllReadyH.nil
    go_simp
    refine hKK.out _ _ ?_ (fun hHeld => ?_)
    · (first | assumption | (exact (World.cell?_alloc_lt W5 _ ⟨gc, 0, none⟩ HC5.out.gl).trans hck))
    clear hKK KK
    (try simp only [Act.put, List.setIfInBounds_toArray, List.set_cons_zero, List.set_cons_succ, List.getElem_toArray, List.getElem_cons_zero, List.getElem_cons_succ])
    refine wpAnyH_done (by kernel_rfl) ?_ _
    go_wp2_with fail
    obtain ⟨A8, hsl, hr8⟩ := arg_to (k := 8) HR7.out HL7.out (by omega) hc7
    have hsl8 : ∀ w' : World, (Instr.slice 22 (.slice A7 16 c7) none (some (.int .i64 8)) none).run Tryz.prog w' = .ok (.slice A8 8 c7) w' := hsl
    have HR8 := Lib.hid hr8
    have hw8 : IntKind.i64.wrap (4 + bits BinOp.andNot IntKind.i64 (IntKind.i64.wrap 6) 3) = 8 := by decide
    have hhp := Lib.hid (halfN_pos (n := 9) (r := r) (by omega) (by omega))
    have HM := Lib.hid (show maskN key tw 9 r v = restN (10 ^ halfN 9 r) ((chainL key 2 (maskP 9 r v tw).flatten).take 8) from rfl)
    clear hsl hr8
    refine wp_region_held_drew (S := fun _ => True) (by kernel_rfl) (trivial) (fun hHeld => ?_)
    refine wpAnyH_take (i := 0) (v := ?_) rfl (by kernel_rfl) (by kernel_rfl) (by kernel_rfl) (fun _ _ _ h => h) (Or.inl ⟨by kernel_rfl, ?_⟩) (by assumption) ?_
    rotate_left
    · (intro w hSw; (try dsimp only at hSw); go_simp; first | done | with_reducible rfl)
    (try simp only [Act.put, List.setIfInBounds_toArray, List.set_cons_zero, List.set_cons_succ, List.getElem_toArray, List.getElem_cons_zero, List.getElem_cons_succ])
    refine wpAnyH_take (i := 1) (v := ?_) rfl (by kernel_rfl) (by kernel_rfl) (by kernel_rfl) (fun _ _ _ h => h) (Or.inl ⟨by kernel_rfl, ?_⟩) (by assumption) ?_
    rotate_left
    · (intro w hSw; (try dsimp only at hSw); go_simp; first | done | with_reducible rfl)
    (try simp only [Act.put, List.setIfInBounds_toArray, List.set_cons_zero, List.set_cons_succ, List.getElem_toArray, List.getElem_cons_zero, List.getElem_cons_succ])
    refine wpAnyH_take (i := 2) (v := ?_) rfl (by kernel_rfl) (by kernel_rfl) (by kernel_rfl) (fun _ _ _ h => h) (Or.inl ⟨by kernel_rfl, ?_⟩) (by assumption) ?_
    rotate_left
    · (intro w hSw; (try dsimp only at hSw); go_simp; first | done | with_reducible rfl)
    (try simp only [Act.put, List.setIfInBounds_toArray, List.set_cons_zero, List.set_cons_succ, List.getElem_toArray, List.getElem_cons_zero, List.getElem_cons_succ])
    refine wpAnyH_take (i := 3) (v := ?_) rfl (by kernel_rfl) (by kernel_rfl) (by kernel_rfl) (fun _ _ _ h => h) (Or.inl ⟨by kernel_rfl, ?_⟩) (by assumption) ?_
    rotate_left
    · (intro w hSw; (try dsimp only at hSw); go_simp; first | done | with_reducible rfl)
    (try simp only [Act.put, List.setIfInBounds_toArray, List.set_cons_zero, List.set_cons_succ, List.getElem_toArray, List.getElem_cons_zero, List.getElem_cons_succ])
    refine wpAnyH_take (i := 4) (v := ?_) rfl (by kernel_rfl) (by kernel_rfl) (by kernel_rfl) (fun _ _ _ h => h) (Or.inl ⟨by kernel_rfl, ?_⟩) (by assumption) ?_
    rotate_left
    · (intro w hSw; (try dsimp only at hSw); go_simp; first | done | with_reducible rfl)
    (try simp only [Act.put, List.setIfInBounds_toArray, List.set_cons_zero, List.set_cons_succ, List.getElem_toArray, List.getElem_cons_zero, List.getElem_cons_succ])
    refine wpAnyH_take (i := 5) (v := ?_) rfl (by kernel_rfl) (by kernel_rfl) (by kernel_rfl) (fun _ _ _ h => h) (Or.inl ⟨by kernel_rfl, ?_⟩) (by assumption) ?_
    rotate_left
    · (intro w hSw; (try dsimp only at hSw); go_simp; first | done | with_reducible rfl)
    (try simp only [Act.put, List.setIfInBounds_toArray, List.set_cons_zero, List.set_cons_succ, List.getElem_toArray, List.getElem_cons_zero, List.getElem_cons_succ])
    refine wpAnyH_take (i := 6) (v := ?_) rfl (by kernel_rfl) (by kernel_rfl) (by kernel_rfl) (fun _ _ _ h => h) (Or.inl ⟨by kernel_rfl, ?_⟩) (by assumption) ?_
    rotate_left
    · (intro w hSw; (try dsimp only at hSw); go_simp; first | done | with_reducible rfl)
    (try simp only [Act.put, List.setIfInBounds_toArray, List.set_cons_zero, List.set_cons_succ, List.getElem_toArray, List.getElem_cons_zero, List.getElem_cons_succ])
    refine wpAnyH_take (i := 7) (v := ?_) rfl (by kernel_rfl) (by kernel_rfl) (by kernel_rfl) (fun _ _ _ h => h) (Or.inl ⟨by kernel_rfl, ?_⟩) (by assumption) ?_
    rotate_left
    · (intro w hSw; (try dsimp only at hSw); go_simp; first | done | with_reducible rfl)
    (try simp only [Act.put, List.setIfInBounds_toArray, List.set_cons_zero, List.set_cons_succ, List.getElem_toArray, List.getElem_cons_zero, List.getElem_cons_succ])
    refine wpAnyH_ready (rs := [8]) (by kernel_rfl) (by simp) ?_
    refine AllReadyH.cons rfl (fun KK hKK => ?_) AllReadyH.nil
    go_simp
    refine (half_any 9 r (by omega) (by omega) _).mono ?_
    rintro e w8 ⟨rfl, rfl⟩
    go_wp2_with fail
    refine hKK.out _ _ ?_ (fun hHeld => ?_)
    · (trivial)
    clear hKK KK
    (try simp only [Act.put, List.setIfInBounds_toArray, List.set_cons_zero, List.set_cons_succ, List.getElem_toArray, List.getElem_cons_zero, List.getElem_cons_succ])
    refine wpAnyH_ready (rs := [9]) (by kernel_rfl) (by simp) ?_
    refine AllReadyH.cons rfl (fun KK hKK => ?_) AllReadyH.nil
    go_simp
    refine (rest_any w7.drew A8 8 c7 _ (halfN 9 r) (by rw [List.length_take, HL7.out]; rfl) (by omega) HR8.out hhp.out.1 (by have := hhp.out.2; omega)).mono ?_
    rintro e w9 ⟨rfl, hb9⟩
    rw [← HM.out]
    have HB9 := Lib.hid (show Below w7.heap.size w7 w9 from (Below.refl _ _).drew.trans hb9)
    clear hb9
    go_wp2_with fail
    refine hKK.out _ _ ?_ (fun hHeld => ?_)
    · (trivial)
    clear hKK KK
    (try simp only [Act.put, List.setIfInBounds_toArray, List.set_cons_zero, List.set_cons_succ, List.getElem_toArray, List.getElem_cons_zero, List.getElem_cons_succ])
    refine wpAnyH_take (i := 10) (v := ?_) rfl (by kernel_rfl) (by kernel_rfl) (by kernel_rfl) (fun _ _ _ h => h) (Or.inl ⟨by kernel_rfl, ?_⟩) (by assumption) ?_
    rotate_left
    · (intro w hSw; (try dsimp only at hSw); go_simp; first | done | with_reducible rfl)
    (try simp only [Act.put, List.setIfInBounds_toArray, List.set_cons_zero, List.set_cons_succ, List.getElem_toArray, List.getElem_cons_zero, List.getElem_cons_succ])
    refine wpAnyH_take (i := 11) (v := ?_) rfl (by kernel_rfl) (by kernel_rfl) (by kernel_rfl) (fun _ _ _ h => h) (Or.inl ⟨by kernel_rfl, ?_⟩) (by assumption) ?_
    rotate_left
    · (intro w hSw; (try dsimp only at hSw); go_simp; first | done | with_reducible rfl)
    (try simp only [Act.put, List.setIfInBounds_toArray, List.set_cons_zero, List.set_cons_succ, List.getElem_toArray, List.getElem_cons_zero, List.getElem_cons_succ])
    refine wpAnyH_take (i := 12) (v := ?_) rfl (by kernel_rfl) (by kernel_rfl) (by kernel_rfl) (fun _ _ _ h => h) (Or.inl ⟨by kernel_rfl, ?_⟩) (by assumption) ?_
    rotate_left
    · (intro w hSw; (try dsimp only at hSw); go_simp; first | done | with_reducible rfl)
    (try simp only [Act.put, List.setIfInBounds_toArray, List.set_cons_zero, List.set_cons_succ, List.getElem_toArray, List.getElem_cons_zero, List.getElem_cons_succ])
    refine wpAnyH_take (i := 13) (v := ?_) rfl (by kernel_rfl) (by kernel_rfl) (by kernel_rfl) (fun _ _ _ h => h) (Or.inl ⟨by kernel_rfl, ?_⟩) (by assumption) ?_
    rotate_left
    · (intro w hSw; (try dsimp only at hSw); go_simp; first | done | with_reducible rfl)
    (try simp only [Act.put, List.setIfInBounds_toArray, List.set_cons_zero, List.set_cons_succ, List.getElem_toArray, List.getElem_cons_zero, List.getElem_cons_succ])
    refine wpAnyH_take (i := 14) (v := ?_) rfl (by kernel_rfl) (by kernel_rfl) (by kernel_rfl) (fun _ _ _ h => h) (Or.inl ⟨by kernel_rfl, ?_⟩) (by assumption) ?_
    rotate_left
    · (intro w hSw; (try dsimp only at hSw); go_simp; first | done | with_reducible rfl)
    (try simp only [Act.put, List.setIfInBounds_toArray, List.set_cons_zero, List.set_cons_succ, List.getElem_toArray, List.getElem_cons_zero, List.getElem_cons_succ])
    refine wpAnyH_done (by kernel_rfl) ?_ _
    go_wp2
    go_ret
    exact ⟨rfl, COut.ahead (HB1.out.trans ((HB5.out.trans (HB56.out.mono hz5)).mono HB1.out.size)) (fun k hk => (HC.out.key.lt k hk).2) (HO7.out.then HB9.out)⟩
theorem mask_any (base : Nat) (B : Nat → Prop) (gc g : Nat) (key tw : List UInt8) (n r v : Nat) (h6 : 6 ≤ n) (h9 : n ≤ 9) (hr : r < 10) (hv : v < 1000000) (w : World) (h : Ciph w base B gc g key tw) (hbase : base ≤ w.heap.size) :
    Calls Tryz.prog 32 #[.pointer (some ⟨gc, 0, none⟩), .int .i64 (n : Int), .int .i64 (r : Int), .int .i64 (v : Int)] w fun e w' => e = .returned (.int .i64 (maskN key tw n r v : Int)) ∧ COut w w' base B gc g key tw := by
  have : n = 6 ∨ n = 7 ∨ n = 8 ∨ n = 9 := by omega
  rcases this with rfl | rfl | rfl | rfl
  · exact mask6 base B gc g key tw r v hr hv w h hbase
  · exact mask7 base B gc g key tw r v hr hv w h hbase
  · exact mask8 base B gc g key tw r v hr hv w h hbase
  · exact mask9 base B gc g key tw r v hr hv w h hbase
end Go.Proofs.YtkgnnlglabihkaaGreatDoor.Top
