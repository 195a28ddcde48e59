/- The digest of parts, its constants, and the small case. -/
import Derived.Test.YtoklpohpfoacpaaShaSum
import Derived.Lib.SlBytesConst
namespace Go.Proofs.Ytoklpohpfoacpaa.Sha
open Go Go.ChangeShapes Go.WideShapes Go.ChangeAt Go.RowKit
set_option linter.unusedVariables false
set_option linter.unusedSimpArgs false

set_option maxRecDepth 100000 in
set_option maxHeartbeats 1000000 in
theorem count_any (g base : Nat) (rv : Value) (L : List UInt8) (m N : Nat) (w : World) (hH : Hst w base g rv L m N) :
    Calls Try.prog 19 #[.pointer (some ⟨g, 0, none⟩)] w fun e w' => e = .returned (.int .i64 (N : Int)) ∧ w = w' := by
  have d9 := hH.count
  go_enter Try.func19, Try.ntmps19
  go_wp2
  go_ret
  exact ⟨rfl, rfl⟩
set_option maxRecDepth 100000 in
set_option maxHeartbeats 1000000 in
theorem shasum_any (A : Option Addr) (n c : Nat) (ps : List Part) (w : World) (hps : PartsS w (fun k => k < w.heap.size) A ps) (hn : ps.length = n) (hnm : n ≤ 9223372036854775807) (hsz : (bytesOf ps).length ≤ 35184372088832) :
    Calls Try.prog 12 #[.slice A n c] w fun e w' => ∃ v, e = .returned v ∧ Own w' 5 w.heap.size v (sha (bytesOf ps)) ∧ Below w.heap.size w w' := by
  subst hn
  have HPS := Lib.hid hps
  clear hps
  go_enter Try.func12, Try.ntmps12
  go_wp2_with (first
    | (go_at_call 16
       refine (new_any _).mono ?_
       rintro e w1 ⟨g, rfl, hgb, hr1, hb1⟩
       have hH1 := Lib.hid (Hst.new hr1 hgb)
       have hP1 := Lib.hid ((HPS.out.frame (Frame.of_below hb1 (fun k hk => hk))).mono (T := Far w1 g (.slice none 0 0)) (fun k hk => ⟨Nat.lt_of_lt_of_le hk hb1.size, fun h => by omega, fun h => by cases h⟩))
       clear hr1)
    | (go_at_call 17
       refine (write_any g w.heap.size (.slice none 0 0) [] A ps.length c ps w1 0 hH1.out hP1.out rfl hnm (by simp; omega) (by simp; omega) hb1.size).mono ?_
       rw [List.nil_append, Nat.zero_add]
       rintro e w2 ⟨rv2, rfl, hH2, hnew2, hF2⟩
       have hb2 : Below w.heap.size w w2 := hb1.trans (hF2.toBelow (fun k hk => ⟨Nat.lt_of_lt_of_le hk hb1.size, fun h => by omega, fun h => by cases h⟩))
       have HH2 := Lib.hid hH2
       clear hH2 hnew2 hF2)
    | (go_at_call 18
       refine (hsum_any g w.heap.size rv2 (bytesOf ps) w2 HH2.out hsz).mono ?_
       rintro e w3 ⟨v3, rfl, hO3, hb3⟩
       have hb13 := hb2.trans (hb3.mono hb2.size)
       have HO3 := Lib.hid (hO3.mono hb2.size)
       obtain ⟨A3, c3, rfl, _, _⟩ := hO3.form
       clear hO3 hb3))
  go_ret
  exact ⟨_, rfl, HO3.out, hb13⟩
set_option maxRecDepth 100000 in
set_option maxHeartbeats 1000000 in
theorem shaword_any (i : Int) (hi0 : -9223372036854775808 ≤ i) (hi1 : i ≤ 9223372036854775807) (w : World) :
    Calls Try.prog 20 #[.int .i64 i] w fun e w' => e = .returned (.int .i64 (if i < 0 ∨ 64 ≤ i then 0 else ((kw.getD i.toNat 0 : Nat) : Int))) ∧ Below w.heap.size w w' := by
  have hi : (Try.prog.info? 52).map (·.size) = some (u32s kw).toArray.size := by rw [kwA_size]; kernel_rfl
  have hone : (u32s kw).toArray.all (·.oneCell') = true := by kernel_rfl
  have HI := Lib.hid hi
  have HO := Lib.hid hone
  clear hi hone
  by_cases hout : i < 0 ∨ 64 ≤ i
  · rw [if_pos hout]
    by_cases h0 : i < 0
    all_goals
      have hh : i < 0 ∨ 64 ≤ i := by omega
      clear hout
      first
        | (have h64 : 64 ≤ i := by omega
           clear hh
           go_enter Try.func20, Try.ntmps20
           go_wp2_with (first
             | (go_at_call 31; refine (words_any _).mono ?_; rintro e w1 ⟨rfl, hb1⟩; have HN := Lib.hid (heap_alloc_new w1 (.cells (u32s (List.replicate 64 0)).toArray 52)))
             | (refine wpList_store_row rfl 52 (.tmp 3) (.tmp 4) rfl w1.heap.size (u32s kw).toArray rfl rfl 52 (u32s (List.replicate 64 0)).toArray HN.out HI.out rfl HO.out ?_))
           go_ret
           exact ⟨rfl, below_setRow_ (hb1.alloc hb1.size _) hb1.size _⟩)
        | (clear hh
           go_enter Try.func20, Try.ntmps20
           go_wp2_with (first
             | (go_at_call 31; refine (words_any _).mono ?_; rintro e w1 ⟨rfl, hb1⟩; have HN := Lib.hid (heap_alloc_new w1 (.cells (u32s (List.replicate 64 0)).toArray 52)))
             | (refine wpList_store_row rfl 52 (.tmp 3) (.tmp 4) rfl w1.heap.size (u32s kw).toArray rfl rfl 52 (u32s (List.replicate 64 0)).toArray HN.out HI.out rfl HO.out ?_))
           go_ret
           exact ⟨rfl, below_setRow_ (hb1.alloc hb1.size _) hb1.size _⟩)
  · rw [if_neg hout]
    obtain ⟨k, rfl⟩ := Int.eq_ofNat_of_zero_le (show 0 ≤ i by omega)
    have hk : k < 64 := by omega
    rw [Int.toNat_natCast]
    have hkl := kw_fit.get k
    have hck : (u32s kw)[k]? = some (.int .u32 ((kw.getD k 0 : Nat) : Int)) := u32s_get (by rw [kw_length]; exact hk)
    generalize kw.getD k 0 = z at *
    have HCK := Lib.hid hck
    clear hout hck
    go_enter Try.func20, Try.ntmps20
    go_wp2_with (first
      | (go_at_call 31; refine (words_any _).mono ?_; rintro e w1 ⟨rfl, hb1⟩; have HN := Lib.hid (heap_alloc_new w1 (.cells (u32s (List.replicate 64 0)).toArray 52)))
      | (refine wpList_store_row rfl 52 (.tmp 3) (.tmp 4) rfl w1.heap.size (u32s kw).toArray rfl rfl 52 (u32s (List.replicate 64 0)).toArray HN.out HI.out rfl HO.out ?_
         have hrow : RowV ((w1.alloc (.cells (u32s (List.replicate 64 0)).toArray 52)).setRow w1.heap.size (u32s kw).toArray) 52 w1.heap.size (u32s kw) := setRow_heap _ _ _ _ _ _ HN.out
         have hbb : Below w.heap.size w ((w1.alloc (.cells (u32s (List.replicate 64 0)).toArray 52)).setRow w1.heap.size (u32s kw).toArray) := below_setRow_ (hb1.alloc hb1.size _) hb1.size _
         change wpList _ _ _ _ _ ((w1.alloc (.cells (u32s (List.replicate 64 0)).toArray 52)).setRow w1.heap.size (u32s kw).toArray)
         generalize World.setRow _ _ _ = W at hrow hbb ⊢
         have hc := hrow.cell HCK.out
         clear HN))
    go_ret
    exact ⟨rfl, hbb⟩
set_option maxRecDepth 100000 in
set_option maxHeartbeats 1000000 in
theorem shastart_any (i : Int) (hi0 : -9223372036854775808 ≤ i) (hi1 : i ≤ 9223372036854775807) (w : World) :
    Calls Try.prog 22 #[.int .i64 i] w fun e w' => e = .returned (.int .i64 (if i < 0 ∨ 8 ≤ i then 0 else ((hw.getD i.toNat 0 : Nat) : Int))) ∧ Below w.heap.size w w' := by
  by_cases hout : i < 0 ∨ 8 ≤ i
  · rw [if_pos hout]
    by_cases h0 : i < 0
    · clear hout
      go_enter Try.func22, Try.ntmps22
      go_wp2_with (go_at_call 30; refine (start_any _).mono ?_; rintro e w1 ⟨rfl, hb1⟩)
      go_ret
      exact ⟨rfl, hb1.alloc hb1.size _⟩
    · have h8 : 8 ≤ i := by omega
      clear hout
      go_enter Try.func22, Try.ntmps22
      go_wp2_with (go_at_call 30; refine (start_any _).mono ?_; rintro e w1 ⟨rfl, hb1⟩)
      go_ret
      exact ⟨rfl, hb1.alloc hb1.size _⟩
  · rw [if_neg hout]
    obtain ⟨k, rfl⟩ := Int.eq_ofNat_of_zero_le (show 0 ≤ i by omega)
    have hk : k < 8 := by omega
    rw [Int.toNat_natCast]
    clear hout
    obtain rfl | rfl | rfl | rfl | rfl | rfl | rfl | rfl : k = 0 ∨ k = 1 ∨ k = 2 ∨ k = 3 ∨ k = 4 ∨ k = 5 ∨ k = 6 ∨ k = 7 := by omega
    all_goals
      go_enter Try.func22, Try.ntmps22
      go_wp2_with (go_at_call 30; refine (start_any _).mono ?_; rintro e w1 ⟨rfl, hb1⟩)
      go_ret
      exact ⟨rfl, hb1.alloc hb1.size _⟩
theorem sha_abc : sha [97, 98, 99] = [186, 120, 22, 191, 143, 1, 207, 234, 65, 65, 64, 222, 93, 174, 34, 35, 176, 3, 97, 163, 150, 23, 122, 156, 180, 16, 255, 97, 242, 0, 21, 173] := by decide +kernel
theorem kw_zero : kw.getD 0 0 = 1116352408 := rfl
theorem small_parts (w : World) : PartsS (((w.alloc (.cells #[.int .u8 97] 5 (1, 2))).alloc (.cells #[.int .u8 98, .int .u8 99] 5 (2, 3))).alloc (.cells #[.slice (some ⟨w.heap.size, 0, none⟩) 1 1, .slice (some ⟨w.heap.size + 1, 0, none⟩) 2 2] 22))
    (fun k => k < (((w.alloc (.cells #[.int .u8 97] 5 (1, 2))).alloc (.cells #[.int .u8 98, .int .u8 99] 5 (2, 3))).alloc (.cells #[.slice (some ⟨w.heap.size, 0, none⟩) 1 1, .slice (some ⟨w.heap.size + 1, 0, none⟩) 2 2] 22)).heap.size)
    (some ⟨w.heap.size + 1 + 1, 0, none⟩) [⟨some ⟨w.heap.size, 0, none⟩, 1, 1, [97]⟩, ⟨some ⟨w.heap.size + 1, 0, none⟩, 2, 2, [98, 99]⟩] := by
  have r1 := (rd_const (w := w) 5 [97] (1, 2) (C := #[.int .u8 97]) rfl).alloc (by simp) (.cells #[.int .u8 98, .int .u8 99] 5 (2, 3))
  have r2 := rd_const (w := w.alloc (.cells #[.int .u8 97] 5 (1, 2))) 5 [98, 99] (2, 3) (C := #[.int .u8 98, .int .u8 99]) rfl
  have hs : ((w.alloc (.cells #[.int .u8 97] 5 (1, 2))).alloc (.cells #[.int .u8 98, .int .u8 99] 5 (2, 3))).heap.size = w.heap.size + 1 + 1 := by simp
  have hs1 : (w.alloc (.cells #[.int .u8 97] 5 (1, 2))).heap.size = w.heap.size + 1 := by simp
  have := parts_new (w := (w.alloc (.cells #[.int .u8 97] 5 (1, 2))).alloc (.cells #[.int .u8 98, .int .u8 99] 5 (2, 3))) (S := fun k => k < w.heap.size + 1 + 1) (T' := fun k => k < (((w.alloc (.cells #[.int .u8 97] 5 (1, 2))).alloc (.cells #[.int .u8 98, .int .u8 99] 5 (2, 3))).alloc (.cells #[.slice (some ⟨w.heap.size, 0, none⟩) 1 1, .slice (some ⟨w.heap.size + 1, 0, none⟩) 2 2] 22)).heap.size)
    22 [⟨some ⟨w.heap.size, 0, none⟩, 1, 1, [97]⟩, ⟨some ⟨w.heap.size + 1, 0, none⟩, 2, 2, [98, 99]⟩]
    (by
      intro p hp
      simp only [List.mem_cons, List.not_mem_nil, or_false] at hp
      rcases hp with rfl | rfl
      · exact ⟨rfl, Nat.le_refl _, (by show 1 ≤ 9223372036854775807; omega), r1.s (fun k hk => by show k < _; omega)⟩
      · exact ⟨rfl, Nat.le_refl _, (by show 2 ≤ 9223372036854775807; omega), by rw [hs1] at r2; exact r2.s (fun k hk => by show k < _; omega)⟩)
    (fun k hk => by rw [hs]; exact hk) (by simp) (fun k hk => by simp; omega)
  rw [hs] at this
  exact this
set_option maxRecDepth 100000 in
set_option maxHeartbeats 1000000 in
theorem small_any (w : World) :
    Calls Try.prog 10 #[] w fun e w' => e = .returned (.bool true) ∧ Below w.heap.size w w' := by
  have kc := fun (w : World) (C : Array Value) (n c : Nat) => Lib.run_convert_bytes_const (P := Try.prog) w 22 5 C n c Try.underlying22 Try.underlying5
  have kc2 : ∀ (w : World) (o : Obj) (C : Array Value) (n c : Nat), (convert 22 22 (.slice (some ⟨w.heap.size + 1, 0, none⟩) n c)).run Try.prog ((w.alloc o).alloc (.cells C 5)) = .ok (.slice (some ⟨w.heap.size + 1, 0, none⟩) n c) ((w.alloc o).alloc (.cells C 5 (C.size, C.size + 1))) := fun w o C n c => by
    have := Lib.run_convert_bytes_const (P := Try.prog) (w.alloc o) 22 5 C n c Try.underlying22 Try.underlying5
    simpa using this
  go_enter Try.func10, Try.ntmps10
  have E1 := Lib.hid sha_abc
  have e2 : (if (0 : Int) < 0 ∨ 64 ≤ (0 : Int) then 0 else ((kw.getD (0 : Int).toNat 0 : Nat) : Int)) = 1116352408 := by decide
  have E2 := Lib.hid e2
  clear e2
  go_wp2_with (first
    | (go_at_call 12
       refine (shasum_any _ 2 2 _ _ (small_parts w) rfl (by omega) (by simp [bytesOf])).mono ?_
       rw [show bytesOf [⟨some ⟨w.heap.size, 0, none⟩, 1, 1, [97]⟩, ⟨some ⟨w.heap.size + 1, 0, none⟩, 2, 2, [98, 99]⟩] = [97, 98, 99] from rfl, E1.out]
       rintro e w4 ⟨v4, rfl, hO4, hb4⟩
       obtain ⟨A4, c4, rfl, hR4, _⟩ := hO4.form
       have hs : (convert 22 9 (.slice A4 32 c4)).run Try.prog w4 = .ok (.string ⟨#[186, 120, 22, 191, 143, 1, 207, 234, 65, 65, 64, 222, 93, 174, 34, 35, 176, 3, 97, 163, 150, 23, 122, 156, 180, 16, 255, 97, 242, 0, 21, 173]⟩) w4 := hR4.str u8 9 Try.underlying9 c4
       have hbw4 : Below w.heap.size w w4 := ((((Below.refl w.heap.size w).alloc (Nat.le_refl _) (.cells #[.int .u8 97] 5 (1, 2))).alloc (by simp) (.cells #[.int .u8 98, .int .u8 99] 5 (2, 3))).alloc (by simp; omega) (.cells #[.slice (some ⟨w.heap.size, 0, none⟩) 1 1, .slice (some ⟨w.heap.size + 1, 0, none⟩) 2 2] 22)).trans (hb4.mono (by simp; omega))
       have hz4 := hbw4.size
       clear hO4 hb4 hR4)
    | (go_at_call 20
       refine (shaword_any 0 (by omega) (by omega) w4).mono ?_
       rw [E2.out]
       rintro e w5 ⟨rfl, hb5⟩
       have hbw5 := hbw4.trans (hb5.mono hz4)
       clear hb5))
  go_ret
  exact ⟨rfl, hbw5⟩
end Go.Proofs.Ytoklpohpfoacpaa.Sha
