/- The small case that each statement of the sums begins with. -/
import Derived.Test.YtndpaehcjaejpaaRefSector
import Derived.Lib.SlBytesConst
namespace Go.Proofs.Ytndpaehcjaejpaa.Crc
open Go Go.ChangeShapes Go.WideShapes Go.ChangeAt Go.RowKit
set_option linter.unusedVariables false

theorem s1 : layE [97] 8 = 0 := by decide +kernel
theorem s2 : (layB [97] 8).length = 8 := by decide +kernel
theorem s3 : takeE (layB [97] 8) = 0 := by decide +kernel
theorem s4 : takeB (layB [97] 8) = [97, 0, 0, 0] := by decide +kernel
theorem s5 : crc [49, 50, 51, 52, 53, 54, 55, 56, 57] = 3421780262 := by decide +kernel

theorem small_parts (w : World) : Parts (((w.alloc (.cells #[.int .u8 49, .int .u8 50] 5 (2, 3))).alloc (.cells #[.int .u8 51, .int .u8 52, .int .u8 53, .int .u8 54, .int .u8 55, .int .u8 56, .int .u8 57] 5 (7, 8))).alloc (.cells #[.slice (some ⟨w.heap.size, 0, none⟩) 2 2, .slice none 0 0, .slice (some ⟨w.heap.size + 1, 0, none⟩) 7 7] 22)) (w.heap.size + 1 + 1 + 1) (some ⟨w.heap.size + 1 + 1, 0, none⟩)
    [⟨some ⟨w.heap.size, 0, none⟩, 2, 2, [49, 50]⟩, ⟨none, 0, 0, []⟩, ⟨some ⟨w.heap.size + 1, 0, none⟩, 7, 7, [51, 52, 53, 54, 55, 56, 57]⟩] := by
  have r12 := rd_const (w := w) 5 [49, 50] (2, 3) (C := #[.int .u8 49, .int .u8 50]) rfl
  have r39 := rd_const (w := w.alloc (.cells #[.int .u8 49, .int .u8 50] 5 (2, 3))) 5 [51, 52, 53, 54, 55, 56, 57] (7, 8) (C := #[.int .u8 51, .int .u8 52, .int .u8 53, .int .u8 54, .int .u8 55, .int .u8 56, .int .u8 57]) rfl
  have := parts_new 22 [⟨some ⟨w.heap.size, 0, none⟩, 2, 2, [49, 50]⟩, ⟨none, 0, 0, []⟩, ⟨some ⟨w.heap.size + 1, 0, none⟩, 7, 7, [51, 52, 53, 54, 55, 56, 57]⟩] (w := (w.alloc (.cells #[.int .u8 49, .int .u8 50] 5 (2, 3))).alloc (.cells #[.int .u8 51, .int .u8 52, .int .u8 53, .int .u8 54, .int .u8 55, .int .u8 56, .int .u8 57] 5 (7, 8))) (Nat.le_refl _) (by
    intro p hp
    simp only [List.mem_cons, List.not_mem_nil, or_false] at hp
    rcases hp with rfl | rfl | rfl
    · exact ⟨rfl, (by show 2 ≤ 9223372036854775807; omega), (r12.alloc (by simp) _).more (by simp)⟩
    · exact ⟨rfl, (by show 0 ≤ 9223372036854775807; omega), Rd.nil _ _ _⟩
    · refine ⟨rfl, (by show 7 ≤ 9223372036854775807; omega), ?_⟩
      have := r39.more (B' := ((w.alloc (.cells #[.int .u8 49, .int .u8 50] 5 (2, 3))).alloc (.cells #[.int .u8 51, .int .u8 52, .int .u8 53, .int .u8 54, .int .u8 55, .int .u8 56, .int .u8 57] 5 (7, 8))).heap.size) (by simp)
      simpa using this)
  simpa [Part.val] using this
set_option maxRecDepth 100000 in
set_option maxHeartbeats 800000 in
theorem small_any (w : World) :
    Calls Try.prog 9 #[] w fun e w' => e = .returned (.bool true) ∧ Below w.heap.size w w' := by
  have kc := fun (w : World) (C : Array Value) (n c : Nat) => Lib.run_convert_bytes_const (P := Try.prog) w 22 5 C n c Try.underlying22 Try.underlying5
  have kc2 : ∀ (w : World) (o : Obj) (C : Array Value) (n c : Nat), (convert 22 22 (.slice (some ⟨w.heap.size + 1, 0, none⟩) n c)).run Try.prog ((w.alloc o).alloc (.cells C 5)) = .ok (.slice (some ⟨w.heap.size + 1, 0, none⟩) n c) ((w.alloc o).alloc (.cells C 5 (C.size, C.size + 1))) := fun w o C n c => by
    have := Lib.run_convert_bytes_const (P := Try.prog) (w.alloc o) 22 5 C n c Try.underlying22 Try.underlying5
    simpa using this
  have hR0 : Rd (w.alloc (.cells #[.int .u8 97] 5 (1, 2))) (w.heap.size + 1) (some ⟨w.heap.size, 0, none⟩) [97] := rd_const _ [97] _ rfl
  have hb0 : Below w.heap.size w (w.alloc (.cells #[.int .u8 97] 5 (1, 2))) := (Below.refl _ _).alloc (Nat.le_refl _) _
  have e1 := s1
  have e3 := s3
  have E2 := Lib.hid s2
  have E4 := Lib.hid s4
  have E5 := Lib.hid s5
  go_enter Try.func9, Try.ntmps9
  go_wp2_with (first
    | (go_at_call 14
       refine (lay_any _ 1 1 8 [97] _ (w.heap.size + 1) (by simp) rfl (by omega) hR0 (by omega) (by omega)).mono ?_
       rintro e w1 ⟨v1, rfl, hO1, hb1⟩
       obtain ⟨A1, c1, rfl, hR1, hc1⟩ := hO1.form
       have hbw1 := hb0.trans (hb1.mono hb0.size)
       rw [E2.out] at hc1 ⊢
       rw [e1]
       clear hO1 hb1)
    | (go_at_call 15
       refine (take_any A1 8 c1 (layB [97] 8) _ w1.heap.size (Nat.le_refl _) E2.out hc1 (by omega) hR1).mono ?_
       rintro e w2 ⟨v2, rfl, hO2, hb2⟩
       rw [E4.out] at hO2
       obtain ⟨A2, c2, rfl, hR2, hc2⟩ := hO2.form
       have hbw2 := hbw1.trans (hb2.mono hbw1.size)
       rw [e3]
       have hbw3 := (hbw2.alloc hbw2.size (.cells #[.int .u8 49, .int .u8 50] 5 (2, 3))).alloc (by have := hbw2.size; simp; omega) (.cells #[.int .u8 51, .int .u8 52, .int .u8 53, .int .u8 54, .int .u8 55, .int .u8 56, .int .u8 57] 5 (7, 8))
       have hR3 := (hR2.alloc (Nat.le_refl _) (.cells #[.int .u8 49, .int .u8 50] 5 (2, 3))).alloc (by simp) (.cells #[.int .u8 51, .int .u8 52, .int .u8 53, .int .u8 54, .int .u8 55, .int .u8 56, .int .u8 57] 5 (7, 8))
       clear hO2 hb2 hbw2 hR2)
    | (go_at_call 11
       refine (sum_any _ 3 3 _ _ _ (by simp) rfl (by omega) (small_parts w2)).mono ?_
       have hbo : bytesOf [⟨some ⟨w2.heap.size, 0, none⟩, 2, 2, [49, 50]⟩, ⟨none, 0, 0, []⟩, ⟨some ⟨w2.heap.size + 1, 0, none⟩, 7, 7, [51, 52, 53, 54, 55, 56, 57]⟩] = [49, 50, 51, 52, 53, 54, 55, 56, 57] := rfl
       rw [hbo, E5.out]
       rintro e w4 ⟨rfl, hb4⟩
       have hb5 := ((Below.refl ((w2.alloc (.cells #[.int .u8 49, .int .u8 50] 5 (2, 3))).alloc (.cells #[.int .u8 51, .int .u8 52, .int .u8 53, .int .u8 54, .int .u8 55, .int .u8 56, .int .u8 57] 5 (7, 8))).heap.size _).alloc (Nat.le_refl _) _).trans (hb4.mono (by simp))
       have hbw5 := hbw3.trans (hb5.mono hbw3.size)
       have hR5 := hR3.below (hb5.mono (by simp; omega))
       have hs : (convert 22 9 (.slice A2 4 c2)).run Try.prog w4 = .ok (.string ⟨#[97, 0, 0, 0]⟩) w4 := hR5.str u8 9 Try.underlying9 c2
       clear hb4 hb5 hbw3 hR3 hbo))
  go_ret
  exact ⟨rfl, hbw5⟩
end Go.Proofs.Ytndpaehcjaejpaa.Crc
