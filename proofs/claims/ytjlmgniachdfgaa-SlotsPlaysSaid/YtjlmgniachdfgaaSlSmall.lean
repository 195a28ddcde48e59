/- The small case of this layer's statements. -/
import Derived.Test.YtjlmgniachdfgaaSlPut
import Derived.Lib.SlBytesConst
namespace Go.Proofs.Ytjlmgniachdfgaa.Slots
open Go Go.ChangeShapes Go.WideShapes Go.ChangeAt Go.RowKit
set_option linter.unusedVariables false
set_option linter.unusedSimpArgs false

theorem Sl.rest {w w' : World} {base g n K B : Nat} {tag : Tags} {q : Qs} (h : Sl w base tag g n K q) (hF : Frame (Rest w tag) w w') (hB : B ≤ base) (hs : base ≤ w.heap.size) : Below B w w' :=
  hF.toBelow fun k hk => ⟨by omega, by
    cases ht : tag k with
    | none => rfl
    | some x => have := (h.lt k (by rw [ht]; simp)).1; omega⟩
set_option maxRecDepth 100000 in
set_option maxHeartbeats 2000000 in
theorem small_any (w : World) :
    Calls Try.prog 8 #[] w fun e w' => e = .returned (.bool true) ∧ Below w.heap.size w w' := by
  have kc := fun (w : World) (C : Array Value) (n c : Nat) => Lib.run_convert_bytes_const (P := Try.prog) w 28 5 C n c Try.underlying28 Try.underlying5
  go_enter Try.func8, Try.ntmps8
  go_wp2_with fail
  refine (new_yes 2 (by omega) (by omega) _).mono ?_
  rintro e w1 ⟨g, tag1, rfl, h1, hb1⟩
  have hz1 := hb1.size
  have H1 := Lib.hid h1
  clear h1
  go_wp2_with fail
  refine (put_any w.heap.size tag1 g 2 0 (fun _ => []) ((2 : Nat) : Int) _ 1 1 [97] _ (w1.heap.size + 1) (by simp) (by omega) (H1.out.below_ ((Below.refl _ _).alloc (Nat.le_refl _) (.cells #[.int .u8 97] 5 (1, 2)))) (by simp; omega) rfl (rd_const (w := w1) 5 [97] (1, 2) rfl)).mono ?_
  rintro e w2 ⟨tag2, rfl, h2, hF2, ht2⟩
  have hb2 : Below w.heap.size w w2 := (hb1.alloc hz1 (.cells #[.int .u8 97] 5 (1, 2))).trans ((H1.out.below_ ((Below.refl _ _).alloc (Nat.le_refl _) (.cells #[.int .u8 97] 5 (1, 2)))).rest hF2 (Nat.le_refl _) (by simp; omega))
  have hz2 := hb2.size
  rw [show putE 2 (fun _ => []) ((2 : Nat) : Int) [97] = 0 from rfl]
  have hq : putQ 2 (fun _ => []) ((2 : Nat) : Int) [97] = upd (fun _ => []) 2 [[97]] := rfl
  rw [hq] at h2
  have H2 := Lib.hid h2
  have HB2 := Lib.hid hb2
  clear h2 hF2 ht2 hq hb2
  go_wp2_with fail
  refine (next_none w.heap.size tag2 g 2 0 _ _ (by omega) (by omega) (by omega) H2.out rfl).mono ?_
  rintro e w3 ⟨rfl, h3, hsz3, hF3⟩
  have hb3 := HB2.out.trans (H2.out.rest hF3 (Nat.le_refl _) hz2)
  have hz3 := hb3.size
  have H3 := Lib.hid h3
  have HB3 := Lib.hid hb3
  clear h3 hF3 hb3 hsz3
  go_wp2_with fail
  refine (next_some w.heap.size tag2 g 2 1 _ _ (by omega) (by omega) (by omega) H3.out (l := [97]) (rest := []) rfl).mono ?_
  rintro e w4 ⟨v4, tag4, rfl, hv4, _, h4, _, _, hF4⟩
  have hb4 := HB3.out.trans (H3.out.rest hF4 (Nat.le_refl _) hz3)
  obtain ⟨A4, c4, rfl, hR4, _⟩ := hv4.form
  have hs : (convert 28 9 (.slice A4 1 c4)).run Try.prog w4 = .ok (.string ⟨#[97]⟩) w4 := hR4.str Go.Proofs.Ytjlmgniachdfgaa.u8 9 Try.underlying9 c4
  have H4 := Lib.hid h4
  clear h4 hF4 hv4 hR4
  go_wp2_with fail
  refine (slot_any w.heap.size tag4 g 2 2 _ _ H4.out).mono ?_
  rintro e w5 ⟨rfl, rfl⟩
  go_wp2_with fail
  go_ret
  exact ⟨rfl, hb4⟩
end Go.Proofs.Ytjlmgniachdfgaa.Slots
