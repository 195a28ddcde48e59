/- A digest's beginning, its constants, and the copy of a slice: contracts. -/
import Derived.Test.YtkgnnlglabihkaaGreatDoorShaBlock
import Derived.Test.YtkgnnlglabihkaaGreatDoorMemAll
namespace Go.Proofs.YtkgnnlglabihkaaGreatDoor.Sha
open Go Go.ChangeShapes Go.WideShapes Go.ChangeAt Go.RowKit
set_option linter.unusedVariables false
set_option linter.unusedSimpArgs false

theorem kwA_size : (u32s kw).toArray.size = 64 := by rw [List.size_toArray, u32s_length, kw_length]
set_option maxRecDepth 100000 in
set_option maxHeartbeats 1000000 in
theorem words_any (w : World) :
    Calls Tryz.prog 86 #[] w fun e w' => e = .returned (.agg (u32s kw).toArray) ∧ Below w.heap.size w w' := by
  have hi : (Tryz.prog.info? 157).map (·.size) = some (u32s kw).toArray.size := by rw [kwA_size]; kernel_rfl
  have hone : (u32s kw).toArray.all (·.oneCell') = true := by kernel_rfl
  have hz : (Value.agg (u32s kw).toArray) = .agg #[.int .u32 1116352408, .int .u32 1899447441, .int .u32 3049323471, .int .u32 3921009573, .int .u32 961987163, .int .u32 1508970993, .int .u32 2453635748, .int .u32 2870763221, .int .u32 3624381080, .int .u32 310598401, .int .u32 607225278, .int .u32 1426881987, .int .u32 1925078388, .int .u32 2162078206, .int .u32 2614888103, .int .u32 3248222580, .int .u32 3835390401, .int .u32 4022224774, .int .u32 264347078, .int .u32 604807628, .int .u32 770255983, .int .u32 1249150122, .int .u32 1555081692, .int .u32 1996064986, .int .u32 2554220882, .int .u32 2821834349, .int .u32 2952996808, .int .u32 3210313671, .int .u32 3336571891, .int .u32 3584528711, .int .u32 113926993, .int .u32 338241895, .int .u32 666307205, .int .u32 773529912, .int .u32 1294757372, .int .u32 1396182291, .int .u32 1695183700, .int .u32 1986661051, .int .u32 2177026350, .int .u32 2456956037, .int .u32 2730485921, .int .u32 2820302411, .int .u32 3259730800, .int .u32 3345764771, .int .u32 3516065817, .int .u32 3600352804, .int .u32 4094571909, .int .u32 275423344, .int .u32 430227734, .int .u32 506948616, .int .u32 659060556, .int .u32 883997877, .int .u32 958139571, .int .u32 1322822218, .int .u32 1537002063, .int .u32 1747873779, .int .u32 1955562222, .int .u32 2024104815, .int .u32 2227730452, .int .u32 2361852424, .int .u32 2428436474, .int .u32 2756734187, .int .u32 3204031479, .int .u32 3329325298] := rfl
  have hnew := heap_alloc_new w (.cells (u32s (List.replicate 64 0)).toArray 157)
  have HH := Lib.hid hi
  have HO := Lib.hid hone
  have HN := Lib.hid hnew
  clear hi hone hnew hz
  go_enter Tryz.func86, Tryz.ntmps86
  go_wp2_with (refine wpList_store_row rfl 157 (.tmp 0) (.tmp 1) rfl w.heap.size (u32s kw).toArray rfl rfl 157 (u32s (List.replicate 64 0)).toArray HN.out HH.out rfl HO.out ?_)
  refine bodyPost_ret (results_cell_row (p := 0) (ty := 157) rfl _ _ w.heap.size 157 (u32s kw).toArray (0, 0) _ rfl ?_ Tryz.underlying157 rfl HH.out) rfl ⟨rfl, ?_⟩
  · exact setRow_heap _ _ _ _ _ _ HN.out
  · exact below_setRow_ ((Below.refl _ _).alloc (Nat.le_refl _) _) (Nat.le_refl _) _
set_option maxRecDepth 100000 in
set_option maxHeartbeats 1000000 in
theorem start_any (w : World) :
    Calls Tryz.prog 85 #[] w fun e w' => e = .returned (.agg #[.int .u32 1779033703, .int .u32 3144134277, .int .u32 1013904242, .int .u32 2773480762, .int .u32 1359893119, .int .u32 2600822924, .int .u32 528734635, .int .u32 1541459225]) ∧ Below w.heap.size w w' := by
  go_enter Tryz.func85, Tryz.ntmps85
  go_wp2
  exact bodyPost_ret (v := .agg #[.int .u32 1779033703, .int .u32 3144134277, .int .u32 1013904242, .int .u32 2773480762, .int .u32 1359893119, .int .u32 2600822924, .int .u32 528734635, .int .u32 1541459225]) (by simp [results, Tryz.results85, go_sem]) rfl ⟨rfl, (Below.refl _ _).alloc (Nat.le_refl _) _⟩
set_option maxRecDepth 100000 in
set_option maxHeartbeats 1000000 in
theorem sclone_any (A : Option Addr) (n c : Nat) (l : List UInt8) (w : World) (B : Nat) (hB : B ≤ w.heap.size) (hn : l.length = n) (hm : n ≤ 140737488355328) (hr : Rd w B A l) :
    Calls Tryz.prog 88 #[.slice A n c] w fun e w' => ∃ v, e = .returned v ∧ Own w' 5 w.heap.size v l ∧ Below w.heap.size w w' := by
  subst hn
  rcases A with _ | ad
  · have hl : l = [] := by
      rcases Nat.eq_zero_or_pos l.length with h0 | h0
      · exact List.eq_nil_of_length_eq_zero h0
      · obtain ⟨_, h', _⟩ := hr h0
        cases h'
    subst hl
    have kn := fun w' : World => Lib.run_eql_slice_nil (P := Tryz.prog) w' 22 5 none 0 c 0 0 Tryz.underlying22
    rw [List.length_nil]
    go_enter Tryz.func88, Tryz.ntmps88
    go_wp2
    go_ret
    exact ⟨_, rfl, Own.nil _ _ _, Below.refl _ _⟩
  · have kn := fun w' : World => Lib.run_eql_slice_nil (P := Tryz.prog) w' 22 5 (some ad) l.length c 0 0 Tryz.underlying22
    have hOe := own_empty 5 (Nat.le_refl w.heap.size)
    have hbe := (Below.refl w.heap.size w).alloc (Nat.le_refl _) (.cells #[] 5)
    have hre := hr.alloc hB (.cells #[] 5)
    have hse := hbe.size
    go_enter Tryz.func88, Tryz.ntmps88
    go_wp2_with (with_reducible refine at_slot 7 ?_
                 refine wpList_append_u8 u8 rfl (.tmp 5) (.tmp 6) rfl w.heap.size _ [] _ l.length c l B rfl rfl hOe hre rfl (by simp; omega) hse ?_
                 intro v2 w2 hO2 hg2 hat2)
    go_ret
    rw [List.nil_append] at hO2
    exact ⟨v2, rfl, hO2, below_grown hbe hg2 hse hOe (Nat.le_refl _)⟩
set_option maxRecDepth 100000 in
theorem new_any (w : World) :
    Calls Tryz.prog 69 #[] w fun e w' => ∃ g, e = .returned (.pointer (some ⟨g, 0, none⟩)) ∧ w.heap.size ≤ g ∧ RowV w' 156 g (u32s hw ++ [.slice none 0 0, .int .i64 0]) ∧ Below w.heap.size w w' := by
  go_enter Tryz.func69, Tryz.ntmps69
  go_wp2_with (go_at_call 85; refine (start_any _).mono ?_; rintro e w1 ⟨rfl, hb1⟩)
  go_ret
  exact ⟨w1.heap.size, rfl, hb1.size, heap_alloc_new w1 _, hb1.alloc hb1.size _⟩
end Go.Proofs.YtkgnnlglabihkaaGreatDoor.Sha
