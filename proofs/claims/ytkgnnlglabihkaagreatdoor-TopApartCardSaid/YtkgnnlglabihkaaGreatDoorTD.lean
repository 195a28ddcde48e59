/- Digits packed: of Pack its fault alone. Contract. -/
import Derived.Test.YtkgnnlglabihkaaGreatDoorTC
import Derived.BigQuiet
namespace Go.Proofs.YtkgnnlglabihkaaGreatDoor.Top
open Go Go.ChangeShapes Go.WideShapes Go.ChangeAt Go.RowKit Go.Proofs.YtkgnnlglabihkaaGreatDoor.Aes Go.Proofs.YtkgnnlglabihkaaGreatDoor.Str
set_option linter.unusedVariables false
set_option linter.unusedSimpArgs false
/-- a row of bytes, whatever they are -/
def RowI (w : World) (g m : Nat) : Prop := ∃ l : List Int, l.length = m ∧ Aes.RowV w 5 g (l.map (Value.int .u8))
theorem RowI.set {w : World} {g m : Nat} (h : RowI w g m) {j : Nat} (x : Int) : RowI (w.setCell ⟨g, j, none⟩ (.int .u8 x)) g m := by
  obtain ⟨l, h1, h2⟩ := h
  refine ⟨l.set j x, by rw [List.length_set, h1], ?_⟩
  rw [List.map_set]
  exact h2.set j _
theorem RowI.cell {w : World} {g m : Nat} (h : RowI w g m) {j : Nat} (hj : j < m) : ∃ x, w.cell? ⟨g, j, none⟩ = some (.int .u8 x) := by
  obtain ⟨l, h1, h2⟩ := h
  exact ⟨l[j]'(by omega), h2.cell (by simp [show j < l.length by omega])⟩
set_option maxRecDepth 100000 in
set_option maxHeartbeats 2000000 in
theorem pack_any (l : List UInt8) (n : Nat) (hn : l.length = n) (hm : n ≤ 9223372036854775000) (w : World) :
    Calls Tryz.prog 45 #[.string (str l)] w fun e w' => ∃ v, e = .returned (.tuple #[v, .int .i64 (lookE l : Int)]) ∧ Below w.heap.size w w' := by
  have hsz := str_sz hn
  have HN := Lib.hid hn
  have HL := Lib.hid (fun w => look_any l n hn hm w)
  have HIX := Lib.hid (fun i h w => str_index l i h w)
  obtain ⟨E, hE⟩ : ∃ E, lookE l = E := ⟨_, rfl⟩
  rw [hE] at HL ⊢
  have hEn : E = 0 → n ≤ 999 := by
    intro h0
    rw [← hE] at h0
    unfold lookE at h0
    split at h0
    · split at h0
      · cases h0
      · rw [hn] at *; omega
    · cases h0
  clear hE hn
  go_enter Tryz.func45, Tryz.ntmps45
  go_wp2_with fail
  refine (HL.out _).mono ?_
  rintro e w1 ⟨rfl, rfl⟩
  by_cases h0 : E = 0
  · have hn9 := hEn h0
    subst h0
    obtain ⟨m, hm'⟩ : ∃ m, (n + 1) / 2 = m := ⟨_, rfl⟩
    have hmi : ((n : Int) + 1) / 2 = (m : Int) := by omega
    have hmt : ((n : Int) + 1).tdiv 2 = (m : Int) := by rw [Int.tdiv_eq_ediv_of_nonneg (by omega)]; exact hmi
    have hmb : m ≤ 500 := by omega
    have HM := Lib.hid hm'
    have hr0 : RowI (w.alloc (.cells (bvs (List.replicate m 0)).toArray 5)) w.heap.size m := ⟨List.replicate m 0, by simp, by
      have := heap_alloc_new w (.cells (bvs (List.replicate m 0)).toArray 5)
      rw [show (List.replicate m (0 : Int)).map (Value.int .u8) = bvs (List.replicate m 0) by simp [bvs, bv]]
      exact this⟩
    have hb0 : Below w.heap.size w (w.alloc (.cells (bvs (List.replicate m 0)).toArray 5)) := (Below.refl _ _).alloc (Nat.le_refl _) _
    have H0 := Lib.hid (And.intro hr0 hb0)
    clear hr0 hb0 hm' hEn hm
    go_wp2_with (with_reducible refine at_slot 17 ?_
                 refine wpList_make_u8 Go.Proofs.YtkgnnlglabihkaaGreatDoor.u8 rfl (.tmp 16) (.tmp 16) rfl .i64 .i64 _ _ m m rfl rfl rfl rfl (by omega) (by omega) ?_)
    generalize w.alloc (.cells (bvs (List.replicate m 0)).toArray 5) = W0 at *
    clear hmi hmt
    go_loopw [20] (fun iv wr => ∃ k : Nat, k ≤ n ∧ iv = .int .i64 (k : Int) ∧ RowI wr w.heap.size m ∧ Below w.heap.size w wr) (fun iv _ => n - (intOf iv).toNat)
    case atStart => exact ⟨0, by omega, rfl, H0.out.1, H0.out.2⟩
    case round =>
      obtain ⟨k, hk, rfl, hr, hb⟩ := hrel
      clear H0
      by_cases hlt : k < n
      · obtain ⟨q, hq⟩ : ∃ q, n - 1 - k = q := ⟨_, rfl⟩
        obtain ⟨d, hd⟩ : ∃ d, q / 2 = d := ⟨_, rfl⟩
        obtain ⟨j, hj⟩ : ∃ j, m - 1 - d = j := ⟨_, rfl⟩
        obtain ⟨s, hs⟩ : ∃ s, q % 2 = s := ⟨_, rfl⟩
        have hmv := HM.out
        have hqi : (n : Int) - 1 - (k : Int) = (q : Int) := by omega
        have hdi : (q : Int) / 2 = (d : Int) := by omega
        have hdt : (q : Int).tdiv 2 = (d : Int) := by rw [Int.tdiv_eq_ediv_of_nonneg (by omega)]; exact hdi
        have hji : (m : Int) - 1 - (d : Int) = (j : Int) := by omega
        have hsi : (q : Int) % 2 = (s : Int) := by omega
        have hst : (q : Int).tmod 2 = (s : Int) := by rw [Int.tmod_eq_emod_of_nonneg (by omega)]; exact hsi
        have hjm : j < m := by omega
        have hjmi : (j : Int) < (m : Int) := by omega
        have hqb : q ≤ 999 := by omega
        have hdb : d ≤ 500 := by omega
        have hs2 : s ≤ 1 := by omega
        obtain ⟨m1, hm1⟩ : ∃ m1, m - 1 = m1 := ⟨_, rfl⟩
        obtain ⟨t, ht⟩ : ∃ t, s * 4 = t := ⟨_, rfl⟩
        have hw1 : IntKind.i64.wrap ((m : Int) - 1) = (m1 : Int) := by rw [IntKind.wrap_i64]; omega
        have hw2 : IntKind.i64.wrap (d : Int) = (d : Int) := by rw [IntKind.wrap_i64]; omega
        have hw3 : IntKind.i64.wrap ((m1 : Int) - (d : Int)) = (j : Int) := by rw [IntKind.wrap_i64]; omega
        have hw4 : IntKind.i64.wrap ((s : Int) * 4) = (t : Int) := by rw [IntKind.wrap_i64]; omega
        have hw5 : IntKind.i64.wrap (s : Int) = (s : Int) := by rw [IntKind.wrap_i64]; omega
        have ht0 : ¬ ((t : Int) < 0) := by omega
        obtain ⟨x, hx⟩ := hr.cell hjm
        have hf : wr.frozen? ⟨w.heap.size, j, none⟩ = false := by obtain ⟨l', h1, h2⟩ := hr; exact h2.frozen j
        have HR := Lib.hid hr
        have HB := Lib.hid hb
        have hix : ∀ w, (Instr.index 9 (.string (str l)) (.int .i64 (k : Int))).run Tryz.prog w = _ := fun w => HIX.out k (by rw [HN.out]; exact hlt) w
        generalize (l.getD k 0).toNat = c at *
        clear hq hd hj hs hmv hr hb hm1 ht
        go_wp2_with fail
        refine wp_region_still_tail 19 (by kernel_rfl) (by kernel_rfl) ?_
        change wpStill _ _ (World.drew wr) (fun a' => wpList _ _ _ _ a' (World.drew wr)) _ _
        simp only [List.take_succ_cons, List.take_zero, List.drop_succ_cons, List.drop_zero]
        repeat still_step
        refine wpStill_nil ?_
        go_wp2_with fail
        go_roundw
        case rel => exact ⟨k + 1, by omega, by go_num, (RowI.set HR.out _), (HB.out.setCell (p := ⟨w.heap.size, j, none⟩) (Nat.le_refl _) _).drew⟩
        case measure => simp [intOf] <;> omega
      · obtain rfl : k = n := by omega
        have HB := Lib.hid hb
        clear hr hb
        go_wp2_with fail
        go_ret2
        exact ⟨_, rfl, HB.out⟩
  · have h0i : decide ((E : Int) = 0) = false := decide_eq_false (by omega)
    clear hEn
    go_wp2_with fail
    go_ret2
    exact ⟨_, rfl, Below.refl _ _⟩
end Go.Proofs.YtkgnnlglabihkaaGreatDoor.Top

/- Card numbers: cut. Contract. -/
namespace Go.Proofs.YtkgnnlglabihkaaGreatDoor.Top
open Go Go.ChangeShapes Go.WideShapes Go.ChangeAt Go.RowKit Go.Proofs.YtkgnnlglabihkaaGreatDoor.Aes Go.Proofs.YtkgnnlglabihkaaGreatDoor.Str
set_option linter.unusedVariables false
set_option linter.unusedSimpArgs false
def okP (l : List UInt8) : Bool := allD l && decide (16 ≤ l.length) && decide (l.length ≤ 19)
def partsV (a b c : List UInt8) : Value := .agg #[.string (str a), .string (str b), .string (str c)]
def cutP (l : List UInt8) : List UInt8 × List UInt8 × List UInt8 := if okP l then (l.take 6, (l.drop 6).take (l.length - 4 - 6), l.drop (l.length - 4)) else ([], [], [])
set_option maxRecDepth 100000 in
set_option maxHeartbeats 2000000 in
theorem cut_any (l : List UInt8) (n : Nat) (hn : l.length = n) (hm : n ≤ 9223372036854775000) (w : World) :
    Calls Tryz.prog 23 #[.string (str l)] w fun e w' => e = .returned (partsV (cutP l).1 (cutP l).2.1 (cutP l).2.2) ∧ Below w.heap.size w w' := by
  have hsz := str_sz hn
  have HN := Lib.hid hn
  have HP := Lib.hid (fun w => pack_any l n hn hm w)
  have hEn : lookE l = 0 ↔ allD l = true ∧ n ≤ 999 := by
    unfold lookE
    rw [hn]
    by_cases h1 : allD l = true <;> by_cases h2 : 999 < n <;> simp [h1, h2] <;> omega
  have hE0 : cutP l = if lookE l = 0 ∧ 16 ≤ n ∧ n ≤ 19 then (l.take 6, (l.drop 6).take (n - 4 - 6), l.drop (n - 4)) else ([], [], []) := by
    unfold cutP okP
    rw [hn]
    by_cases h1 : allD l = true <;> by_cases h2 : 16 ≤ n <;> by_cases h3 : n ≤ 19 <;> simp [h1, h2, h3, hEn] <;> omega
  have HE := Lib.hid hE0
  clear hE0 hEn
  generalize lookE l = E at *
  clear hn hm
  have hr0 : Aes.RowV (w.alloc (.cells #[.string (str []), .string (str []), .string (str [])] 73)) 73 w.heap.size [.string (str []), .string (str []), .string (str [])] := heap_alloc_new w _
  have hb0 : Below w.heap.size w (w.alloc (.cells #[.string (str []), .string (str []), .string (str [])] 73)) := (Below.refl _ _).alloc (Nat.le_refl _) _
  have H0 := Lib.hid (And.intro hr0 hb0)
  clear hr0 hb0
  go_enter Tryz.func23, Tryz.ntmps23
  go_wp2_with fail
  refine (HP.out _).mono ?_
  rintro e w1 ⟨v, rfl, hb1⟩
  have hr1 : Aes.RowV w1 73 w.heap.size [.string (str []), .string (str []), .string (str [])] := H0.out.1.keep (hb1.block _ (by simp))
  have hb01 : Below w.heap.size w w1 := H0.out.2.trans (hb1.mono (by simp))
  have HR1 := Lib.hid hr1
  have HB1 := Lib.hid hb01
  clear hr1 hb01 hb1 H0
  by_cases hok : E = 0 ∧ 16 ≤ n ∧ n ≤ 19
  · obtain ⟨h0, h16, h19⟩ := hok
    have HC := Lib.hid (show cutP l = (l.take 6, (l.drop 6).take (n - 4 - 6), l.drop (n - 4)) by rw [HE.out, if_pos ⟨h0, h16, h19⟩])
    subst h0
    have d1 : decide ((n : Int) < 16) = false := decide_eq_false (by omega)
    have d2 : decide ((19 : Int) < (n : Int)) = false := decide_eq_false (by omega)
    obtain ⟨k, hk⟩ : ∃ k, n - 4 = k := ⟨_, rfl⟩
    have hki : IntKind.i64.wrap ((n : Int) - 4) = (k : Int) := by rw [IntKind.wrap_i64]; omega
    have hs1 : ∀ w, (Instr.slice 9 (.string (str l)) none (some (.int .i64 6)) none).run Tryz.prog w = .ok (.string (str (l.take 6))) w := str_head l n 6 HN.out (by omega)
    have hs2 : ∀ w, (Instr.slice 9 (.string (str l)) (some (.int .i64 6)) (some (.int .i64 (k : Int))) none).run Tryz.prog w = .ok (.string (str ((l.drop 6).take (k - 6)))) w := str_mid l n 6 k HN.out (by omega) (by omega)
    have hs3 : ∀ w, (Instr.slice 9 (.string (str l)) (some (.int .i64 (k : Int))) none none).run Tryz.prog w = .ok (.string (str (l.drop k))) w := str_tail l n k HN.out (by omega)
    rw [hk] at HC
    clear hk
    go_wp2_with fail
    refine wp_region_still_tail 13 (by kernel_rfl) (by kernel_rfl) ?_
    change wpStill _ _ (World.drew w1) (fun a' => wpList _ _ _ _ a' (World.drew w1)) _ _
    simp only [List.take_succ_cons, List.take_zero, List.drop_succ_cons, List.drop_zero]
    repeat still_step
    refine wpStill_nil ?_
    with_reducible refine at_store 2 ?_
    refine Aes.wpList_store_row rfl _ _ _ rfl w.heap.size _ _ [.string (str (l.take 6)), .string (str ((l.drop 6).take (k - 6))), .string (str (l.drop k))] (HR1.out : Aes.RowV w1.drew 73 w.heap.size _) rfl rfl (by kernel_rfl) rfl (by intro u hu; simp only [List.mem_cons, List.not_mem_nil, or_false] at hu; rcases hu with rfl | rfl | rfl <;> rfl) ?_
    intro w2 hr2 hf2
    have HR2 := Lib.hid hr2
    have HB2 := Lib.hid (HB1.out.trans ((Frame.drew (Frame.refl (fun k => k < w.heap.size) w1)).trans (hf2.mono (fun k hk => by omega)) (fun k hk => hk) |>.toBelow (fun k hk => hk)))
    clear hr2 hf2
    go_wp2_with fail
    refine bodyPost_ret (results_cell_row (p := 2) (ty := 73) rfl _ _ w.heap.size 73 ([Value.string (str (l.take 6)), Value.string (str ((l.drop 6).take (k - 6))), Value.string (str (l.drop k))] : List Value).toArray (0, 0) _ rfl HR2.out Tryz.underlying73 rfl (by kernel_rfl)) rfl ⟨by rw [HC.out]; rfl, HB2.out⟩
  · have HC := Lib.hid (show cutP l = ([], [], []) by rw [HE.out, if_neg hok])
    have hcase : (¬ E = 0) ∨ (E = 0 ∧ n < 16) ∨ (E = 0 ∧ ¬ n < 16 ∧ 19 < n) := by omega
    clear hok
    rcases hcase with h0 | ⟨h0, h1⟩ | ⟨h0, h1, h2⟩
    all_goals
      (try subst h0)
      (try have h0i : decide ((E : Int) = 0) = false := decide_eq_false (by omega))
      (try have h0b : ((E : Int) != 0) = true := by simp; omega)
      (try have d1 : decide ((n : Int) < 16) = true := decide_eq_true (by omega))
      (try have d1 : decide ((n : Int) < 16) = false := decide_eq_false (by omega))
      (try have d2 : decide ((19 : Int) < (n : Int)) = true := decide_eq_true (by omega))
      go_wp2_with (with_reducible refine at_store 2 ?_
                   refine Aes.wpList_store_row rfl _ _ _ rfl w.heap.size _ _ [.string (str []), .string (str []), .string (str [])] HR1.out rfl rfl (by kernel_rfl) rfl (by intro u hu; simp only [List.mem_cons, List.not_mem_nil, or_false] at hu; rcases hu with rfl | rfl | rfl <;> rfl) ?_
                   intro w2 hr2 hf2
                   have HR2 := Lib.hid hr2
                   have HB2 := Lib.hid (HB1.out.trans (hf2.mono (fun k (hk : k < w.heap.size) => by omega) |>.toBelow (fun k hk => hk)))
                   clear hr2 hf2)
      refine bodyPost_ret (results_cell_row (p := 2) (ty := 73) rfl _ _ w.heap.size 73 ([Value.string (str []), Value.string (str []), Value.string (str [])] : List Value).toArray (0, 0) _ rfl HR2.out Tryz.underlying73 rfl (by kernel_rfl)) rfl ⟨by rw [HC.out]; rfl, HB2.out⟩
end Go.Proofs.YtkgnnlglabihkaaGreatDoor.Top

/- Card numbers: shaped. Contract. -/
namespace Go.Proofs.YtkgnnlglabihkaaGreatDoor.Top
open Go Go.ChangeShapes Go.WideShapes Go.ChangeAt Go.RowKit Go.Proofs.YtkgnnlglabihkaaGreatDoor.Aes Go.Proofs.YtkgnnlglabihkaaGreatDoor.Str
set_option linter.unusedVariables false
set_option linter.unusedSimpArgs false
theorem str_bytes (l : List UInt8) : (str l).toList = l := by rw [ByteArray.toList_eq]; simp [str]
set_option maxRecDepth 100000 in
theorem shaped_no (w : World) : Calls Tryz.prog 24 #[partsV [] [] []] w fun e w' => e = .returned (.bool false) ∧ Below w.heap.size w w' := by
  have hb : Below w.heap.size w (w.alloc (.cells #[.string (str []), .string (str []), .string (str [])] 73)) := (Below.refl _ _).alloc (Nat.le_refl _) _
  have hc0 : ∀ i (hi : i < 3), (w.alloc (.cells #[.string (str []), .string (str []), .string (str [])] 73)).cell? ⟨w.heap.size, i, none⟩ = some (.string (str [])) := fun i hi => by
    rw [cell_of_row _ _ i _ 73 (0, 0) (heap_alloc_new w _)]
    rcases (show i = 0 ∨ i = 1 ∨ i = 2 by omega) with rfl | rfl | rfl <;> rfl
  have c0 := hc0 0 (by omega)
  have c1 := hc0 1 (by omega)
  have c2 := hc0 2 (by omega)
  clear hc0
  have HB := Lib.hid hb
  have hA : (str ([] : List UInt8)).toList = [] := str_bytes []
  clear hb
  unfold partsV
  go_enter Tryz.func24, Tryz.ntmps24
  go_wp2_with fail
  go_ret
  first | exact ⟨rfl, HB.out⟩ | rfl
set_option maxRecDepth 100000 in
theorem shaped_yes (a b c : List UInt8) (ha : a ≠ []) (w : World) : Calls Tryz.prog 24 #[partsV a b c] w fun e w' => e = .returned (.bool true) ∧ Below w.heap.size w w' := by
  have hb : Below w.heap.size w (w.alloc (.cells #[.string (str a), .string (str b), .string (str c)] 73)) := (Below.refl _ _).alloc (Nat.le_refl _) _
  have hr := heap_alloc_new w (.cells #[.string (str a), .string (str b), .string (str c)] 73)
  have c0 : (w.alloc (.cells #[.string (str a), .string (str b), .string (str c)] 73)).cell? ⟨w.heap.size, 0, none⟩ = some (.string (str a)) := by rw [cell_of_row _ _ 0 _ 73 (0, 0) hr]; rfl
  have c1 : (w.alloc (.cells #[.string (str a), .string (str b), .string (str c)] 73)).cell? ⟨w.heap.size, 1, none⟩ = some (.string (str b)) := by rw [cell_of_row _ _ 1 _ 73 (0, 0) hr]; rfl
  have c2 : (w.alloc (.cells #[.string (str a), .string (str b), .string (str c)] 73)).cell? ⟨w.heap.size, 2, none⟩ = some (.string (str c)) := by rw [cell_of_row _ _ 2 _ 73 (0, 0) hr]; rfl
  have HB := Lib.hid hb
  have hA : ¬ (str a).toList = [] := by rw [str_bytes]; exact ha
  clear hb hr
  unfold partsV
  go_enter Tryz.func24, Tryz.ntmps24
  go_wp2_with fail
  go_ret
  first | exact ⟨rfl, HB.out⟩ | rfl
end Go.Proofs.YtkgnnlglabihkaaGreatDoor.Top

/- Card numbers: Is, Cut. Contracts. -/
namespace Go.Proofs.YtkgnnlglabihkaaGreatDoor.Top
open Go Go.ChangeShapes Go.WideShapes Go.ChangeAt Go.RowKit Go.Proofs.YtkgnnlglabihkaaGreatDoor.Aes Go.Proofs.YtkgnnlglabihkaaGreatDoor.Str
set_option linter.unusedVariables false
set_option linter.unusedSimpArgs false
theorem okP_iff (l : List UInt8) : okP l = true ↔ allD l = true ∧ 16 ≤ l.length ∧ l.length ≤ 19 := by unfold okP; simp [and_assoc]
theorem shaped_any (l : List UInt8) (w : World) : Calls Tryz.prog 24 #[partsV (cutP l).1 (cutP l).2.1 (cutP l).2.2] w fun e w' => e = .returned (.bool (okP l)) ∧ Below w.heap.size w w' := by
  by_cases h : okP l = true
  · have hc : cutP l = (l.take 6, (l.drop 6).take (l.length - 4 - 6), l.drop (l.length - 4)) := by unfold cutP; rw [if_pos h]
    rw [hc, h]
    refine shaped_yes _ _ _ (fun e => ?_) w
    have := ((okP_iff l).1 h).2.1
    have h6 := congrArg List.length e
    rw [List.length_take, List.length_nil] at h6
    omega
  · have hc : cutP l = ([], [], []) := by unfold cutP; rw [if_neg h]
    rw [hc, Bool.eq_false_iff.2 h]
    exact shaped_no w
def isP (l : List UInt8) : Bool := okP l && validB l
set_option maxRecDepth 100000 in
theorem is_any (l : List UInt8) (n : Nat) (hn : l.length = n) (hm : n ≤ 9223372036854775000) (w : World) :
    Calls Tryz.prog 8 #[.string (str l)] w fun e w' => e = .returned (.bool (isP l)) ∧ Below w.heap.size w w' := by
  have HC := Lib.hid (fun w => cut_any l n hn hm w)
  have HS := Lib.hid (fun w => shaped_any l w)
  have HV := Lib.hid (fun w => valid_any l n hn hm w)
  have HP := Lib.hid (show isP l = (okP l && validB l) from rfl)
  generalize validB l = v at *
  generalize isP l = r at *
  generalize cutP l = c at *
  obtain ⟨b, hb⟩ : ∃ b, okP l = b := ⟨_, rfl⟩
  rw [hb] at HS HP
  clear hb hn hm
  go_enter Tryz.func8, Tryz.ntmps8
  go_wp2_with fail
  refine (HC.out _).mono ?_
  rintro e w1 ⟨rfl, hb1⟩
  have HB1 := Lib.hid hb1
  clear hb1
  unfold partsV
  go_wp2_with fail
  refine (HS.out _).mono ?_
  rintro e w2 ⟨rfl, hb2⟩
  have HB2 := Lib.hid (HB1.out.trans (hb2.mono HB1.out.size))
  clear hb2
  cases b
  · obtain rfl : r = false := by rw [HP.out]; rfl
    go_wp2_with fail
    go_ret
    exact ⟨rfl, HB2.out⟩
  · obtain rfl : r = v := by rw [HP.out]; rfl
    go_wp2_with fail
    refine (HV.out _).mono ?_
    rintro e w3 ⟨rfl, hb3⟩
    have HB3 := Lib.hid (HB2.out.trans (hb3.mono HB2.out.size))
    clear hb3
    go_wp2_with fail
    go_ret
    exact ⟨rfl, HB3.out⟩
end Go.Proofs.YtkgnnlglabihkaaGreatDoor.Top

/- Card numbers: Cut. Contract. -/
namespace Go.Proofs.YtkgnnlglabihkaaGreatDoor.Top
open Go Go.ChangeShapes Go.WideShapes Go.ChangeAt Go.RowKit Go.Proofs.YtkgnnlglabihkaaGreatDoor.Aes Go.Proofs.YtkgnnlglabihkaaGreatDoor.Str
set_option linter.unusedVariables false
set_option linter.unusedSimpArgs false
set_option maxRecDepth 100000 in
set_option maxHeartbeats 2000000 in
theorem pcut_any (l : List UInt8) (n : Nat) (hn : l.length = n) (hm : n ≤ 9223372036854775000) (hok : okP l = true) (w : World) :
    Calls Tryz.prog 9 #[.string (str l)] w fun e w' => e = .returned (.tuple #[.string (str (l.take 6)), .string (str ((l.drop 6).take (n - 4 - 6))), .string (str (l.drop (n - 4))), .int .i64 0]) ∧ Below w.heap.size w w' := by
  have HC := Lib.hid (fun w => cut_any l n hn hm w)
  have HS := Lib.hid (fun w => shaped_any l w)
  have hc : cutP l = (l.take 6, (l.drop 6).take (n - 4 - 6), l.drop (n - 4)) := by unfold cutP; rw [if_pos hok, hn]
  rw [hc] at HC HS
  rw [hok] at HS
  generalize l.take 6 = a at *
  generalize (l.drop 6).take (n - 4 - 6) = b at *
  generalize l.drop (n - 4) = c at *
  clear hn hm hc hok
  go_enter Tryz.func9, Tryz.ntmps9
  go_wp2_with fail
  refine (HC.out _).mono ?_
  rintro e w1 ⟨rfl, hb1⟩
  have HB1 := Lib.hid hb1
  clear hb1
  unfold partsV
  have hr1 : Aes.RowV (w1.alloc (.cells #[.string ⟨#[]⟩, .string ⟨#[]⟩, .string ⟨#[]⟩] 73)) 73 w1.heap.size [.string ⟨#[]⟩, .string ⟨#[]⟩, .string ⟨#[]⟩] := heap_alloc_new w1 _
  have HR1 := Lib.hid hr1
  have HBA := Lib.hid (show Below w1.heap.size w1 (w1.alloc (.cells #[.string ⟨#[]⟩, .string ⟨#[]⟩, .string ⟨#[]⟩] 73)) from (Below.refl _ _).alloc (Nat.le_refl _) _)
  clear hr1
  go_wp2_with (with_reducible refine at_store 6 ?_
               refine Aes.wpList_store_row rfl _ _ _ rfl w1.heap.size _ _ [.string (str a), .string (str b), .string (str c)] HR1.out rfl rfl (by kernel_rfl) rfl (by intro u hu; simp only [List.mem_cons, List.not_mem_nil, or_false] at hu; rcases hu with rfl | rfl | rfl <;> rfl) ?_
               intro w2 hr2 hf2
               have HB2 := Lib.hid (HBA.out.trans (hf2.mono (fun k (hk : k < w1.heap.size) => by omega) |>.toBelow (fun k hk => hk)))
               have HR2 := Lib.hid hr2
               have c0 : w2.cell? ⟨w1.heap.size, 0, none⟩ = some (.string (str a)) := hr2.cell rfl
               have c1 : w2.cell? ⟨w1.heap.size, 1, none⟩ = some (.string (str b)) := hr2.cell rfl
               have c2 : w2.cell? ⟨w1.heap.size, 2, none⟩ = some (.string (str c)) := hr2.cell rfl
               clear hr2 hf2)
  refine (HS.out _).mono ?_
  rintro e w3 ⟨rfl, hb3⟩
  have hl2 := HR2.out.lt
  have d0 : w3.cell? ⟨w1.heap.size, 0, none⟩ = some (.string (str a)) := (hb3.cell (p := ⟨w1.heap.size, 0, none⟩) hl2).trans c0
  have d1 : w3.cell? ⟨w1.heap.size, 1, none⟩ = some (.string (str b)) := (hb3.cell (p := ⟨w1.heap.size, 1, none⟩) hl2).trans c1
  have d2 : w3.cell? ⟨w1.heap.size, 2, none⟩ = some (.string (str c)) := (hb3.cell (p := ⟨w1.heap.size, 2, none⟩) hl2).trans c2
  have HB3 := Lib.hid (HB1.out.trans ((HB2.out.trans (hb3.mono HB2.out.size)).mono HB1.out.size))
  clear hb3 c0 c1 c2 hl2
  go_wp2_with fail
  go_quiet (fail)
  go_wp2_with fail
  refine bodyPost_ret (v := .tuple #[.string (str a), .string (str b), .string (str c), .int .i64 0]) ?_ rfl ⟨rfl, HB3.out.trans (below_drewN _ _ _)⟩
  have hres : Tryz.f9.results = #[.tmp 2, .tmp 3, .tmp 4, .tmp 5] := rfl
  simp [results, hres, Sem.run_bind, Sem.run_pure]
end Go.Proofs.YtkgnnlglabihkaaGreatDoor.Top
