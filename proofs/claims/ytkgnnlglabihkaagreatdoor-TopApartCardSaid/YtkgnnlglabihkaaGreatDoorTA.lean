/- Texts of digits: look, weigh, Valid. Contracts. -/
import Derived.Test.YtkgnnlglabihkaaGreatDoorMemAll
import Derived.Test.YtkgnnlglabihkaaGreatDoorAesBlk
import Derived.Test.YtkgnnlglabihkaaGreatDoorStrAll
import Derived.Laws.BitsAllLaws
namespace Go.Proofs.YtkgnnlglabihkaaGreatDoor.Top
open Go Go.ChangeShapes Go.WideShapes Go.ChangeAt Go.RowKit
set_option linter.unusedVariables false
set_option linter.unusedSimpArgs false
def isD (c : UInt8) : Prop := 48 ≤ c.toNat ∧ c.toNat ≤ 57
def isDb (c : UInt8) : Bool := decide (48 ≤ c.toNat) && decide (c.toNat ≤ 57)
def allD (l : List UInt8) : Bool := l.all isDb
theorem isDb_iff (c : UInt8) : isDb c = true ↔ 48 ≤ c.toNat ∧ c.toNat ≤ 57 := by unfold isDb; simp
theorem allD_iff (l : List UInt8) : allD l = true ↔ ∀ i, i < l.length → isDb (l.getD i 0) = true := by
  unfold allD
  rw [List.all_eq_true]
  constructor
  · intro h i hi
    rw [List.getD_eq_getElem?_getD, List.getElem?_eq_getElem hi]
    exact h _ (List.getElem_mem hi)
  · intro h c hc
    obtain ⟨i, hi, rfl⟩ := List.getElem_of_mem hc
    have := h i hi
    rwa [List.getD_eq_getElem?_getD, List.getElem?_eq_getElem hi] at this
def lookE (l : List UInt8) : Nat := if allD l then (if 999 < l.length then 2 else 0) else 4
theorem str_sz {l : List UInt8} {n : Nat} (h : l.length = n) : (str l).size = n := by show l.toArray.size = n; simpa using h
theorem str_get (l : List UInt8) (i : Nat) (h : i < (str l).size) : (str l)[i]'h = l.getD i 0 := by
  have h2 : i < l.length := by rw [str_sz rfl] at h; exact h
  rw [List.getD_eq_getElem?_getD, List.getElem?_eq_getElem h2]
  show (str l).data[i] = _
  simp [str]
/-- s[i] of a text -/
theorem str_index (l : List UInt8) (i : Nat) (h : i < l.length) (w : World) : (Instr.index 9 (.string (str l)) (.int .i64 (i : Int))).run Tryz.prog w = .ok (.int .u8 (((l.getD i 0).toNat : Nat) : Int)) w := by
  have hs := str_sz (l := l) rfl
  rw [run_index_string w 9 (str l) .i64 (i : Int) Tryz.underlying9, dif_pos ⟨by omega, by rw [hs]; omega⟩]
  have := str_get l i (by rw [hs]; exact h)
  simp only [Int.toNat_natCast] at *
  rw [this]
theorem dig_sub (c : UInt8) (h : isDb c = true) : IntKind.u8.wrap ((c.toNat : Int) - 48) = ((c.toNat - 48 : Nat) : Int) ∧ ((c.toNat : Int) - 48) % 256 = ((c.toNat - 48 : Nat) : Int) ∧ c.toNat - 48 ≤ 9 := by
  rw [isDb_iff] at h
  have := c.toNat_lt
  refine ⟨?_, by omega, by omega⟩
  simp only [IntKind.wrap_u8]; omega
theorem dig_no (c : UInt8) (h : isDb c = false) : ∃ m : Nat, ((c.toNat : Int) - 48) % 256 = (m : Int) ∧ IntKind.u8.wrap ((c.toNat : Int) - 48) = (m : Int) ∧ 9 < m := by
  have h' : ¬ (48 ≤ c.toNat ∧ c.toNat ≤ 57) := fun e => by rw [(isDb_iff c).2 e] at h; cases h
  have := c.toNat_lt
  refine ⟨(((c.toNat : Int) - 48) % 256).toNat, by omega, ?_, by omega⟩
  simp only [IntKind.wrap_u8]; omega
set_option maxRecDepth 100000 in
set_option maxHeartbeats 1000000 in
theorem look_any (l : List UInt8) (n : Nat) (hn : l.length = n) (hm : n ≤ 9223372036854775000) (w : World) :
    Calls Tryz.prog 46 #[.string (str l)] w fun e w' => e = .returned (.int .i64 (lookE l : Int)) ∧ w = w' := by
  have hsz := str_sz hn
  have HN := Lib.hid hn
  have HIX := Lib.hid (fun i h w => str_index l i h w)
  obtain ⟨E, hE⟩ : ∃ E, lookE l = E := ⟨_, rfl⟩
  rw [hE]
  have HE := Lib.hid hE
  clear hn hE
  go_enter Tryz.func46, Tryz.ntmps46
  go_wp2
  go_loop [3, 6] (fun _ iv => ∃ k : Nat, k ≤ n ∧ iv = .int .i64 (k : Int) ∧ ∀ i, i < k → isDb (l.getD i 0) = true) (fun _ iv => n - (intOf iv).toNat)
  case atStart => exact ⟨0, by omega, rfl, fun i h => by omega⟩
  case round =>
    obtain ⟨k, hk, rfl, hall⟩ := hrel
    have HA := Lib.hid hall
    clear hall
    by_cases hlt : k < n
    · have hix : ∀ w, (Instr.index 9 (.string (str l)) (.int .i64 (k : Int))).run Tryz.prog w = _ := fun w => HIX.out k (by rw [HN.out]; exact hlt) w
      obtain ⟨c, hc⟩ : ∃ c, l.getD k 0 = c := ⟨_, rfl⟩
      rw [hc] at hix
      have HC := Lib.hid hc
      clear hc
      cases hd : isDb c with
      | true =>
        obtain ⟨e1, e2, e3⟩ := dig_sub c hd
        have HD := Lib.hid hd
        clear hd
        generalize c.toNat = m at *
        generalize m - 48 = d at *
        have hdd : decide ((9 : Int) < (d : Int)) = false := decide_eq_false (by omega)
        go_wp2
        go_round
        case rel => exact ⟨k + 1, by omega, by go_num, fun i h => by
          rcases Nat.lt_or_ge i k with h' | h'
          · exact HA.out i h'
          · obtain rfl : i = k := by omega
            rw [HC.out]; exact HD.out⟩
        case measure => simp [intOf] <;> omega
      | false =>
        obtain ⟨m, e1, e2, e3⟩ := dig_no c hd
        have hE4 : E = 4 := by
          rw [← HE.out]; unfold lookE
          rw [if_neg]
          intro h
          have := (allD_iff l).1 h k (by rw [HN.out]; exact hlt)
          rw [HC.out, hd] at this; cases this
        have HE4 := Lib.hid hE4
        clear hd hE4
        generalize c.toNat = cn at *
        have hdd : decide ((9 : Int) < (m : Int)) = true := decide_eq_true (by omega)
        go_wp2
        go_ret
        exact ⟨by rw [HE4.out]; rfl, rfl⟩
    · obtain rfl : k = n := by omega
      have hall : allD l = true := (allD_iff l).2 (by rw [HN.out]; exact HA.out)
      by_cases hbig : 999 < k
      · have hE2 : E = 2 := by rw [← HE.out]; unfold lookE; rw [if_pos hall, if_pos (by rw [HN.out]; exact hbig)]
        have HE2 := Lib.hid hE2
        have hdd : decide ((999 : Int) < (k : Int)) = true := decide_eq_true (by omega)
        clear hall hE2
        go_wp2
        go_ret
        exact ⟨by rw [HE2.out]; rfl, rfl⟩
      · have hE0 : E = 0 := by rw [← HE.out]; unfold lookE; rw [if_pos hall, if_neg (by rw [HN.out]; exact hbig)]
        have HE0 := Lib.hid hE0
        have hdd : decide ((999 : Int) < (k : Int)) = false := decide_eq_false (by omega)
        clear hall hE0
        go_wp2
        go_ret
        exact ⟨by rw [HE0.out]; rfl, rfl⟩
end Go.Proofs.YtkgnnlglabihkaaGreatDoor.Top

/- Texts of digits: weigh, Valid. Contracts. -/
namespace Go.Proofs.YtkgnnlglabihkaaGreatDoor.Top
open Go Go.ChangeShapes Go.WideShapes Go.ChangeAt Go.RowKit
set_option linter.unusedVariables false
set_option linter.unusedSimpArgs false
def tws : List Nat := [0, 2, 4, 6, 8, 1, 3, 5, 7, 9]
def wd (l : List UInt8) (n i : Nat) : Nat := if (n - 1 - i) % 2 = 1 then tws.getD ((l.getD i 0).toNat - 48) 0 else (l.getD i 0).toNat - 48
def wsum (l : List UInt8) (n : Nat) : Nat → Nat
  | 0 => 0
  | k + 1 => wsum l n k + wd l n k
theorem tws_le (d : Nat) (h : d ≤ 9) : tws.getD d 0 ≤ 9 := by
  have : d = 0 ∨ d = 1 ∨ d = 2 ∨ d = 3 ∨ d = 4 ∨ d = 5 ∨ d = 6 ∨ d = 7 ∨ d = 8 ∨ d = 9 := by omega
  rcases this with rfl | rfl | rfl | rfl | rfl | rfl | rfl | rfl | rfl | rfl <;> decide
theorem wd_le {l : List UInt8} {n i : Nat} (h : isDb (l.getD i 0) = true) : wd l n i ≤ 9 := by
  have h1 := (dig_sub _ h).2.2
  unfold wd
  split
  · exact tws_le _ h1
  · exact h1
theorem wsum_le {l : List UInt8} {n k : Nat} (h : ∀ i, i < k → isDb (l.getD i 0) = true) : wsum l n k ≤ 9 * k := by
  induction k with
  | zero => exact Nat.le_refl _
  | succ k ih =>
    have h1 := ih (fun i hi => h i (by omega))
    have h2 := wd_le (n := n) (h k (by omega))
    show wsum l n k + wd l n k ≤ _
    omega
set_option maxRecDepth 100000 in
set_option maxHeartbeats 1000000 in
theorem weigh_any (l : List UInt8) (n : Nat) (hn : l.length = n) (hm : n ≤ 1000) (hd : allD l = true) (w : World) :
    Calls Tryz.prog 47 #[.string (str l), .int .i64 0] w fun e w' => e = .returned (.int .i64 (wsum l n n : Int)) ∧ Below w.heap.size w w' := by
  have hsz := str_sz hn
  have HN := Lib.hid hn
  have HIX := Lib.hid (fun i h w => str_index l i h w)
  have HAD := Lib.hid ((allD_iff l).1 hd)
  have hb : Below w.heap.size w (w.alloc (.cells #[.int .i64 0, .int .i64 2, .int .i64 4, .int .i64 6, .int .i64 8, .int .i64 1, .int .i64 3, .int .i64 5, .int .i64 7, .int .i64 9] 134)) := (Below.refl _ _).alloc (Nat.le_refl _) _
  have HB := Lib.hid hb
  have hcell : ∀ d, d ≤ 9 → (w.alloc (.cells #[.int .i64 0, .int .i64 2, .int .i64 4, .int .i64 6, .int .i64 8, .int .i64 1, .int .i64 3, .int .i64 5, .int .i64 7, .int .i64 9] 134)).cell? ⟨w.heap.size, d, none⟩ = some (.int .i64 ((tws.getD d 0 : Nat) : Int)) := fun d hd => by
    rw [cell_of_row _ _ d _ 134 (0, 0) (heap_alloc_new w _)]
    have : d = 0 ∨ d = 1 ∨ d = 2 ∨ d = 3 ∨ d = 4 ∨ d = 5 ∨ d = 6 ∨ d = 7 ∨ d = 8 ∨ d = 9 := by omega
    rcases this with rfl | rfl | rfl | rfl | rfl | rfl | rfl | rfl | rfl | rfl <;> rfl
  have HCELL := Lib.hid hcell
  clear hn hd hb hcell
  go_enter Tryz.func47, Tryz.ntmps47
  go_wp2
  generalize w.alloc (.cells #[.int .i64 0, .int .i64 2, .int .i64 4, .int .i64 6, .int .i64 8, .int .i64 1, .int .i64 3, .int .i64 5, .int .i64 7, .int .i64 9] 134) = W at *
  go_loop [6, 7, 8, 12] (fun nv _ _ iv => ∃ k : Nat, k ≤ n ∧ iv = .int .i64 (k : Int) ∧ nv = .int .i64 (wsum l n k : Int)) (fun _ _ _ iv => n - (intOf iv).toNat)
  case atStart => exact ⟨0, by omega, rfl, rfl⟩
  case round =>
    obtain ⟨k, hk, rfl, rfl⟩ := hrel
    by_cases hlt : k < n
    · have hix : ∀ w, (Instr.index 9 (.string (str l)) (.int .i64 (k : Int))).run Tryz.prog w = _ := fun w => HIX.out k (by rw [HN.out]; exact hlt) w
      have hdg := HAD.out k (by rw [HN.out]; exact hlt)
      have hws := wsum_le (l := l) (n := n) (k := k) (fun i hi => HAD.out i (by rw [HN.out]; omega))
      have hst : wsum l n (k + 1) = wsum l n k + wd l n k := rfl
      unfold wd at hst
      obtain ⟨c, hc⟩ : ∃ c, l.getD k 0 = c := ⟨_, rfl⟩
      rw [hc] at hix hdg hst
      obtain ⟨e1, e2, e3⟩ := dig_sub c hdg
      clear hc hdg
      have HST := Lib.hid hst
      clear hst
      generalize wsum l n k = s at *
      generalize c.toNat = cn at *
      obtain ⟨d, hd⟩ : ∃ d, cn - 48 = d := ⟨_, rfl⟩
      rw [hd] at e1 e2 e3 HST
      have x9 := HCELL.out d e3
      have t9 := tws_le d e3
      obtain ⟨m, hm⟩ : ∃ m, n - 1 - k = m := ⟨_, rfl⟩
      rw [hm] at HST
      have m1 : (n : Int) - 1 - (k : Int) = (m : Int) := by omega
      have dk : (d : Int) < 10 := by omega
      clear hd hm
      generalize tws.getD d 0 = y at *
      by_cases hodd : m % 2 = 1
      · have m2 : (m : Int) % 2 = 1 := by omega
        have hs2 : wsum l n (k + 1) = s + y := by rw [HST.out, if_pos hodd]
        have HS2 := Lib.hid hs2
        clear HST hs2 hodd
        go_wp2
        go_round
        case rel => exact ⟨k + 1, by omega, by go_num, by rw [HS2.out]; rfl⟩
        case measure => simp [intOf] <;> omega
      · have m2 : (m : Int) % 2 = 0 := by omega
        have hs2 : wsum l n (k + 1) = s + d := by rw [HST.out, if_neg hodd]
        have HS2 := Lib.hid hs2
        clear HST hs2 hodd
        go_wp2
        go_round
        case rel => exact ⟨k + 1, by omega, by go_num, by rw [HS2.out]; rfl⟩
        case measure => simp [intOf] <;> omega
    · obtain rfl : k = n := by omega
      go_wp2
      go_ret
      exact ⟨rfl, HB.out⟩
/-- a text that ends in its check digit -/
def validB (l : List UInt8) : Bool := decide (l ≠ []) && decide (lookE l = 0) && decide (wsum l l.length l.length % 10 = 0)
theorem str_empty (l : List UInt8) : ((str l).toList == ([] : List UInt8)) = decide (l = []) := by
  have : (str l).toList = l := by rw [ByteArray.toList_eq]; simp [str]
  rw [this]
  cases l <;> simp
set_option maxRecDepth 100000 in
set_option maxHeartbeats 1000000 in
theorem valid_any (l : List UInt8) (n : Nat) (hn : l.length = n) (hm : n ≤ 9223372036854775000) (w : World) :
    Calls Tryz.prog 25 #[.string (str l)] w fun e w' => e = .returned (.bool (validB l)) ∧ Below w.heap.size w w' := by
  have hem := str_empty l
  by_cases h0 : l = []
  · have hv : validB l = false := by subst h0; rfl
    rw [hv]
    rw [decide_eq_true h0] at hem
    clear h0 hv hn
    go_enter Tryz.func25, Tryz.ntmps25
    go_wp2_with fail
    go_ret
    exact ⟨rfl, Below.refl _ _⟩
  · rw [decide_eq_false h0] at hem
    have HLK := Lib.hid (fun w => look_any l n hn hm w)
    by_cases hE : lookE l = 0
    · have hall : allD l = true := by
        unfold lookE at hE
        split at hE
        · assumption
        · cases hE
      have h999 : n ≤ 999 := by
        unfold lookE at hE
        rw [if_pos hall, hn] at hE
        split at hE
        · cases hE
        · omega
      have HW := Lib.hid (fun w => weigh_any l n hn (by omega) hall w)
      have hv : validB l = decide (wsum l n n % 10 = 0) := by unfold validB; rw [hE, hn]; simp [h0]
      rw [hv]
      have HE := Lib.hid hE
      obtain ⟨r, hr⟩ : ∃ r, wsum l n n % 10 = r := ⟨_, rfl⟩
      rw [hr]
      have hri : (wsum l n n : Int) % 10 = (r : Int) := by omega
      generalize wsum l n n = s at *
      clear hall hv hn hE h0 hr
      go_enter Tryz.func25, Tryz.ntmps25
      go_wp2_with fail
      refine (HLK.out w).mono ?_
      rw [HE.out]
      rintro e w1 ⟨rfl, rfl⟩
      go_wp2_with fail
      refine (HW.out w).mono ?_
      rintro e w2 ⟨rfl, hb2⟩
      have HB2 := Lib.hid hb2
      clear hb2
      go_wp2_with fail
      go_ret
      refine ⟨?_, HB2.out⟩
      by_cases hz : r = 0
      · subst hz; rfl
      · have : ((r : Int) == 0) = false := by simp; omega
        rw [decide_eq_false hz]
        first | rfl | simp [this]
    · have hv : validB l = false := by unfold validB; rw [decide_eq_false hE]; simp
      rw [hv]
      obtain ⟨E, hEE⟩ : ∃ E, lookE l = E := ⟨_, rfl⟩
      have HE := Lib.hid hEE
      have hne : ((E : Int) == 0) = false := by rw [hEE] at hE; simp; omega
      clear hE hv hn h0 hEE
      go_enter Tryz.func25, Tryz.ntmps25
      go_wp2_with fail
      refine (HLK.out w).mono ?_
      rw [HE.out]
      rintro e w1 ⟨rfl, rfl⟩
      go_wp2_with fail
      go_ret
      exact ⟨rfl, Below.refl _ _⟩
end Go.Proofs.YtkgnnlglabihkaaGreatDoor.Top

/- Powers of ten: contracts. -/
namespace Go.Proofs.YtkgnnlglabihkaaGreatDoor.Top
open Go Go.ChangeShapes Go.WideShapes Go.ChangeAt Go.RowKit
set_option linter.unusedVariables false
set_option linter.unusedSimpArgs false
def pwL (k : Nat) : List Value := (List.range 17).map fun j => .int .i64 ((if j ≤ k then 10 ^ j else 0 : Nat) : Int)
theorem pwL_len (k : Nat) : (pwL k).length = 17 := by simp [pwL]
theorem pwL_at {k j : Nat} (hj : j < 17) : (pwL k)[j]? = some (.int .i64 ((if j ≤ k then 10 ^ j else 0 : Nat) : Int)) := by simp [pwL, hj]
theorem pwL_set {k : Nat} (hk : k + 1 < 17) : (pwL k).set (k + 1) (.int .i64 ((10 ^ (k + 1) : Nat) : Int)) = pwL (k + 1) := by
  apply List.ext_getElem?
  intro i
  rw [List.getElem?_set]
  by_cases hi : i < 17
  · rw [pwL_at hi, pwL_at hi]
    by_cases e : k + 1 = i
    · subst e; rw [if_pos rfl, if_pos (by rw [pwL_len]; omega), if_pos (Nat.le_refl _)]
    · rw [if_neg e]
      by_cases h1 : i ≤ k
      · rw [if_pos h1, if_pos (by omega)]
      · rw [if_neg h1, if_neg (by omega)]
  · have h1 : (pwL k)[i]? = none := List.getElem?_eq_none (by rw [pwL_len]; omega)
    have h2 : (pwL (k + 1))[i]? = none := List.getElem?_eq_none (by rw [pwL_len]; omega)
    rw [h1, h2, if_neg (by omega)]
theorem pow_le16 {k : Nat} (h : k ≤ 16) : 10 ^ k ≤ 10000000000000000 := Nat.pow_le_pow_right (by omega) h
theorem pow_le15 {k : Nat} (h : k ≤ 15) : 10 ^ k ≤ 1000000000000000 := Nat.pow_le_pow_right (by omega) h
set_option maxRecDepth 100000 in
set_option maxHeartbeats 1000000 in
theorem powers_any (w : World) :
    Calls Tryz.prog 89 #[] w fun e w' => e = .returned (.agg (pwL 16).toArray) ∧ Below w.heap.size w w' := by
  have hi : (Tryz.prog.info? 161).map (·.size) = some (pwL 16).toArray.size := by rw [List.size_toArray, pwL_len]; kernel_rfl
  have hone : (pwL 16).toArray.all (·.oneCell') = true := by kernel_rfl
  have h0 : Aes.RowV (w.alloc (.cells #[.int .i64 1, .int .i64 0, .int .i64 0, .int .i64 0, .int .i64 0, .int .i64 0, .int .i64 0, .int .i64 0, .int .i64 0, .int .i64 0, .int .i64 0, .int .i64 0, .int .i64 0, .int .i64 0, .int .i64 0, .int .i64 0, .int .i64 0] 161)) 161 w.heap.size (pwL 0) := heap_alloc_new w _
  have hb0 : Below w.heap.size w (w.alloc (.cells #[.int .i64 1, .int .i64 0, .int .i64 0, .int .i64 0, .int .i64 0, .int .i64 0, .int .i64 0, .int .i64 0, .int .i64 0, .int .i64 0, .int .i64 0, .int .i64 0, .int .i64 0, .int .i64 0, .int .i64 0, .int .i64 0, .int .i64 0] 161)) := (Below.refl _ _).alloc (Nat.le_refl _) _
  have HH := Lib.hid hi
  have HO := Lib.hid hone
  have H0 := Lib.hid (And.intro h0 hb0)
  clear hi hone h0 hb0
  go_enter Tryz.func89, Tryz.ntmps89
  go_wp2_with fail
  generalize w.alloc (.cells #[.int .i64 1, .int .i64 0, .int .i64 0, .int .i64 0, .int .i64 0, .int .i64 0, .int .i64 0, .int .i64 0, .int .i64 0, .int .i64 0, .int .i64 0, .int .i64 0, .int .i64 0, .int .i64 0, .int .i64 0, .int .i64 0, .int .i64 0] 161) = W0 at *
  go_loopw [1, 3] (fun _ iv wr => ∃ k : Nat, k ≤ 16 ∧ iv = .int .i64 (k : Int) ∧ Aes.RowV wr 161 w.heap.size (pwL k) ∧ Below w.heap.size w wr) (fun _ iv _ => 16 - (intOf iv).toNat)
  case atStart => exact ⟨0, by omega, rfl, H0.out.1, H0.out.2⟩
  case round =>
    obtain ⟨k, hk, rfl, hr, hb⟩ := hrel
    clear H0
    by_cases hlt : k < 16
    · have c0 := hr.cell (pwL_at (k := k) (j := k) (by omega))
      have f1 := hr.frozen (k + 1)
      obtain ⟨u, hu⟩ : ∃ u, wr.cell? ⟨w.heap.size, k + 1, none⟩ = some u := ⟨_, hr.cell (pwL_at (k := k) (j := k + 1) (by omega))⟩
      rw [if_pos (Nat.le_refl _)] at c0
      have hset := hr.set (k + 1) (.int .i64 ((10 ^ (k + 1) : Nat) : Int))
      rw [pwL_set (by omega)] at hset
      have hb2 := hb.setCell (p := ⟨w.heap.size, k + 1, none⟩) (Nat.le_refl _) (.int .i64 ((10 ^ (k + 1) : Nat) : Int))
      have h15 := pow_le15 (k := k) (by omega)
      have hsu : 10 ^ (k + 1) = 10 * 10 ^ k := by rw [Nat.pow_succ, Nat.mul_comm]
      rw [hsu] at hset hb2
      generalize 10 ^ k = p at *
      have HS := Lib.hid hset
      have HB := Lib.hid hb2
      have hcast : ((10 * p : Nat) : Int) = 10 * (p : Int) := by omega
      have ki : (k : Int) < 16 := by omega
      have ki1 : (k : Int) + 1 < 17 := by omega
      have ks : ((k : Int) + 1).toNat = k + 1 := by omega
      rw [hcast] at HS HB
      clear hset hb2 hr hb hsu hcast
      go_wp2
      go_roundw
      case rel => exact ⟨k + 1, by omega, by go_num, HS.out, HB.out⟩
      case measure => simp [intOf] <;> omega
    · obtain rfl : k = 16 := by omega
      have HN := Lib.hid (show wr.heap[w.heap.size]? = some (.cells (pwL 16).toArray 161 (0, 0)) from hr)
      have HB := Lib.hid hb
      clear hr hb
      go_wp2_with (first
        | (refine wpList_load_row rfl 161 (.tmp 0) rfl w.heap.size rfl 161 (pwL 16).toArray (0, 0) _ HN.out Tryz.underlying161 rfl HH.out ?_)
        | (refine wpList_store_row rfl 161 (.tmp 0) (.tmp 14) rfl w.heap.size (pwL 16).toArray rfl rfl 161 (pwL 16).toArray HN.out HH.out rfl HO.out ?_))
      refine bodyPost_ret (results_cell_row (p := 0) (ty := 161) rfl _ _ w.heap.size 161 (pwL 16).toArray (0, 0) _ rfl ?_ Tryz.underlying161 rfl HH.out) rfl ⟨rfl, ?_⟩
      · exact setRow_heap _ _ _ _ _ _ HN.out
      · exact below_setRow_ HB.out (Nat.le_refl _) _
end Go.Proofs.YtkgnnlglabihkaaGreatDoor.Top

/- Numerals modulo powers of ten: Power, Width, Add, Sub, Rest. Contracts. -/
namespace Go.Proofs.YtkgnnlglabihkaaGreatDoor.Top
open Go Go.ChangeShapes Go.WideShapes Go.ChangeAt Go.RowKit
set_option linter.unusedVariables false
set_option linter.unusedSimpArgs false
set_option maxRecDepth 100000 in
set_option maxHeartbeats 1000000 in
theorem power_any (m : Nat) (h1 : 1 ≤ m) (h16 : m ≤ 16) (w : World) :
    Calls Tryz.prog 73 #[.int .i64 (m : Int)] w fun e w' => e = .returned (.int .i64 ((10 ^ m : Nat) : Int)) ∧ Below w.heap.size w w' := by
  have a1 : decide ((m : Int) < 1) = false := decide_eq_false (by omega)
  have a2 : decide ((16 : Int) < (m : Int)) = false := decide_eq_false (by omega)
  have hone : ∀ u ∈ pwL 16, u.oneCell' = true := by
    intro u hu
    unfold pwL at hu
    rw [List.mem_map] at hu
    obtain ⟨j, _, rfl⟩ := hu
    rfl
  have HO := Lib.hid hone
  clear hone
  go_enter Tryz.func73, Tryz.ntmps73
  go_wp2_with fail
  refine (powers_any w).mono ?_
  rintro e w1 ⟨rfl, hb1⟩
  have hz1 := hb1.size
  have HB1 := Lib.hid hb1
  clear hb1
  go_wp2_with (refine Aes.wpList_store_new rfl _ _ _ rfl _ _ (pwL 16) rfl rfl (by kernel_rfl) rfl HO.out ?_
               have hnew : Aes.RowV (w1.alloc (.cells (pwL 16).toArray 161)) 161 w1.heap.size (pwL 16) := heap_alloc_new w1 _
               have hcell := hnew.cell (pwL_at (k := 16) (j := m) (by omega))
               rw [if_pos h16] at hcell
               have hba := HB1.out.alloc hz1 (.cells (pwL 16).toArray 161)
               have HBA := Lib.hid hba
               have hm17 : (m : Int) < 17 := by omega
               clear hba hnew)
  go_ret
  exact ⟨rfl, HBA.out⟩
def widthN (m : Nat) : Nat := if m = 5 then 3 else 2
set_option maxRecDepth 100000 in
set_option maxHeartbeats 2000000 in
theorem width_any (m : Nat) (hm : m = 3 ∨ m = 4 ∨ m = 5) (w : World) :
    Calls Tryz.prog 53 #[.int .i64 (m : Int)] w fun e w' => e = .returned (.int .i64 (widthN m : Int)) ∧ Below w.heap.size w w' := by
  have HP := Lib.hid (fun w => power_any m (by omega) (by omega) w)
  rcases hm with rfl | rfl | rfl
  all_goals
    go_enter Tryz.func53, Tryz.ntmps53
    go_wp2_with fail
    refine (HP.out w).mono ?_
    rintro e w1 ⟨rfl, hb1⟩
    have HB1 := Lib.hid hb1
    clear hb1
    simp only [Nat.reducePow]
    go_wp2
    go_ret
    exact ⟨by kernel_rfl, HB1.out⟩
set_option maxRecDepth 100000 in
set_option maxHeartbeats 1000000 in
theorem both_any (a b m : Nat) (h1 : 1 ≤ m) (h16 : m ≤ 16) (ha : a < 10 ^ m) (hb : b < 10 ^ m) (w : World) :
    Calls Tryz.prog 52 #[.int .i64 (a : Int), .int .i64 (b : Int), .int .i64 (m : Int)] w fun e w' => e = .returned (.tuple #[.int .i64 ((10 ^ m : Nat) : Int), .bool true]) ∧ Below w.heap.size w w' := by
  have HP := Lib.hid (fun w => power_any m h1 h16 w)
  have hle := pow_le16 h16
  generalize 10 ^ m = p at *
  have a1 : decide ((0 : Int) ≤ (a : Int)) = true := decide_eq_true (by omega)
  have a2 : decide ((0 : Int) ≤ (b : Int)) = true := decide_eq_true (by omega)
  have a3 : decide ((a : Int) < (p : Int)) = true := decide_eq_true (by omega)
  have a4 : decide ((b : Int) < (p : Int)) = true := decide_eq_true (by omega)
  go_enter Tryz.func52, Tryz.ntmps52
  go_wp2_with fail
  refine (HP.out w).mono ?_
  rintro e w1 ⟨rfl, hb1⟩
  have HB1 := Lib.hid hb1
  clear hb1
  go_wp2_with fail
  go_ret2
  exact ⟨rfl, HB1.out⟩
def addM (p a b : Nat) : Nat := if p - b ≤ a then a - (p - b) else a + b
def subM (p a b : Nat) : Nat := if a < b then a + (p - b) else a - b
theorem addM_lt {p a b : Nat} (ha : a < p) (hb : b < p) : addM p a b < p := by unfold addM; split <;> omega
theorem subM_lt {p a b : Nat} (ha : a < p) (hb : b < p) : subM p a b < p := by unfold subM; split <;> omega
theorem sub_add {p a b : Nat} (ha : a < p) (hb : b < p) : subM p (addM p a b) b = a := by unfold subM addM; split <;> split <;> omega
set_option maxRecDepth 100000 in
set_option maxHeartbeats 1000000 in
theorem add_any (a b m : Nat) (h1 : 1 ≤ m) (h16 : m ≤ 16) (ha : a < 10 ^ m) (hb : b < 10 ^ m) (w : World) :
    Calls Tryz.prog 31 #[.int .i64 (a : Int), .int .i64 (b : Int), .int .i64 (m : Int)] w fun e w' => e = .returned (.tuple #[.int .i64 (addM (10 ^ m) a b : Int), .int .i64 0]) ∧ Below w.heap.size w w' := by
  have HP := Lib.hid (fun w => both_any a b m h1 h16 ha hb w)
  have hle := pow_le16 h16
  generalize 10 ^ m = p at *
  by_cases hc : p - b ≤ a
  · obtain ⟨r, hr⟩ : ∃ r, a - (p - b) = r := ⟨_, rfl⟩
    have hv : addM p a b = r := by unfold addM; rw [if_pos hc, hr]
    rw [hv]
    have s1 : (p : Int) - (b : Int) = ((p - b : Nat) : Int) := by omega
    have s2 : (a : Int) - ((p - b : Nat) : Int) = (r : Int) := by omega
    obtain ⟨d, hd⟩ : ∃ d, p - b = d := ⟨_, rfl⟩
    rw [hd] at s1 s2 hc
    have hc' : decide ((d : Int) ≤ (a : Int)) = true := decide_eq_true (by omega)
    have w1' : IntKind.i64.wrap ((p : Int) - (b : Int)) = (d : Int) := by rw [s1]; exact i64_wraps _ (by omega) (by omega)
    clear hv hr hd
    go_enter Tryz.func31, Tryz.ntmps31
    go_wp2_with fail
    refine (HP.out w).mono ?_
    rintro e w1 ⟨rfl, hb1⟩
    have HB1 := Lib.hid hb1
    clear hb1
    go_wp2_with fail
    go_ret2
    exact ⟨by kernel_rfl, HB1.out⟩
  · have hv : addM p a b = a + b := by unfold addM; rw [if_neg hc]
    rw [hv]
    have s1 : (p : Int) - (b : Int) = ((p - b : Nat) : Int) := by omega
    obtain ⟨d, hd⟩ : ∃ d, p - b = d := ⟨_, rfl⟩
    rw [hd] at s1 hc
    have hc' : decide ((d : Int) ≤ (a : Int)) = false := decide_eq_false (by omega)
    have hab : ((a + b : Nat) : Int) = (a : Int) + (b : Int) := by omega
    rw [hab]
    clear hv hd hab
    go_enter Tryz.func31, Tryz.ntmps31
    go_wp2_with fail
    refine (HP.out w).mono ?_
    rintro e w1 ⟨rfl, hb1⟩
    have HB1 := Lib.hid hb1
    clear hb1
    go_wp2_with fail
    go_ret2
    exact ⟨by kernel_rfl, HB1.out⟩
set_option maxRecDepth 100000 in
set_option maxHeartbeats 1000000 in
theorem sub_any (a b m : Nat) (h1 : 1 ≤ m) (h16 : m ≤ 16) (ha : a < 10 ^ m) (hb : b < 10 ^ m) (w : World) :
    Calls Tryz.prog 61 #[.int .i64 (a : Int), .int .i64 (b : Int), .int .i64 (m : Int)] w fun e w' => e = .returned (.tuple #[.int .i64 (subM (10 ^ m) a b : Int), .int .i64 0]) ∧ Below w.heap.size w w' := by
  have HP := Lib.hid (fun w => both_any a b m h1 h16 ha hb w)
  have hle := pow_le16 h16
  generalize 10 ^ m = p at *
  by_cases hc : a < b
  · obtain ⟨d, hd⟩ : ∃ d, p - b = d := ⟨_, rfl⟩
    have hv : subM p a b = a + d := by unfold subM; rw [if_pos hc, hd]
    rw [hv]
    have s1 : (p : Int) - (b : Int) = (d : Int) := by omega
    have hab : ((a + d : Nat) : Int) = (a : Int) + (d : Int) := by omega
    rw [hab]
    have hc' : decide ((a : Int) < (b : Int)) = true := decide_eq_true (by omega)
    clear hv hd hab
    go_enter Tryz.func61, Tryz.ntmps61
    go_wp2_with fail
    refine (HP.out w).mono ?_
    rintro e w1 ⟨rfl, hb1⟩
    have HB1 := Lib.hid hb1
    clear hb1
    go_wp2_with fail
    go_ret2
    exact ⟨by kernel_rfl, HB1.out⟩
  · obtain ⟨d, hd⟩ : ∃ d, a - b = d := ⟨_, rfl⟩
    have hv : subM p a b = d := by unfold subM; rw [if_neg hc, hd]
    rw [hv]
    have s1 : (a : Int) - (b : Int) = (d : Int) := by omega
    have hc' : decide ((a : Int) < (b : Int)) = false := decide_eq_false (by omega)
    clear hv hd
    go_enter Tryz.func61, Tryz.ntmps61
    go_wp2_with fail
    refine (HP.out w).mono ?_
    rintro e w1 ⟨rfl, hb1⟩
    have HB1 := Lib.hid hb1
    clear hb1
    go_wp2_with fail
    go_ret2
    exact ⟨by kernel_rfl, HB1.out⟩
end Go.Proofs.YtkgnnlglabihkaaGreatDoor.Top

/- Texts and numbers: TrimLeft of noughts, Number, Value, Text, Digits, Rest. Contracts. -/
namespace Go.Proofs.YtkgnnlglabihkaaGreatDoor.Top
open Go Go.ChangeShapes Go.WideShapes Go.ChangeAt Go.RowKit Go.Proofs.YtkgnnlglabihkaaGreatDoor.Aes Go.Proofs.YtkgnnlglabihkaaGreatDoor.Str
set_option linter.unusedVariables false
set_option linter.unusedSimpArgs false
theorem or_step (a c : Nat) (ha : a < 72057594037927936) (hc : c < 256) : bits BinOp.or IntKind.u64 ((256 * a : Nat) : Int) ((c : Nat) : Int) = ((256 * a + c : Nat) : Int) := by
  rw [u64_or_nat _ _ (by omega) (by omega)]
  congr 1
  exact (Nat.two_pow_add_eq_or_of_lt (i := 8) (show c < 2 ^ 8 by omega) a).symm
/-- s[1:] of a text -/
theorem str_tail (l : List UInt8) (n k : Nat) (hn : l.length = n) (hk : k ≤ n) (w : World) : (Instr.slice 9 (.string (str l)) (some (.int .i64 (k : Int))) none none).run Tryz.prog w = .ok (.string (str (l.drop k))) w := by
  rw [run_slice_string_l w 9 (str l) Tryz.underlying9 .i64 (k : Int) (by omega) (by rw [str_sz hn]; omega)]
  unfold str
  rw [ByteArray.extract_mk, Int.toNat_natCast]
  congr 3
  rw [List.take_of_length_le]
  show _ ≤ l.toArray.size - k
  simp
theorem str_head (l : List UInt8) (n k : Nat) (hn : l.length = n) (hk : k ≤ n) (w : World) : (Instr.slice 9 (.string (str l)) none (some (.int .i64 (k : Int))) none).run Tryz.prog w = .ok (.string (str (l.take k))) w := by
  rw [run_slice_string_h w 9 (str l) Tryz.underlying9 .i64 (k : Int) (by omega) (by rw [str_sz hn]; omega)]
  unfold str
  rw [ByteArray.extract_mk, Int.toNat_natCast, Nat.sub_zero, List.drop_zero]
theorem str_mid (l : List UInt8) (n i k : Nat) (hn : l.length = n) (hi : i ≤ k) (hk : k ≤ n) (w : World) : (Instr.slice 9 (.string (str l)) (some (.int .i64 (i : Int))) (some (.int .i64 (k : Int))) none).run Tryz.prog w = .ok (.string (str ((l.drop i).take (k - i)))) w := by
  rw [run_slice_string w 9 (str l) .i64 .i64 (i : Int) (k : Int) Tryz.underlying9 (by omega) (by omega) (by rw [str_sz hn]; omega)]
  unfold str
  rw [ByteArray.extract_mk, Int.toNat_natCast, Int.toNat_natCast]
/-- without the noughts ahead -/
def trim0 : List UInt8 → List UInt8
  | [] => []
  | c :: l => if c = 48 then trim0 l else c :: l
def numD (l : List UInt8) : Nat := l.foldl (fun a c => 10 * a + (c.toNat - 48)) 0
theorem numD_cons0 (l : List UInt8) : numD (48 :: l) = numD l := by unfold numD; simp [List.foldl]
theorem numD_trim (l : List UInt8) : numD (trim0 l) = numD l := by
  induction l with
  | nil => rfl
  | cons c l ih =>
    unfold trim0
    split
    · rename_i h; subst h; rw [ih, numD_cons0]
    · rfl
theorem trim0_drop (l : List UInt8) : ∃ k, k ≤ l.length ∧ trim0 l = l.drop k ∧ (∀ i, i < k → l.getD i 0 = 48) ∧ (k < l.length → l.getD k 0 ≠ 48) := by
  induction l with
  | nil => exact ⟨0, Nat.le_refl _, rfl, fun i h => by omega, fun h => by cases h⟩
  | cons c l ih =>
    by_cases hc : c = 48
    · obtain ⟨k, h1, h2, h3, h4⟩ := ih
      refine ⟨k + 1, by simpa using h1, by unfold trim0; rw [if_pos hc, h2]; rfl, fun i hi => ?_, fun h => ?_⟩
      · cases i with
        | zero => exact hc
        | succ i => have := h3 i (by omega); simpa using this
      · have := h4 (by simpa using h); simpa using this
    · exact ⟨0, Nat.zero_le _, by unfold trim0; rw [if_neg hc]; rfl, fun i h => by omega, fun _ => hc⟩
set_option maxRecDepth 100000 in
set_option maxHeartbeats 1000000 in
theorem trimb_any (l : List UInt8) (n : Nat) (hn : l.length = n) (hm : n ≤ 1000) (w : World) :
    Calls Tryz.prog 97 #[.string (str l), .int .u8 48] w fun e w' => e = .returned (.string (str (trim0 l))) ∧ w = w' := by
  obtain ⟨k0, hk0, htr, hz, hnz⟩ := trim0_drop l
  rw [hn] at hk0 hnz
  have HTR := Lib.hid htr
  have HZ := Lib.hid hz
  have HNZ := Lib.hid hnz
  have HN := Lib.hid hn
  clear hn htr hz hnz
  go_enter Tryz.func97, Tryz.ntmps97
  go_wp2
  go_loop [0] (fun sv => ∃ k : Nat, k ≤ k0 ∧ sv = .string (str (l.drop k))) (fun sv => match sv with | .string s => s.size | _ => 0)
  case atStart => exact ⟨0, by omega, by rw [List.drop_zero]⟩
  case round =>
    obtain ⟨k, hk, rfl⟩ := hrel
    have hdl : (l.drop k).length = n - k := by rw [List.length_drop, HN.out]
    have hsz := str_sz hdl
    by_cases hlt : k < n
    · have hix : ∀ w, (Instr.index 9 (.string (str (l.drop k))) (.int .i64 0)).run Tryz.prog w = .ok (.int .u8 (((l.getD k 0).toNat : Nat) : Int)) w := fun w => by
        have := str_index (l.drop k) 0 (by omega) w
        have e : (l.drop k).getD 0 0 = l.getD k 0 := by simp [List.getD_eq_getElem?_getD, List.getElem?_drop]
        rw [e] at this
        exact this
      have htl : ∀ w, (Instr.slice 9 (.string (str (l.drop k))) (some (.int .i64 1)) none none).run Tryz.prog w = .ok (.string (str (l.drop (k + 1)))) w := fun w => by
        have := str_tail (l.drop k) (n - k) 1 hdl (by omega) w
        rw [List.drop_drop] at this
        exact this
      have hpos : decide ((0 : Int) < ((n - k : Nat) : Int)) = true := decide_eq_true (by omega)
      have hs1 : (str (l.drop (k + 1))).size = n - (k + 1) := str_sz (by rw [List.length_drop, HN.out])
      have HS1 := Lib.hid (And.intro hs1 hsz)
      obtain ⟨m, hm2⟩ : ∃ m, n - k = m := ⟨_, rfl⟩
      rw [hm2] at hsz hpos
      have m1 : 0 < m := by omega
      by_cases hkk : k < k0
      · have hc := HZ.out k hkk
        rw [hc] at hix
        have h48 : (((48 : UInt8).toNat : Nat) : Int) = 48 := rfl
        rw [h48] at hix
        clear hdl hm2 hs1
        go_wp2
        go_round
        case rel => exact ⟨k + 1, by omega, rfl⟩
        case measure =>
          show (str (l.drop (k + 1))).size < (str (l.drop k)).size
          rw [HS1.out.1, HS1.out.2]; omega
      · obtain rfl : k = k0 := by omega
        have hc := HNZ.out hlt
        have hcn : (((l.getD k 0).toNat : Int) == 48) = false := by
          simp only [beq_eq_false_iff_ne]
          intro e
          apply hc
          apply UInt8.toNat_inj.1
          have : (l.getD k 0).toNat = 48 := by omega
          rw [this]; rfl
        have HTR2 := Lib.hid HTR.out
        clear hdl hm2 hc hs1
        generalize (l.getD k 0).toNat = c at *
        go_wp2
        go_ret
        exact ⟨by rw [HTR2.out]; rfl, rfl⟩
    · obtain rfl : k = n := by omega
      obtain rfl : k = k0 := by omega
      have hz0 : (str (l.drop k)).size = 0 := by rw [hsz]; omega
      have HTR2 := Lib.hid HTR.out
      clear hdl hsz
      go_wp2
      go_ret
      exact ⟨by rw [HTR2.out]; rfl, rfl⟩
set_option maxRecDepth 100000 in
set_option maxHeartbeats 1000000 in
theorem trim_any (l : List UInt8) (n : Nat) (hn : l.length = n) (h0 : 0 < n) (hm : n ≤ 1000) (w : World) :
    Calls Tryz.prog 79 #[.string (str l), .string { data := #[48] }] w fun e w' => e = .returned (.string (str (trim0 l))) ∧ w = w' := by
  have hem := str_empty l
  rw [decide_eq_false (by rintro rfl; simp at hn; omega)] at hem
  have HT := Lib.hid (fun w => trimb_any l n hn hm w)
  have hix : ∀ w, (Instr.index 9 (.string { data := #[48] }) (.int .i64 0)).run Tryz.prog w = .ok (.int .u8 48) w := fun w => str_index [48] 0 (by simp) w
  clear hn
  go_enter Tryz.func79, Tryz.ntmps79
  go_wp2_with fail
  refine (HT.out w).mono ?_
  rintro e w1 ⟨rfl, rfl⟩
  go_wp2_with fail
  go_ret
  exact ⟨rfl, rfl⟩
theorem numD_snoc (l : List UInt8) (c : UInt8) : numD (l ++ [c]) = 10 * numD l + (c.toNat - 48) := by unfold numD; rw [List.foldl_append]; rfl
theorem numD_step {l : List UInt8} {i : Nat} (h : i < l.length) : numD (l.take (i + 1)) = 10 * numD (l.take i) + ((l.getD i 0).toNat - 48) := by
  rw [List.take_succ_eq_append_getElem h, numD_snoc, List.getD_eq_getElem?_getD, List.getElem?_eq_getElem h]
  rfl
theorem numD_lt {l : List UInt8} (hd : ∀ i, i < l.length → isDb (l.getD i 0) = true) : ∀ i, i ≤ l.length → numD (l.take i) < 10 ^ i
  | 0, _ => by simp [numD]
  | i+1, h => by
    rw [numD_step (by omega), Nat.pow_succ]
    have := numD_lt hd i (by omega)
    have h2 := (dig_sub _ (hd i (by omega))).2.2
    omega
set_option maxRecDepth 100000 in
set_option maxHeartbeats 1000000 in
theorem number_any (l : List UInt8) (n : Nat) (hn : l.length = n) (h0 : 0 < n) (h16 : n ≤ 16) (hd : allD l = true) (w : World) :
    Calls Tryz.prog 60 #[.string (str l)] w fun e w' => e = .returned (.tuple #[.int .i64 (numD l : Int), .int .i64 0]) ∧ w = w' := by
  have hem := str_empty l
  rw [decide_eq_false (by rintro rfl; simp at hn; omega)] at hem
  have hl0 : lookE l = 0 := by unfold lookE; rw [if_pos hd, if_neg (by omega)]
  have hlk := fun w => look_any l n hn (by omega) w
  rw [hl0] at hlk
  have HLK := Lib.hid hlk
  have HT := Lib.hid (fun w => trim_any l n hn h0 (by omega) w)
  obtain ⟨k0, hk0, htr, _, _⟩ := trim0_drop l
  have hdt : ∀ i, i < (trim0 l).length → isDb ((trim0 l).getD i 0) = true := fun i hi => by
    rw [htr] at hi ⊢
    rw [List.length_drop] at hi
    have := (allD_iff l).1 hd (k0 + i) (by omega)
    rw [List.getD_eq_getElem?_getD, List.getElem?_drop, ← List.getD_eq_getElem?_getD]
    exact this
  obtain ⟨m, hm⟩ : ∃ m, (trim0 l).length = m := ⟨_, rfl⟩
  have hm16 : m ≤ 16 := by rw [← hm, htr, List.length_drop]; omega
  have HTR := Lib.hid (numD_trim l)
  generalize trim0 l = t at *
  have hsz := str_sz hm
  have HM := Lib.hid hm
  have HDT := Lib.hid hdt
  have HIX := Lib.hid (fun i h w => str_index t i h w)
  have HLT := Lib.hid (numD_lt hdt)
  have dm : decide ((19 : Int) < (m : Int)) = false := decide_eq_false (by omega)
  clear hn hd hl0 hlk hdt htr hk0 hm
  go_enter Tryz.func60, Tryz.ntmps60
  go_wp2_with fail
  refine (HLK.out w).mono ?_
  rintro e w1 ⟨rfl, rfl⟩
  go_wp2_with fail
  refine (HT.out w).mono ?_
  rintro e w1 ⟨rfl, rfl⟩
  go_wp2_with fail
  go_loop [6, 7, 24] (fun nv _ iv => ∃ k : Nat, k ≤ m ∧ iv = .int .i64 (k : Int) ∧ nv = .int .u64 (numD (t.take k) : Int)) (fun _ _ iv => m - (intOf iv).toNat)
  case atStart => exact ⟨0, by omega, rfl, rfl⟩
  case round =>
    obtain ⟨k, hk, rfl, rfl⟩ := hrel
    have hb := HLT.out k (by rw [HM.out]; exact hk)
    have hp := pow_le16 (k := k) (by omega)
    by_cases hlt : k < m
    · have hix : ∀ w, (Instr.index 9 (.string (str t)) (.int .i64 (k : Int))).run Tryz.prog w = _ := fun w => HIX.out k (by rw [HM.out]; exact hlt) w
      have HST := Lib.hid (numD_step (l := t) (i := k) (by rw [HM.out]; exact hlt))
      obtain ⟨e1, e2, e3⟩ := dig_sub _ (HDT.out k (by rw [HM.out]; exact hlt))
      have hb10 : numD (t.take k) < 10000000000000000 := by omega
      generalize numD (t.take k) = a at *
      generalize (t.getD k 0).toNat = c at *
      generalize c - 48 = d at *
      have hcast : ((10 * a + d : Nat) : Int) = 10 * (a : Int) + (d : Int) := by omega
      have HC := Lib.hid hcast
      clear hb hp hcast
      go_wp2
      go_round
      case rel => exact ⟨k + 1, by omega, by go_num, by rw [HST.out, HC.out]⟩
      case measure => simp [intOf] <;> omega
    · obtain rfl : k = m := by omega
      have hall : numD (t.take k) = numD l := by rw [List.take_of_length_le (by rw [HM.out]; exact Nat.le_refl _)]; exact HTR.out
      rw [hall] at hb ⊢
      have hb10 : numD l < 10000000000000000 := by omega
      clear hb hp hall
      obtain ⟨a, hal⟩ : ∃ a, numD l = a := ⟨_, rfl⟩
      rw [hal] at hb10 ⊢
      have HAL := Lib.hid hal
      clear hal
      have dmx : decide ((9223372036854775807 : Int) < (a : Int)) = false := decide_eq_false (by omega)
      have ha63 : a < 9223372036854775808 := by omega
      have hcv : IntKind.i64.wrap (a : Int) = (a : Int) := i64_wraps _ (by omega) (by omega)
      go_wp2
      go_ret2
      exact ⟨by rw [HAL.out]; rfl, rfl⟩
set_option maxRecDepth 100000 in
set_option maxHeartbeats 1000000 in
theorem value_any (l : List UInt8) (n : Nat) (hn : l.length = n) (h0 : 0 < n) (h16 : n ≤ 16) (hd : allD l = true) (w : World) :
    Calls Tryz.prog 51 #[.string (str l)] w fun e w' => e = .returned (.tuple #[.int .i64 (numD l : Int), .int .i64 0]) ∧ w = w' := by
  have hem := str_empty l
  rw [decide_eq_false (by rintro rfl; simp at hn; omega)] at hem
  have hsz := str_sz hn
  have HN := Lib.hid (fun w => number_any l n hn h0 h16 hd w)
  have dm : decide ((16 : Int) < (n : Int)) = false := decide_eq_false (by omega)
  clear hn hd
  go_enter Tryz.func51, Tryz.ntmps51
  go_wp2_with fail
  refine (HN.out w).mono ?_
  rintro e w1 ⟨rfl, rfl⟩
  go_wp2_with fail
  go_ret2
  exact ⟨rfl, rfl⟩
end Go.Proofs.YtkgnnlglabihkaaGreatDoor.Top

/- Texts and numbers: Rest, Text, Digits. Contracts. -/
namespace Go.Proofs.YtkgnnlglabihkaaGreatDoor.Top
open Go Go.ChangeShapes Go.WideShapes Go.ChangeAt Go.RowKit Go.Proofs.YtkgnnlglabihkaaGreatDoor.Aes Go.Proofs.YtkgnnlglabihkaaGreatDoor.Str
set_option linter.unusedVariables false
set_option linter.unusedSimpArgs false
def restN (p : Nat) (l : List UInt8) : Nat := l.foldl (fun a c => (256 * a + c.toNat) % p) 0
theorem restN_step (p : Nat) {l : List UInt8} {i : Nat} (h : i < l.length) : restN p (l.take (i + 1)) = (256 * restN p (l.take i) + (l.getD i 0).toNat) % p := by
  unfold restN
  rw [List.take_succ_eq_append_getElem h, List.foldl_append, List.getD_eq_getElem?_getD, List.getElem?_eq_getElem h]
  rfl
theorem restN_lt {p : Nat} (hp : 0 < p) (l : List UInt8) : ∀ i, i ≤ l.length → restN p (l.take i) < p
  | 0, _ => by simpa [restN] using hp
  | i+1, h => by rw [restN_step p (by omega)]; exact Nat.mod_lt _ hp
set_option maxRecDepth 100000 in
set_option maxHeartbeats 1000000 in
theorem rest_any (w0 : World) (A : Option Addr) (n c : Nat) (l : List UInt8) (m : Nat) (hn : l.length = n) (h64 : n ≤ 64) (hr : Rd w0 w0.heap.size A l) (h1 : 1 ≤ m) (h16 : m ≤ 16) :
    Calls Tryz.prog 57 #[.slice A n c, .int .i64 (m : Int)] w0 fun e w' => e = .returned (.tuple #[.int .i64 (restN (10 ^ m) l : Int), .int .i64 0]) ∧ Below w0.heap.size w0 w' := by
  have HP := Lib.hid (fun w => power_any m h1 h16 w)
  have hle := pow_le16 h16
  have hpos : 0 < 10 ^ m := Nat.pow_pos (by omega)
  obtain ⟨p, hp⟩ : ∃ p, 10 ^ m = p := ⟨_, rfl⟩
  rw [hp] at hle hpos HP
  have HPE := Lib.hid hp
  have HN := Lib.hid hn
  have HR := Lib.hid hr
  have HLT := Lib.hid (restN_lt hpos l)
  have hp0 : ((p : Int) == 0) = false := by simp; omega
  have hpne : ¬ p = 0 := by omega
  have dn : decide ((64 : Int) < (n : Int)) = false := decide_eq_false (by omega)
  clear hn hr hp
  go_enter Tryz.func57, Tryz.ntmps57
  go_wp2_with fail
  refine (HP.out w0).mono ?_
  rintro e w1 ⟨rfl, hb1⟩
  have HB1 := Lib.hid hb1
  clear hb1
  go_wp2_with fail
  go_loop [7, 8, 21] (fun nv _ iv => ∃ k : Nat, k ≤ n ∧ iv = .int .i64 (k : Int) ∧ nv = .int .u64 (restN p (l.take k) : Int)) (fun _ _ iv => n - (intOf iv).toNat)
  case atStart => exact ⟨0, by omega, rfl, rfl⟩
  case round =>
    obtain ⟨k, hk, rfl, rfl⟩ := hrel
    have hlt2 := HLT.out k (by rw [HN.out]; exact hk)
    by_cases hlt : k < n
    · obtain ⟨ad, hA, hab, hac⟩ := rd_some2 HR.out (by rw [HN.out]; omega)
      subst hA
      have x3 := (HB1.out.cell (p := ad.add k) (by rw [add_block]; exact hab)).trans (hac k (by rw [HN.out]; exact hlt))
      have HST := Lib.hid (restN_step p (l := l) (i := k) (by rw [HN.out]; exact hlt))
      have hc256 := (l.getD k 0).toNat_lt
      rw [Aes.bv_int] at x3
      generalize restN p (l.take k) = a at *
      generalize (l.getD k 0).toNat = y at *
      have hor := or_step a y (by omega) hc256
      have hor3 : bits BinOp.or IntKind.u64 ((a : Int) * 256) ((y : Nat) : Int) = ((256 * a + y : Nat) : Int) := by rw [Int.mul_comm, show (256 * (a : Int)) = ((256 * a : Nat) : Int) by omega]; exact hor
      have h64' : 256 * a < 18446744073709551616 := by omega
      obtain ⟨b, hb⟩ : ∃ b, 256 * a + y = b := ⟨_, rfl⟩
      rw [hb] at hor3 HST
      obtain ⟨q, hq⟩ : ∃ q, b % p = q := ⟨_, rfl⟩
      rw [hq] at HST
      have hqi : (b : Int) % (p : Int) = (q : Int) := by rw [← hq]; push_cast; rfl
      have hqt : (b : Int).tmod (p : Int) = (q : Int) := by rw [← hqi]; exact Int.tmod_eq_emod_of_nonneg (by omega)
      have ki : (k : Int) < (n : Int) := by omega
      clear hor hb hq hac hlt2
      go_wp2
      go_round
      case rel => exact ⟨k + 1, by omega, by go_num, by rw [HST.out]⟩
      case measure => simp [intOf] <;> omega
    · obtain rfl : k = n := by omega
      have hall : restN p (l.take k) = restN p l := by rw [List.take_of_length_le (by rw [HN.out]; exact Nat.le_refl _)]
      rw [hall] at hlt2 ⊢
      obtain ⟨a, hal⟩ : ∃ a, restN p l = a := ⟨_, rfl⟩
      rw [hal] at hlt2 ⊢
      have HAL := Lib.hid hal
      have ha63 : a < 9223372036854775808 := by omega
      have hcv : IntKind.i64.wrap (a : Int) = (a : Int) := i64_wraps _ (by omega) (by omega)
      clear hal hall hlt2
      go_wp2
      go_ret2
      exact ⟨by rw [HPE.out, HAL.out]; rfl, HB1.out⟩
/-- a number in so many digits -/
def dgL (n width j : Nat) : UInt8 := UInt8.ofNat (48 + n / 10 ^ (width - 1 - j) % 10)
def textL (n width : Nat) : List UInt8 := (List.range width).map (dgL n width)
theorem textL_len (n width : Nat) : (textL n width).length = width := by simp [textL]
def txL (n width k : Nat) : List UInt8 := (List.range 19).map fun j => if width - k ≤ j ∧ j < width then dgL n width j else 0
theorem txL_len (n width k : Nat) : (txL n width k).length = 19 := by simp [txL]
theorem txL_at {n width k j : Nat} (hj : j < 19) : (txL n width k)[j]? = some (if width - k ≤ j ∧ j < width then dgL n width j else 0) := by simp [txL, hj]
theorem txL_set {n width k : Nat} (hw : width ≤ 19) (hk : k < width) : (txL n width k).set (width - 1 - k) (dgL n width (width - 1 - k)) = txL n width (k + 1) := by
  apply List.ext_getElem?
  intro i
  rw [List.getElem?_set]
  by_cases hi : i < 19
  · rw [txL_at hi, txL_at hi]
    by_cases e : width - 1 - k = i
    · rw [if_pos e, if_pos (by rw [txL_len]; omega), if_pos (by omega), e]
    · rw [if_neg e]
      by_cases h1 : width - k ≤ i ∧ i < width
      · rw [if_pos h1, if_pos (by omega)]
      · rw [if_neg h1, if_neg (by omega)]
  · have h1 : (txL n width k)[i]? = none := List.getElem?_eq_none (by rw [txL_len]; omega)
    have h2 : (txL n width (k + 1))[i]? = none := List.getElem?_eq_none (by rw [txL_len]; omega)
    rw [h1, h2, if_neg (by omega)]
theorem txL_all {n width : Nat} (hw : width ≤ 19) : (txL n width width).take width = textL n width := by
  apply List.ext_getElem?
  intro i
  rw [List.getElem?_take]
  by_cases hi : i < width
  · rw [if_pos hi, txL_at (by omega), if_pos ⟨by omega, hi⟩]
    simp [textL, hi]
  · rw [if_neg hi]; simp [textL, hi]
theorem dig_int (n width j : Nat) : ((dgL n width j).toNat : Int) = 48 + (n / 10 ^ (width - 1 - j) : Nat) % 10 := by
  unfold dgL
  rw [UInt8.toNat_ofNat']
  omega
theorem bvs_set (l : List UInt8) (i : Nat) (d : UInt8) : (bvs l).set i (bv d) = bvs (l.set i d) := by unfold bvs; rw [List.map_set]
set_option maxRecDepth 20000 in
theorem slice_arr (g k : Nat) (hk : k ≤ 19) (w : World) : (Instr.sliceAt 170 (.pointer (some ⟨g, 0, none⟩)) none (some (.int .i64 (k : Int))) none).run Tryz.prog w = .ok (.slice (some ⟨g, 0, none⟩) k 19) w := by
  have hz : (sizeOf (Tryz.prog.elem 170)).run Tryz.prog w = .ok 1 w := by kernel_rfl
  have hl : Tryz.prog.arrayLen 170 = 19 := by kernel_rfl
  have hu : Tryz.prog.underlying 170 = some (.array (Tryz.prog.arrayLen 170) (Tryz.prog.elem 170)) := by kernel_rfl
  rw [run_sliceAt_array_h w _ _ hu .i64 (k : Int) (by omega) (by rw [hl]; omega), hz, Result.andThen_ok, hl]
  simp [slicedAt, addr_add]
set_option maxRecDepth 100000 in
set_option maxHeartbeats 2000000 in
theorem text_any (n width : Nat) (h1 : 1 ≤ width) (h16 : width ≤ 16) (hn : n < 10 ^ width) (w : World) :
    Calls Tryz.prog 77 #[.int .i64 (n : Int), .int .i64 (width : Int)] w fun e w' => e = .returned (.tuple #[.string (str (textL n width)), .int .i64 0]) ∧ Below w.heap.size w w' := by
  have hle := pow_le16 h16
  have hz : n / 10 ^ width = 0 := Nat.div_eq_of_lt hn
  have a0 : decide ((n : Int) < 0) = false := decide_eq_false (by omega)
  have a1 : decide ((width : Int) < 1) = false := decide_eq_false (by omega)
  have a2 : decide ((19 : Int) < (width : Int)) = false := decide_eq_false (by omega)
  have hr0 : Aes.RowV (w.alloc (.cells #[.int .u8 0, .int .u8 0, .int .u8 0, .int .u8 0, .int .u8 0, .int .u8 0, .int .u8 0, .int .u8 0, .int .u8 0, .int .u8 0, .int .u8 0, .int .u8 0, .int .u8 0, .int .u8 0, .int .u8 0, .int .u8 0, .int .u8 0, .int .u8 0, .int .u8 0] 170)) 170 w.heap.size (bvs (txL n width 0)) := by
    have e : txL n width 0 = List.replicate 19 0 := by
      apply List.ext_getElem?
      intro i
      by_cases hi : i < 19
      · rw [txL_at hi, if_neg (by omega), List.getElem?_replicate, if_pos hi]
      · rw [List.getElem?_eq_none (by rw [txL_len]; omega), List.getElem?_eq_none (by simp; omega)]
    rw [e]
    exact heap_alloc_new w _
  have hb0 : Below w.heap.size w (w.alloc (.cells #[.int .u8 0, .int .u8 0, .int .u8 0, .int .u8 0, .int .u8 0, .int .u8 0, .int .u8 0, .int .u8 0, .int .u8 0, .int .u8 0, .int .u8 0, .int .u8 0, .int .u8 0, .int .u8 0, .int .u8 0, .int .u8 0, .int .u8 0, .int .u8 0, .int .u8 0] 170)) := (Below.refl _ _).alloc (Nat.le_refl _) _
  have H0 := Lib.hid (And.intro hr0 hb0)
  have HZ := Lib.hid hz
  have n63 : n < 10000000000000000 := by omega
  clear hr0 hb0 hn hz hle
  go_enter Tryz.func77, Tryz.ntmps77
  go_wp2_with fail
  generalize w.alloc (.cells #[.int .u8 0, .int .u8 0, .int .u8 0, .int .u8 0, .int .u8 0, .int .u8 0, .int .u8 0, .int .u8 0, .int .u8 0, .int .u8 0, .int .u8 0, .int .u8 0, .int .u8 0, .int .u8 0, .int .u8 0, .int .u8 0, .int .u8 0, .int .u8 0, .int .u8 0] 170) = W0 at *
  go_loopw [0, 7, 19] (fun nv _ iv wr => ∃ k : Nat, k ≤ width ∧ iv = .int .i64 (k : Int) ∧ nv = .int .i64 ((n / 10 ^ k : Nat) : Int) ∧ Aes.RowV wr 170 w.heap.size (bvs (txL n width k)) ∧ Below w.heap.size w wr) (fun _ _ iv _ => width - (intOf iv).toNat)
  case atStart => exact ⟨0, by omega, rfl, by rw [Nat.pow_zero, Nat.div_one], H0.out.1, H0.out.2⟩
  case round =>
    obtain ⟨k, hk, rfl, rfl, hr, hb⟩ := hrel
    clear H0
    by_cases hlt : k < width
    · have hj : width - 1 - k < 19 := by omega
      obtain ⟨u, hu⟩ : ∃ u, wr.cell? ⟨w.heap.size, width - 1 - k, none⟩ = some u := ⟨_, hr.cell (bvs_get (l := txL n width k) (j := width - 1 - k) (by rw [txL_len]; exact hj))⟩
      have f1 := hr.frozen (width - 1 - k)
      have hset := hr.set (width - 1 - k) (bv (dgL n width (width - 1 - k)))
      rw [bvs_set, txL_set (by omega) hlt] at hset
      have hb2 := hb.setCell (p := ⟨w.heap.size, width - 1 - k, none⟩) (Nat.le_refl _) (bv (dgL n width (width - 1 - k)))
      have hdi := dig_int n width (width - 1 - k)
      rw [show width - 1 - (width - 1 - k) = k by omega] at hdi
      have hdd : n / 10 ^ (k + 1) = n / 10 ^ k / 10 := by rw [Nat.pow_succ, Nat.div_div_eq_div_mul]
      have hale : n / 10 ^ k ≤ n := Nat.div_le_self _ _
      have HDD := Lib.hid hdd
      rw [Aes.bv_int, hdi] at hset hb2
      clear hdi hdd hr hb
      generalize n / 10 ^ k = a at *
      obtain ⟨r, hra⟩ : ∃ r, a % 10 = r := ⟨_, rfl⟩
      obtain ⟨q, hqa⟩ : ∃ q, a / 10 = q := ⟨_, rfl⟩
      have hri : (a : Int) % 10 = (r : Int) := by omega
      have hqi : (a : Int) / 10 = (q : Int) := by omega
      have hr9 : r ≤ 9 := by omega
      have HQW := Lib.hid (show wrap64 (q : Int) = (q : Int) by unfold wrap64; omega)
      rw [hqa] at HDD
      rw [hri] at hset hb2
      obtain ⟨j, hjj⟩ : ∃ j, width - 1 - k = j := ⟨_, rfl⟩
      rw [hjj] at hu f1 hset hb2 hj
      have hji : (width : Int) - 1 - (k : Int) = (j : Int) := by omega
      have j19 : (j : Int) < 19 := by omega
      have HS := Lib.hid hset
      have HB := Lib.hid hb2
      clear hset hb2 hra hqa hjj hale
      go_wp2
      go_roundw
      case rel => exact ⟨k + 1, by omega, by go_num, by rw [HDD.out, HQW.out], HS.out, HB.out⟩
      case measure => simp [intOf] <;> omega
    · obtain rfl : k = width := by omega
      have hz := HZ.out
      rw [hz]
      have hrd : Rd wr wr.heap.size (some ⟨w.heap.size, 0, none⟩) (textL n k) := by
        rw [← txL_all (n := n) (by omega)]
        refine Rd.take ?_ k
        intro _
        refine ⟨_, rfl, hr.lt, fun j hj => ?_⟩
        rw [addr_add, Nat.zero_add]
        exact hr.cell (bvs_get hj)
      have hsl := slice_arr w.heap.size k (by omega)
      have hs := arg_str (n := k) (c := 19) (textL_len n k) hrd (Below.refl _ _)
      have HB := Lib.hid hb
      obtain ⟨ts, hts⟩ : ∃ ts, str (textL n k) = ts := ⟨_, rfl⟩
      rw [hts] at hs
      have HTS := Lib.hid hts
      clear hts
      clear hr hb hrd
      go_wp2
      go_ret2
      exact ⟨by rw [HTS.out]; rfl, HB.out⟩
set_option maxRecDepth 100000 in
set_option maxHeartbeats 1000000 in
theorem digits_any (n width : Nat) (h1 : 1 ≤ width) (h16 : width ≤ 16) (hn : n < 10 ^ width) (w : World) :
    Calls Tryz.prog 58 #[.int .i64 (n : Int), .int .i64 (width : Int)] w fun e w' => e = .returned (.tuple #[.string (str (textL n width)), .int .i64 0]) ∧ Below w.heap.size w w' := by
  have HP := Lib.hid (fun w => power_any width h1 h16 w)
  have HT := Lib.hid (fun w => text_any n width h1 h16 hn w)
  have hle := pow_le16 h16
  generalize 10 ^ width = p at *
  have a0 : decide ((n : Int) < 0) = false := decide_eq_false (by omega)
  have a1 : decide ((p : Int) ≤ (n : Int)) = false := decide_eq_false (by omega)
  go_enter Tryz.func58, Tryz.ntmps58
  go_wp2_with fail
  refine (HP.out w).mono ?_
  rintro e w1 ⟨rfl, hb1⟩
  have HB1 := Lib.hid hb1
  clear hb1
  go_wp2_with fail
  refine (HT.out w1).mono ?_
  rintro e w2 ⟨rfl, hb2⟩
  have HB2 := Lib.hid (HB1.out.trans (hb2.mono HB1.out.size))
  clear hb2
  go_wp2_with fail
  go_ret2
  exact ⟨rfl, HB2.out⟩
end Go.Proofs.YtkgnnlglabihkaaGreatDoor.Top
