/- Keys of keys: eight, Fold. Contracts. -/
import Derived.Test.YtkgnnlglabihkaaGreatDoorBoxOne
import Derived.Test.YtkgnnlglabihkaaGreatDoorTA
import Derived.Lib.ConvBytes
namespace Go.Proofs.YtkgnnlglabihkaaGreatDoor.Top
open Go Go.ChangeShapes Go.WideShapes Go.ChangeAt Go.RowKit Go.Proofs.YtkgnnlglabihkaaGreatDoor.Aes Go.Proofs.YtkgnnlglabihkaaGreatDoor.Str Go.Proofs.YtkgnnlglabihkaaGreatDoor.Mac
set_option linter.unusedVariables false
set_option linter.unusedSimpArgs false
def foldL (key : List UInt8) (ls : List (List UInt8)) : List UInt8 := ls.foldl (fun k s => macL k (be8 s.length ++ s)) key
/-- texts in a row -/
def StrRow (w : World) (A : Option Addr) (ls : List (List UInt8)) : Prop := 0 < ls.length → ∃ ad, A = some ad ∧ ad.block < w.heap.size ∧ ∀ j (hj : j < ls.length), w.cell? (ad.add j) = some (.string (str ls[j]))
theorem be8_len (n : Nat) : (be8 n).length = 8 := by simp [be8]
theorem be8_take_ (n : Nat) {t : Nat} (ht : t < 8) : (be8 n).take (t + 1) = (be8 n).take t ++ [b8 n t] := by
  rw [List.take_succ_eq_append_getElem (by rw [be8_len]; exact ht)]
  congr 2
  simp [be8]
set_option maxRecDepth 100000 in
set_option maxHeartbeats 2000000 in
theorem eight_any (n : Nat) (w : World) :
    Calls Tryz.prog 28 #[.int .i64 (n : Int)] w fun e w' => ∃ v, e = .returned v ∧ Own w' 5 w.heap.size v (be8 n) ∧ Below w.heap.size w w' := by
  have hO0 : Own w 5 w.heap.size (.slice none 0 0) ((be8 n).take 0) := Own.nil _ _ _
  have hB0 := Below.refl w.heap.size w
  go_enter Tryz.func28, Tryz.ntmps28
  go_wp2_with fail
  go_loopw [3, 4] (fun ov iv wr => ∃ (t : Nat) (i : Int), t ≤ 8 ∧ i = 56 - 8 * (t : Int) ∧ iv = .int .i64 i ∧ Own wr 5 w.heap.size ov ((be8 n).take t) ∧ Below w.heap.size w wr) (fun _ iv _ => (intOf iv + 8).toNat)
  case atStart => exact ⟨0, 56, by omega, rfl, rfl, hO0, hB0⟩
  case round =>
    obtain ⟨t, i, ht, hi, rfl, hO, hB⟩ := hrel
    clear hO0 hB0
    have HO := Lib.hid hO
    have HB := Lib.hid hB
    have HI := Lib.hid hi
    clear hO hB
    by_cases hlt : t < 8
    · obtain ⟨m, hm⟩ : ∃ m : Nat, i = (m : Int) := ⟨56 - 8 * t, by omega⟩
      subst hm
      have hm56 : m ≤ 56 := by omega
      obtain ⟨q, hq⟩ : ∃ q, n / 2 ^ m = q := ⟨_, rfl⟩
      have hqi : (n : Int) / 2 ^ m = (q : Int) := by rw [← hq]; push_cast; rfl
      have hwb : IntKind.u8.wrap (q : Int) = ((b8 n t).toNat : Int) := b8_wrap (by rw [← hq, show 56 - 8 * t = m by omega])
      have hsub : (m : Int) - 8 = 56 - 8 * ((t + 1 : Nat) : Int) := by omega
      have HSUB := Lib.hid hsub
      have hml : ((be8 n).take t).length = t := by rw [List.length_take, be8_len]; omega
      obtain ⟨Ao, co, rfl, _, hco⟩ := HO.out.form
      have hO := HO.out
      rw [hml] at hO ⊢
      have hst := be8_take_ n hlt
      obtain ⟨y, hy⟩ : ∃ y, b8 n t = y := ⟨_, rfl⟩
      rw [hy] at hst hwb
      have hsz := HB.out.size
      have hoa := hO.alloc (.cells #[.int .u8 ((y.toNat : Nat) : Int)] 5)
      have hsa : w.heap.size ≤ (wr.alloc (.cells #[.int .u8 ((y.toNat : Nat) : Int)] 5)).heap.size := by simp; omega
      have hrd : Rd (wr.alloc (.cells #[.int .u8 ((y.toNat : Nat) : Int)] 5)) (wr.heap.size + 1) (some ⟨wr.heap.size, 0, none⟩) [y] := rd_lit (w := wr) 5 [y] rfl
      have HBA := Lib.hid (HB.out.alloc hsz (.cells #[.int .u8 ((y.toNat : Nat) : Int)] 5))
      have HST := Lib.hid hst
      have HOA := Lib.hid hoa
      have HRD := Lib.hid hrd
      have HML := Lib.hid hml
      clear hO hst hy hoa hrd hml hq hi hsub
      go_wp2_with (with_reducible refine at_slot 15 ?_
                   refine wpList_append_u8 Go.Proofs.YtkgnnlglabihkaaGreatDoor.u8 rfl (.tmp 9) (.tmp 14) rfl w.heap.size _ ((be8 n).take t) _ 1 1 [y] _ rfl rfl HOA.out HRD.out rfl (by rw [HML.out]; omega) hsa ?_
                   intro v2 w2 hO2 hg2 hat2
                   rw [← HST.out] at hO2
                   have hB2 := below_grown HBA.out hg2 hsa HOA.out (Nat.le_refl _)
                   have HO2 := Lib.hid hO2
                   have HB2 := Lib.hid hB2
                   clear hO2 hg2 hat2 hB2)
      go_roundw
      case rel => exact ⟨t + 1, _, by omega, HSUB.out, rfl, HO2.out, HB2.out⟩
      case measure => simp [intOf] <;> omega
    · have ht8 : t = 8 := by omega
      subst ht8
      have hi1 : i = -8 := by omega
      subst hi1
      have hO := HO.out
      rw [List.take_of_length_le (by rw [be8_len]; exact Nat.le_refl _)] at hO
      have HO8 := Lib.hid hO
      clear hO hi HO HI
      go_wp2_with fail
      go_ret
      exact ⟨_, rfl, HO8.out, HB.out⟩
/-- '[]byte(s)' -/
theorem conv_bytes (w : World) (l : List UInt8) (n : Nat) (hn : l.length = n) (hm : n ≤ 1073741824) : ∃ (W : World) (c : Nat), (convert 9 22 (.string (str l))).run Tryz.prog w = .ok (.slice (some ⟨w.heap.size, 0, none⟩) n c) W ∧ Rd W (w.heap.size + 1) (some ⟨w.heap.size, 0, none⟩) l ∧ Below w.heap.size w W ∧ W.heap.size = w.heap.size + 1 ∧ n ≤ c ∧ c ≤ 9223372036854775807 := by
  have hsz := str_sz hn
  refine ⟨Lib.bytesWorld w 5 (str l), grownCap w n 0 5, ?_, ?_, ⟨rfl, rfl, rfl, by rw [Lib.bytesWorld_size]; omega, fun k hk => Lib.bytesWorld_at_old w _ _ k hk⟩, Lib.bytesWorld_size _ _ _, grownCap_ge _ _ _ _, ?_⟩
  · have := Lib.run_convert_string_bytes (P := Tryz.prog) w 9 22 5 (str l) Tryz.underlying9 Tryz.underlying22 Tryz.underlying5
    rw [hsz] at this
    exact this
  · intro _
    refine ⟨_, rfl, Nat.lt_succ_self _, fun j hj => ?_⟩
    rw [addr_add, Nat.zero_add, Lib.bytesWorld_cell w 5 (str l) j (by rw [hsz]; omega)]
    simp only [str, List.getD_eq_getElem?_getD, List.getElem?_eq_getElem hj, Option.getD_some]
    rfl
  · have := grownCap_le_maxLen w n 0 5 (by simp only [maxLen]; omega)
    simp only [maxLen] at this
    omega
theorem foldL_snoc (key : List UInt8) (ls : List (List UInt8)) (s : List UInt8) : foldL key (ls ++ [s]) = macL (foldL key ls) (be8 s.length ++ s) := by unfold foldL; rw [List.foldl_append]; rfl
theorem foldL_step (key : List UInt8) (ls : List (List UInt8)) {j : Nat} (h : j < ls.length) : foldL key (ls.take (j + 1)) = macL (foldL key (ls.take j)) (be8 ls[j].length ++ ls[j]) := by rw [List.take_succ_eq_append_getElem h, foldL_snoc]
theorem foldL_len (key : List UInt8) (ls : List (List UInt8)) (h : key.length ≤ 1073741824) : (foldL key ls).length ≤ 1073741824 := by
  rcases List.eq_nil_or_concat ls with rfl | ⟨a, b, rfl⟩
  · exact h
  · rw [List.concat_eq_append, foldL_snoc, macL_len]; omega
set_option maxRecDepth 100000 in
set_option maxHeartbeats 4000000 in
theorem fold_any (A : Option Addr) (n c : Nat) (key : List UInt8) (Al : Option Addr) (m cl : Nat) (ls : List (List UInt8)) (w : World) (hkl : key.length = n) (hn : n ≤ 1073741824) (hr : Rd w w.heap.size A key) (hml : ls.length = m) (hm : m ≤ 1048576) (hls : StrRow w Al ls) (hs : ∀ s ∈ ls, s.length ≤ 1048576) :
    Calls Tryz.prog 10 #[.slice A n c, .slice Al m cl] w fun e w' => ∃ v, e = .returned v ∧ Own w' 5 w.heap.size v (foldL key ls) ∧ Below w.heap.size w w' := by
  have HKL := Lib.hid hkl
  have HR := Lib.hid hr
  have HM := Lib.hid hml
  have HLS := Lib.hid hls
  have HS := Lib.hid hs
  have HK30 := Lib.hid (fun ls => foldL_len key ls (by omega))
  clear hkl hr hml hls hs
  go_enter Tryz.func10, Tryz.ntmps10
  go_wp2_with fail
  refine (bclone_any A n c key w w.heap.size (Nat.le_refl _) HKL.out (by omega) HR.out).mono ?_
  rintro e w1 ⟨v1, rfl, hO1, hb1⟩
  have HO1 := Lib.hid hO1
  have HB1 := Lib.hid hb1
  clear hO1 hb1
  go_wp2_with fail
  go_loopw [5, 7, 12] (fun kv _ iv wr => ∃ j : Nat, j ≤ m ∧ iv = .int .i64 (j : Int) ∧ Own wr 5 w.heap.size kv (foldL key (ls.take j)) ∧ Below w.heap.size w wr) (fun _ _ iv _ => m - (intOf iv).toNat)
  case atStart => exact ⟨0, by omega, rfl, HO1.out, HB1.out⟩
  case round =>
    obtain ⟨j, hj, rfl, hO, hb⟩ := hrel
    clear HO1 HB1
    have HB := Lib.hid hb
    by_cases hlt : j < m
    · have hjl : j < ls.length := by rw [HM.out]; exact hlt
      obtain ⟨ad, hA, hab, hac⟩ := HLS.out (by rw [HM.out]; omega)
      subst hA
      have x3 := (hb.cell (p := ad.add j) (by rw [add_block]; exact hab)).trans (hac j hjl)
      have hsl := HS.out ls[j] (List.getElem_mem hjl)
      have HST := Lib.hid (foldL_step key ls hjl)
      have h30 := HK30.out (ls.take j)
      generalize ls[j] = s at *
      obtain ⟨sl, hsle⟩ : ∃ sl, s.length = sl := ⟨_, rfl⟩
      have hsz := str_sz hsle
      rw [hsle] at HST hsl
      generalize foldL key (ls.take j) = K at *
      obtain ⟨Ak, ck, hkv, hrk, hck⟩ := hO.form
      obtain ⟨kl, hkl⟩ : ∃ kl, K.length = kl := ⟨_, rfl⟩
      rw [hkl] at hkv hck h30
      subst hkv
      have HRK := Lib.hid hrk
      have HKLn := Lib.hid hkl
      have HSL := Lib.hid hsle
      have hzr := hb.size
      have ji : (j : Int) < (m : Int) := by omega
      clear hO hb hac hjl hrk hkl hsle
      go_wp2_with fail
      refine (eight_any sl wr).mono ?_
      rintro e w2 ⟨v8, rfl, hO8, hb8⟩
      obtain ⟨A8, c8, hv8, hr8, hc8⟩ := hO8.form
      rw [be8_len] at hv8 hc8
      subst hv8
      obtain ⟨_, _, hcm8⟩ := Sha.own_len hO8
      have hz2 := hb8.size
      obtain ⟨Wb, cb, hrun, hRb, hBb, hzb, hcb, hcbm⟩ := conv_bytes w2 s sl HSL.out (by omega)
      have HB2 := Lib.hid (HB.out.trans (hb8.mono hzr))
      have HR8 := Lib.hid (rd_now hr8 hBb)
      have HRB := Lib.hid (hRb.more (show w2.heap.size + 1 ≤ Wb.heap.size by omega))
      have HRK2 := Lib.hid (rd_now (rd_now HRK.out hb8) hBb)
      have HBB := Lib.hid (HB2.out.trans (hBb.mono (by omega)))
      have hW2 : w2.heap.size ≤ Wb.heap.size := by omega
      have HZB := Lib.hid hzb
      clear hO8 hb8 hr8 hRb hBb hzb
      go_wp2_with fail
      have hq := parts_new (w := Wb) (S := fun k => k < Wb.heap.size) (T' := fun x => x < (Wb.alloc (.cells #[.slice A8 8 c8, .slice (some ⟨w2.heap.size, 0, none⟩) sl cb] 22)).heap.size) 22 [(⟨A8, 8, c8, be8 sl⟩ : Part), ⟨some ⟨w2.heap.size, 0, none⟩, sl, cb, s⟩]
        (by
          intro q hq
          simp only [List.mem_cons, List.not_mem_nil, or_false] at hq
          rcases hq with rfl | rfl
          · exact ⟨be8_len _, hc8, hcm8, HR8.out.s (fun _ h => h)⟩
          · exact ⟨HSL.out, hcb, hcbm, HRB.out.s (fun _ h => h)⟩) (fun _ h => h) (by simp) (fun x hx => by simp; omega)
      have hba : Below Wb.heap.size Wb (Wb.alloc (.cells #[.slice A8 8 c8, .slice (some ⟨w2.heap.size, 0, none⟩) sl cb] 22)) := (Below.refl _ _).alloc (Nat.le_refl _) _
      have hbo : bytesOf [(⟨A8, 8, c8, be8 sl⟩ : Part), ⟨some ⟨w2.heap.size, 0, none⟩, sl, cb, s⟩] = be8 sl ++ s := by simp [bytesOf]
      refine (mac_any Ak kl ck K _ HKLn.out (by omega) (rd_now HRK2.out hba) _ 2 2 _ hq rfl (by omega) (by rw [hbo, List.length_append, be8_len, HSL.out]; omega)).mono ?_
      rw [hbo, ← HST.out]
      rintro e w5 ⟨v5, rfl, hO5, hb5⟩
      have hzb := HZB.out
      have hz5 : w.heap.size ≤ w2.heap.size := HB2.out.size
      have HO5 := Lib.hid (Own.mono hO5 (show w.heap.size ≤ (Wb.alloc (.cells #[.slice A8 8 c8, .slice (some ⟨w2.heap.size, 0, none⟩) sl cb] 22)).heap.size by simp; omega))
      have HB5 := Lib.hid ((HBB.out.trans (hba.mono (by omega))).trans (hb5.mono (by simp; omega)))
      clear hq hba hbo hO5 hb5 hzb
      go_wp2_with fail
      go_roundw
      case rel => exact ⟨j + 1, by omega, by go_num, HO5.out, HB5.out⟩
      case measure => simp [intOf] <;> omega
    · obtain rfl : j = m := by omega
      rw [List.take_of_length_le (by rw [HM.out]; exact Nat.le_refl _)] at hO
      have HO := Lib.hid hO
      clear hO hb
      go_wp2_with fail
      go_ret
      exact ⟨_, rfl, HO.out, HB.out⟩
end Go.Proofs.YtkgnnlglabihkaaGreatDoor.Top

/- FF1: a number in bytes; half. Contracts. -/
namespace Go.Proofs.YtkgnnlglabihkaaGreatDoor.Top
open Go Go.ChangeShapes Go.WideShapes Go.ChangeAt Go.RowKit Go.Proofs.YtkgnnlglabihkaaGreatDoor.Aes Go.Proofs.YtkgnnlglabihkaaGreatDoor.Str
set_option linter.unusedVariables false
set_option linter.unusedSimpArgs false
def nbL (n size j : Nat) : UInt8 := UInt8.ofNat (n / 256 ^ (size - 1 - j))
def numL (n size : Nat) : List UInt8 := (List.range size).map (nbL n size)
theorem numL_len (n size : Nat) : (numL n size).length = size := by simp [numL]
def nuL (n size k : Nat) : List UInt8 := (List.range size).map fun j => if size - k ≤ j then nbL n size j else 0
theorem nuL_len (n size k : Nat) : (nuL n size k).length = size := by simp [nuL]
theorem nuL_at {n size k j : Nat} (hj : j < size) : (nuL n size k)[j]? = some (if size - k ≤ j then nbL n size j else 0) := by simp [nuL, hj]
theorem nuL_zero (n size : Nat) : nuL n size 0 = List.replicate size 0 := by
  apply List.ext_getElem?
  intro i
  by_cases hi : i < size
  · rw [nuL_at hi, if_neg (by omega), List.getElem?_replicate, if_pos hi]
  · rw [List.getElem?_eq_none (by rw [nuL_len]; omega), List.getElem?_eq_none (by simp; omega)]
theorem nuL_all (n size : Nat) : nuL n size size = numL n size := by
  unfold nuL numL
  refine List.map_congr_left fun j _ => ?_
  rw [if_pos (by omega)]
theorem nuL_set {n size k : Nat} (hk : k < size) : (nuL n size k).set (size - 1 - k) (nbL n size (size - 1 - k)) = nuL n size (k + 1) := by
  apply List.ext_getElem?
  intro i
  rw [List.getElem?_set]
  by_cases hi : i < size
  · rw [nuL_at hi, nuL_at hi]
    by_cases e : size - 1 - k = i
    · rw [if_pos e, if_pos (by rw [nuL_len]; omega), if_pos (by omega), e]
    · rw [if_neg e]
      by_cases h1 : size - k ≤ i
      · rw [if_pos h1, if_pos (by omega)]
      · rw [if_neg h1, if_neg (by omega)]
  · have h1 : (nuL n size k)[i]? = none := List.getElem?_eq_none (by rw [nuL_len]; omega)
    have h2 : (nuL n size (k + 1))[i]? = none := List.getElem?_eq_none (by rw [nuL_len]; omega)
    rw [h1, h2, if_neg (by omega)]
set_option maxRecDepth 100000 in
set_option maxHeartbeats 2000000 in
theorem fnum_any (n size : Nat) (hs8 : size ≤ 8) (hn : n < 9223372036854775808) (w : World) :
    Calls Tryz.prog 55 #[.int .i64 (n : Int), .int .i64 (size : Int)] w fun e w' => e = .returned (.slice (some ⟨w.heap.size, 0, none⟩) size size) ∧ Aes.RowV w' 5 w.heap.size (bvs (numL n size)) ∧ Below w.heap.size w w' := by
  have hr0 : Aes.RowV (w.alloc (.cells (bvs (List.replicate size 0)).toArray 5)) 5 w.heap.size (bvs (nuL n size 0)) := by rw [nuL_zero]; exact heap_alloc_new w _
  have hb0 : Below w.heap.size w (w.alloc (.cells (bvs (List.replicate size 0)).toArray 5)) := (Below.refl _ _).alloc (Nat.le_refl _) _
  have H0 := Lib.hid (And.intro hr0 hb0)
  clear hr0 hb0
  go_enter Tryz.func55, Tryz.ntmps55
  go_wp2_with (with_reducible refine at_slot 8 ?_
               refine wpList_make_u8 Go.Proofs.YtkgnnlglabihkaaGreatDoor.u8 rfl (.tmp 7) (.tmp 7) rfl .i64 .i64 _ _ size size rfl rfl rfl rfl (by omega) (by omega) ?_)
  generalize w.alloc (.cells (bvs (List.replicate size 0)).toArray 5) = W0 at *
  go_loopw [0, 6, 11] (fun nv _ iv wr => ∃ k : Nat, k ≤ size ∧ iv = .int .i64 (k : Int) ∧ nv = .int .i64 ((n / 256 ^ k : Nat) : Int) ∧ Aes.RowV wr 5 w.heap.size (bvs (nuL n size k)) ∧ Below w.heap.size w wr) (fun _ _ iv _ => size - (intOf iv).toNat)
  case atStart => exact ⟨0, by omega, rfl, by rw [Nat.pow_zero, Nat.div_one], H0.out.1, H0.out.2⟩
  case round =>
    obtain ⟨k, hk, rfl, rfl, hr, hb⟩ := hrel
    clear H0
    by_cases hlt : k < size
    · have hj : size - 1 - k < size := by omega
      obtain ⟨u, hu⟩ : ∃ u, wr.cell? ⟨w.heap.size, size - 1 - k, none⟩ = some u := ⟨_, hr.cell (bvs_get (l := nuL n size k) (j := size - 1 - k) (by rw [nuL_len]; exact hj))⟩
      have f1 := hr.frozen (size - 1 - k)
      have hset := hr.set (size - 1 - k) (bv (nbL n size (size - 1 - k)))
      rw [bvs_set, nuL_set hlt] at hset
      have hb2 := hb.setCell (p := ⟨w.heap.size, size - 1 - k, none⟩) (Nat.le_refl _) (bv (nbL n size (size - 1 - k)))
      have hbyte : IntKind.u8.wrap ((n / 256 ^ k : Nat) : Int) = ((nbL n size (size - 1 - k)).toNat : Int) := by
        unfold nbL
        rw [show size - 1 - (size - 1 - k) = k by omega, UInt8.toNat_ofNat', IntKind.wrap_u8]
        omega
      have hdd : n / 256 ^ (k + 1) = n / 256 ^ k / 256 := by rw [Nat.pow_succ, Nat.div_div_eq_div_mul]
      have hale : n / 256 ^ k ≤ n := Nat.div_le_self _ _
      have HDD := Lib.hid hdd
      rw [Aes.bv_int] at hset hb2
      generalize (nbL n size (size - 1 - k)).toNat = y at *
      clear hdd hr hb
      generalize n / 256 ^ k = a at *
      obtain ⟨q, hqa⟩ : ∃ q, a / 256 = q := ⟨_, rfl⟩
      have hqi : (a : Int) / 256 = (q : Int) := by omega
      have hqs : (a : Int) / 2 ^ 8 = (q : Int) := by omega
      rw [hqa] at HDD
      obtain ⟨j, hjj⟩ : ∃ j, size - 1 - k = j := ⟨_, rfl⟩
      rw [hjj] at hu f1 hset hb2 hj
      have hji : (size : Int) - 1 - (k : Int) = (j : Int) := by omega
      have jsz : (j : Int) < (size : Int) := by omega
      have HS := Lib.hid hset
      have HB := Lib.hid hb2
      clear hset hb2 hqa hjj hale
      go_wp2
      go_roundw
      case rel => exact ⟨k + 1, by omega, by go_num, by rw [HDD.out], HS.out, HB.out⟩
      case measure => simp [intOf] <;> omega
    · obtain rfl : k = size := by omega
      rw [nuL_all] at hr
      have HR := Lib.hid hr
      have HB := Lib.hid hb
      clear hr hb
      go_wp2
      go_ret
      exact ⟨rfl, HR.out, HB.out⟩
def halfN (n round : Nat) : Nat := (n + round % 2) / 2
set_option maxRecDepth 100000 in
theorem half_any (n round : Nat) (hn : n ≤ 1000) (hr : round ≤ 1000) (w : World) :
    Calls Tryz.prog 33 #[.int .i64 (n : Int), .int .i64 (round : Int)] w fun e w' => e = .returned (.int .i64 (halfN n round : Int)) ∧ w = w' := by
  obtain ⟨r, hr'⟩ : ∃ r, round % 2 = r := ⟨_, rfl⟩
  have hri : (round : Int) % 2 = (r : Int) := by omega
  obtain ⟨q, hq⟩ : ∃ q, (n + r) / 2 = q := ⟨_, rfl⟩
  have hv : halfN n round = q := by unfold halfN; rw [hr', hq]
  have hqi : ((n : Int) + (r : Int)) / 2 = (q : Int) := by omega
  have hqt : ((n : Int) + (r : Int)).tdiv 2 = (q : Int) := by rw [Int.tdiv_eq_ediv_of_nonneg (by omega)]; exact hqi
  have r1 : r ≤ 1 := by omega
  have hw : wrap64 (q : Int) = (q : Int) := by unfold wrap64; omega
  have HW := Lib.hid hw
  rw [hv]
  clear hv hq hr' hw
  go_enter Tryz.func33, Tryz.ntmps33
  go_wp2
  go_ret
  first | exact ⟨rfl, rfl⟩ | exact ⟨by rw [← HW.out]; rfl, rfl⟩ | exact ⟨by simp [HW.out], rfl⟩
end Go.Proofs.YtkgnnlglabihkaaGreatDoor.Top

/- FF1: rows of blocks chained. Contract of chain. -/
namespace Go.Proofs.YtkgnnlglabihkaaGreatDoor.Top
open Go Go.ChangeShapes Go.WideShapes Go.ChangeAt Go.RowKit Go.Proofs.YtkgnnlglabihkaaGreatDoor.Aes Go.Proofs.YtkgnnlglabihkaaGreatDoor.Str
set_option linter.unusedVariables false
set_option linter.unusedSimpArgs false
def Stop (p : Prop) : Prop := p
theorem stop_here {p : Prop} (h : Stop p) : p := h
def xk (s p : List UInt8) (k : Nat) : List UInt8 := (List.range 16).map fun i => if i < k then s.getD i 0 ^^^ p.getD i 0 else s.getD i 0
theorem xk_len (s p : List UInt8) (k : Nat) : (xk s p k).length = 16 := by simp [xk]
theorem xk_at {s p : List UInt8} {k i : Nat} (hi : i < 16) : (xk s p k)[i]? = some (if i < k then s.getD i 0 ^^^ p.getD i 0 else s.getD i 0) := by simp [xk, hi]
theorem xk_zero {s : List UInt8} (h : s.length = 16) (p : List UInt8) : xk s p 0 = s := by
  apply List.ext_getElem?
  intro i
  by_cases hi : i < 16
  · rw [xk_at hi, if_neg (by omega)]; simp [List.getD_eq_getElem?_getD, List.getElem?_eq_getElem (show i < s.length by omega)]
  · rw [List.getElem?_eq_none (by rw [xk_len]; omega), List.getElem?_eq_none (by omega)]
theorem xk_set {s p : List UInt8} {k : Nat} (hk : k < 16) : (xk s p k).set k (s.getD k 0 ^^^ p.getD k 0) = xk s p (k + 1) := by
  apply List.ext_getElem?
  intro i
  rw [List.getElem?_set]
  by_cases hi : i < 16
  · rw [xk_at hi, xk_at hi]
    by_cases e : k = i
    · subst e; rw [if_pos rfl, if_pos (by rw [xk_len]; omega), if_pos (by omega)]
    · rw [if_neg e]
      by_cases h1 : i < k
      · rw [if_pos h1, if_pos (by omega)]
      · rw [if_neg h1, if_neg (by omega)]
  · have h1 : (xk s p k)[i]? = none := List.getElem?_eq_none (by rw [xk_len]; omega)
    have h2 : (xk s p (k + 1))[i]? = none := List.getElem?_eq_none (by rw [xk_len]; omega)
    rw [h1, h2, if_neg (by omega)]
def cbc (key : Blk) : Nat → List UInt8 → List UInt8 → List UInt8
  | 0, s, _ => s
  | k + 1, s, p => cbc key k (enc key (xk s p 16)) (p.drop 16)
theorem cbc_len {key : Blk} (hk : KeyOk key) : ∀ (n : Nat) (s p : List UInt8), s.length = 16 → (cbc key n s p).length = 16
  | 0, s, p, h => h
  | n + 1, s, p, h => cbc_len hk n _ _ (enc_length hk (xk_len _ _ _))
def chainL (key : Blk) (n : Nat) (p : List UInt8) : List UInt8 := cbc key n (List.replicate 16 0) p
theorem RdS.drop {w : World} {S : Nat → Prop} {A : Option Addr} {l : List UInt8} (h : RdS w S A l) (k : Nat) {cap : Nat} (hc : l.length ≤ cap) : RdS w S (if cap = k then A else A.map (·.add k)) (l.drop k) := fun h0 => by
  rw [List.length_drop] at h0
  obtain ⟨ad, rfl, hb, hcell⟩ := h (by omega)
  refine ⟨ad.add k, ?_, by rw [add_block]; exact hb, fun j hj => ?_⟩
  · rw [if_neg (by omega)]; rfl
  · rw [add_add, hcell (k + j) (by rw [List.length_drop] at hj; omega)]; simp
/-- behind a use of a key: its blocks, what it left alone -/
def KOut (w w' : World) (base g : Nat) (B : Nat → Prop) (key : Blk) (v : Value) : Prop := ∃ B' : Nat → Prop, KeyIs w' base B' g key ∧ Frame (Off w B) w w' ∧ (∀ k, B' k → B k ∨ w.heap.size ≤ k) ∧ ∀ k, v.ownBlock = some k → ¬ B' k
set_option maxRecDepth 20000 in
theorem argS_from {w : World} {S : Nat → Prop} {A : Option Addr} {n c k : Nat} {l : List UInt8} (hr : RdS w S A l) (hn : l.length = n) (hk : k ≤ n) (hc : n ≤ c) : ∃ A', (∀ w' : World, (Instr.slice 22 (.slice A n c) (some (.int .i64 (k : Int))) none none).run Tryz.prog w' = .ok (.slice A' (n - k) (c - k)) w') ∧ RdS w S A' (l.drop k) := by
  have hu : Tryz.prog.underlying 22 = some (.slice (Tryz.prog.elem 22)) := by kernel_rfl
  have hz : ∀ w, (sizeOf (Tryz.prog.elem 22)).run Tryz.prog w = .ok 1 w := fun w => by kernel_rfl
  refine ⟨if c = k then A else A.map (·.add k), fun w' => ?_, RdS.drop hr k (by omega)⟩
  rw [run_slice_l w' _ _ _ _ hu .i64 (k : Int) (by omega) (by omega), hz, Result.andThen_ok, sliced]
  simp
set_option maxRecDepth 100000 in
set_option maxHeartbeats 4000000 in
theorem chain_any (base : Nat) (B : Nat → Prop) (g : Nat) (key p : List UInt8) (A : Option Addr) (K n c : Nat) (w : World) (h : KeyIs w base B g key) (hbase : base ≤ w.heap.size) (hp : p.length = n) (hn : n = 16 * K) (hK : K ≤ 4) (hc : n ≤ c) (hr : RdS w (Off w B) A p) :
    Calls Tryz.prog 56 #[.agg #[.pointer (some ⟨g, 0, none⟩)], .slice A n c] w fun e w' => ∃ v, e = .returned v ∧ Own w' 5 w.heap.size v (chainL key K p) ∧ KOut w w' base g B key v := by
  have HH := Lib.hid h
  have HP := Lib.hid hp
  have HN := Lib.hid hn
  have HR := Lib.hid hr
  have hokK := Lib.hid h.ok
  have HKK := Lib.hid hK
  have hsz1 : (w.alloc (.cells #[.pointer (some ⟨g, 0, none⟩)] 82)).heap.size = w.heap.size + 1 := by simp
  have ho0 : Own ((w.alloc (.cells #[.pointer (some ⟨g, 0, none⟩)] 82)).alloc (.cells (bvs (List.replicate 16 0)).toArray 5)) 5 w.heap.size (.slice (some ⟨w.heap.size + 1, 0, none⟩) 16 16) (List.replicate 16 0) := by
    have hrow : Row ((w.alloc (.cells #[.pointer (some ⟨g, 0, none⟩)] 82)).alloc (.cells (bvs (List.replicate 16 0)).toArray 5)) 5 (w.heap.size + 1) (List.replicate 16 0 ++ []) := by
      rw [← hsz1, List.append_nil]; exact Row.new _ _ _
    exact hrow.toOwn (by omega) (by simp) (by simp) (by omega)
  have hf0 : Frame (fun k => k < w.heap.size) w ((w.alloc (.cells #[.pointer (some ⟨g, 0, none⟩)] 82)).alloc (.cells (bvs (List.replicate 16 0)).toArray 5)) :=
    ((Frame.refl _ w).alloc (fun k hk => hk) _).alloc (fun k hk => by simp; omega) _
  have hc0 : ((w.alloc (.cells #[.pointer (some ⟨g, 0, none⟩)] 82)).alloc (.cells (bvs (List.replicate 16 0)).toArray 5)).cell? ⟨w.heap.size, 0, none⟩ = some (.pointer (some ⟨g, 0, none⟩)) := by
    rw [World.cell?_alloc_lt _ _ _ (by simp), cell_of_row _ _ 0 _ 82 (0, 0) (heap_alloc_new w _)]
    rfl
  have hz0 : w.heap.size < ((w.alloc (.cells #[.pointer (some ⟨g, 0, none⟩)] 82)).alloc (.cells (bvs (List.replicate 16 0)).toArray 5)).heap.size := by simp; omega
  have hnb : ∀ k, w.heap.size ≤ k → ¬ B k := fun k hk hb => by have := (h.lt k hb).2; omega
  have hk0 := h.frame hf0 (fun k hk => (h.lt k hk).2)
  have hr0 := RdS.frame hr (hf0.mono (fun k hk => hk.1))
  have HO0 := Lib.hid ho0
  have HF0 := Lib.hid hf0
  have HC0 := Lib.hid hc0
  have HZ0 := Lib.hid hz0
  have HNB := Lib.hid hnb
  have HK0 := Lib.hid hk0
  have HR0 := Lib.hid hr0
  clear h hp hn hr ho0 hf0 hc0 hz0 hnb hk0 hr0 hsz1 hK
  go_enter Tryz.func56, Tryz.ntmps56
  go_wp2_with (with_reducible refine at_slot 7 ?_
               refine wpList_make_u8 Go.Proofs.YtkgnnlglabihkaaGreatDoor.u8 rfl _ _ rfl .i64 .i64 _ _ 16 16 rfl rfl rfl rfl (by omega) (by omega) ?_)
  rw [show List.replicate 16 (0 : UInt8) = [0, 0, 0, 0, 0, 0, 0, 0, 0, 0, 0, 0, 0, 0, 0, 0] from rfl] at HO0 HF0 HC0 HZ0 HK0 HR0
  generalize ((w.alloc (.cells #[.pointer (some ⟨g, 0, none⟩)] 82)).alloc (.cells (bvs [0, 0, 0, 0, 0, 0, 0, 0, 0, 0, 0, 0, 0, 0, 0, 0]).toArray 5)) = W0 at *
  go_loopw [1, 5] (fun pv sv wr => ∃ (r m cc : Nat) (A' : Option Addr) (q s : List UInt8) (Bk : Nat → Prop), Hid (r ≤ K ∧ m = 16 * r ∧ q.length = m ∧ m ≤ cc ∧ s.length = 16 ∧ cbc key r s q = chainL key K p) ∧ pv = .slice A' m cc ∧ RdS wr (Off w B) A' q ∧ Own wr 5 w.heap.size sv s ∧ KeyIs wr base Bk g key ∧ (∀ k, Bk k → B k ∨ w.heap.size ≤ k) ∧ (¬ Bk w.heap.size) ∧ wr.cell? ⟨w.heap.size, 0, none⟩ = some (.pointer (some ⟨g, 0, none⟩)) ∧ (∀ k, sv.ownBlock = some k → ¬ Bk k ∧ k ≠ w.heap.size) ∧ Frame (Off w B) w wr ∧ w.heap.size < wr.heap.size) (fun pv _ _ => lenV pv)
  case atStart => exact ⟨K, n, c, A, p, [0, 0, 0, 0, 0, 0, 0, 0, 0, 0, 0, 0, 0, 0, 0, 0], B, Lib.hid ⟨Nat.le_refl _, HN.out, HP.out, hc, rfl, rfl⟩, rfl, HR0.out, HO0.out, HK0.out, fun k hk => .inl hk, HNB.out _ (Nat.le_refl _), HC0.out, (fun k hk => by injection hk with hk; change w.heap.size + 1 = k at hk; subst hk; exact ⟨HNB.out _ (by omega), by omega⟩), HF0.out.mono (fun k hk => hk.1), HZ0.out⟩
  case round =>
    obtain ⟨r, m, cc, A', q, s, Bk, HL, rfl, hrq, hos, hkk, hBk, hbx, hcb, hsn, hfr, hzr⟩ := hrel
    clear HO0 HF0 HC0 HZ0 HK0 HR0
    by_cases h0 : r = 0
    · obtain rfl : m = 0 := by have := HL.out.2.1; omega
      have HE := Lib.hid (show s = chainL key K p by have := HL.out.2.2.2.2.2; rw [h0] at this; exact this)
      subst h0
      have HO := Lib.hid hos
      have HA := Lib.hid hkk
      have HB := Lib.hid hBk
      have HS := Lib.hid hsn
      have HF := Lib.hid hfr
      clear hos hkk hBk hsn hfr hrq
      go_wp2
      go_ret
      exact ⟨_, rfl, by rw [← HE.out]; exact HO.out, Bk, HA.out, HF.out, HB.out, fun k hk => (HS.out k hk).1⟩
    · obtain ⟨gs, cs, rfl, hcs, hgs, hgsl⟩ := own_g hos HL.out.2.2.2.2.1 (by omega)
      have hm16 : 16 ≤ m := by have := HL.out.2.1; omega
      have hmi : (0 : Int) < (m : Int) := by omega
      have h0m : 0 < m := by omega
      obtain ⟨ad, rfl, hSad, hcell⟩ := hrq (by have := HL.out.2.2.1; omega)
      have hcell' : ∀ j, j < 16 → wr.cell? (ad.add j) = some (bv (q.getD j 0)) := fun j hj => by
        have hq : j < q.length := by have := HL.out.2.2.1; omega
        rw [hcell j hq]; simp [List.getD_eq_getElem?_getD, hq]
      have hadg : ad.block ≠ gs := fun e => by have := hSad.1; omega
      have hgb : gs ≠ w.heap.size := (hsn gs rfl).2
      have hgB : ¬ Bk gs := (hsn gs rfl).1
      have HRQ := Lib.hid hrq
      have HKY := Lib.hid hkk
      have HB := Lib.hid hBk
      have HBX := Lib.hid hbx
      have HCB := Lib.hid hcb
      have HF := Lib.hid hfr
      have HCE := Lib.hid hcell'
      have HGG := Lib.hid (And.intro hadg (And.intro hgb hgB))
      have hx0 : Own wr 5 w.heap.size (.slice (some ⟨gs, 0, none⟩) 16 cs) (xk s q 0) := by rw [xk_zero HL.out.2.2.2.2.1]; exact hos
      have HX0 := Lib.hid hx0
      have HM16 := Lib.hid hm16
      clear hrq hkk hBk hbx hcb hfr hcell' hcell hadg hgb hgB hx0 hos hsn hSad
      obtain ⟨wo, rfl⟩ : ∃ wo : World, wo = wr := ⟨_, rfl⟩
      go_wp2_with fail
      go_loopw [15] (fun jv wi => ∃ j : Nat, j ≤ 16 ∧ jv = .int .i64 (j : Int) ∧ Own wi 5 w.heap.size (.slice (some ⟨gs, 0, none⟩) 16 cs) (xk s q j) ∧ Frame (fun k => k ≠ gs) wo wi) (fun jv _ => 16 - (intOf jv).toNat)
      case atStart => exact ⟨0, by omega, rfl, HX0.out, Frame.refl _ _⟩
      case round =>
        obtain ⟨j, hj, rfl, ho, hf⟩ := hrel
        clear HX0
        by_cases hlt : j < 16
        · have c1 := (ho.at_g (i := j) (by rw [xk_len]; exact hlt)).2.2.1
          have f1 := (ho.at_g (i := j) (by rw [xk_len]; exact hlt)).2.2.2.1
          have hset := (ho.at_g (i := j) (by rw [xk_len]; exact hlt)).2.2.2.2 (s.getD j 0 ^^^ q.getD j 0)
          rw [xk_set hlt] at hset
          have hgx : (xk s q j)[j]'(by rw [xk_len]; exact hlt) = s.getD j 0 := by
            have := xk_at (s := s) (p := q) (k := j) hlt
            rw [if_neg (by omega), List.getElem?_eq_getElem (by rw [xk_len]; exact hlt)] at this
            injection this
          rw [hgx] at c1
          have c2 : wr.cell? (ad.add j) = some (bv (q.getD j 0)) := by
            rw [← HCE.out j hlt]
            exact World.cell?_of_block (by rw [add_block]; exact hf.block _ HGG.out.1)
          have hf2 := hf.setCell (p := ⟨gs, j, none⟩) (fun h => h rfl) (bv (s.getD j 0 ^^^ q.getD j 0))
          have hx := u8x (s.getD j 0) (q.getD j 0)
          rw [Aes.bv_int] at c1 c2 hset hf2
          have HSET := Lib.hid hset
          have HF2 := Lib.hid hf2
          clear hset hf2 ho hf hgx
          generalize (s.getD j 0 ^^^ q.getD j 0).toNat = z at *
          generalize (s.getD j 0).toNat = x at *
          generalize (q.getD j 0).toNat = y at *
          have hjm : (j : Int) < (m : Int) := by omega
          have hjmn : j < m := by omega
          go_wp2_with fail
          refine wp_region_still_tail 10 (by kernel_rfl) (by kernel_rfl) ?_
          change wpStill _ _ (World.drew wr) (fun a' => wpList _ _ _ _ a' (World.drew wr)) _ _
          simp only [List.take_succ_cons, List.take_zero, List.drop_succ_cons, List.drop_zero]
          repeat still_step
          refine wpStill_nil ?_
          go_wp2_with fail
          go_roundw
          case rel => exact ⟨j + 1, by omega, by go_num, HSET.out, HF2.out.drew⟩
          case measure => simp [intOf] <;> omega
        · obtain rfl : j = 16 := by omega
          clear HCE
          have hkw : KeyIs wr base Bk g key := HKY.out.frame hf (fun k hk e => HGG.out.2.2 (e ▸ hk))
          have hoff : ∀ k, Off w B k → k ≠ gs := fun k hk e => by have := hk.1; omega
          have hrw := RdS.frame HRQ.out (hf.mono hoff)
          have hfw : Frame (Off w B) w wr := HF.out.trans hf hoff
          have hcw : wr.cell? ⟨w.heap.size, 0, none⟩ = some (.pointer (some ⟨g, 0, none⟩)) := (World.cell?_of_block (a := ⟨w.heap.size, 0, none⟩) (hf.block _ (fun e => HGG.out.2.1 e.symm))).trans HCB.out
          have hzw : w.heap.size < wr.heap.size := Nat.lt_of_lt_of_le hzr hf.size
          have hgl : gs < wr.heap.size := Nat.lt_of_lt_of_le hgsl hf.size
          have hrs : RdS wr (Off wr Bk) (some ⟨gs, 0, none⟩) (xk s q 16) := fun _ => ⟨_, rfl, ⟨hgl, HGG.out.2.2⟩, fun j hj => by
            rw [addr_add, Nat.zero_add]; exact (ho.at_g hj).2.2.1⟩
          have HKW := Lib.hid hkw
          have HRW := Lib.hid hrw
          have HFW := Lib.hid hfw
          have HCW := Lib.hid hcw
          have HRS := Lib.hid hrs
          have hbw : base ≤ wr.heap.size := by omega
          clear hkw hoff hrw hfw hrs ho hf HRQ HF HCB HKY
          go_wp2_with fail
          refine (enc_any base Bk g key _ _ cs wr HKW.out hbw (xk_len s q 16) hcs HRS.out).mono ?_
          rintro e w5 ⟨v5, B5, rfl, hO5, hK5, hF5, hB5, hv5⟩
          have hoo : ∀ k, Off w B k → Off wr Bk k := fun k hk => ⟨by have := hk.1; omega, fun hb => (HB.out k hb).elim hk.2 (fun h => by have := hk.1; omega)⟩
          have hrq5 := RdS.frame HRW.out (hF5.mono hoo)
          have hc5 := (World.cell?_of_block (a := ⟨w.heap.size, 0, none⟩) (hF5.block _ ⟨hzw, HBX.out⟩)).trans HCW.out
          have hfw5 := HFW.out.trans hF5 hoo
          have hz5 := Nat.lt_of_lt_of_le hzw hF5.size
          have hb5 : ∀ k, B5 k → B k ∨ w.heap.size ≤ k := fun k hk => (hB5 k hk).elim (fun h => HB.out k h) (fun h => .inr (by omega))
          have hx5 : ¬ B5 w.heap.size := fun hk => (hB5 _ hk).elim HBX.out (fun h => by omega)
          have hs5 : ∀ k, v5.ownBlock = some k → ¬ B5 k ∧ k ≠ w.heap.size := fun k hk => ⟨hv5 k hk, by have := (hO5.lt k hk).1; omega⟩
          have ho5 := Own.mono hO5 (show w.heap.size ≤ wr.heap.size by omega)
          obtain ⟨r', rfl⟩ : ∃ r', r = r' + 1 := ⟨r - 1, by omega⟩
          have hl5 : r' ≤ K ∧ m - 16 = 16 * r' ∧ (q.drop 16).length = m - 16 ∧ m - 16 ≤ cc - 16 ∧ (enc key (xk s q 16)).length = 16 ∧ cbc key r' (enc key (xk s q 16)) (q.drop 16) = chainL key K p := by
            obtain ⟨l1, l2, l3, l4, l5, l6⟩ := HL.out
            refine ⟨by omega, by omega, by rw [List.length_drop, l3], by omega, enc_length hokK.out (xk_len _ _ _), l6⟩
          obtain ⟨A6, hsl, hr6⟩ := argS_from (k := 16) hrq5 HL.out.2.2.1 HM16.out HL.out.2.2.2.1
          have hsl6 : ∀ w' : World, (Instr.slice 22 (.slice (some ad) m cc) (some (.int .i64 16)) none none).run Tryz.prog w' = .ok (.slice A6 (m - 16) (cc - 16)) w' := hsl
          have HC5 := Lib.hid hc5
          have HF5 := Lib.hid hfw5
          have HB5 := Lib.hid hb5
          have HX5 := Lib.hid hx5
          have HS5 := Lib.hid hs5
          have HO5 := Lib.hid ho5
          have HL5 := Lib.hid hl5
          have HR6 := Lib.hid hr6
          have HK5 : Hid (KeyIs w5 base B5 g key) := Lib.hid (.inr hK5)
          obtain ⟨m6, hm6⟩ : ∃ m6, m - 16 = m6 := ⟨_, rfl⟩
          obtain ⟨c6, hc6⟩ : ∃ c6, cc - 16 = c6 := ⟨_, rfl⟩
          rw [hm6, hc6] at hsl6 HL5
          have HM6 := Lib.hid hm6
          clear hO5 hK5 hF5 hB5 hv5 hoo hrq5 hc5 hfw5 hb5 hx5 hs5 ho5 hl5 hsl hr6 HKW HRW HFW HCW HRS HL hm6 hc6 hcw
          go_wp2_with fail
          go_roundw
          case rel => exact ⟨r', m6, c6, A6, q.drop 16, _, B5, HL5.out, rfl, HR6.out, HO5.out, HK5.out, HB5.out, HX5.out, HC5.out, HS5.out, HF5.out, hz5⟩
          case measure => have := HM6.out; have := HM16.out; simp [lenV]; omega
end Go.Proofs.YtkgnnlglabihkaaGreatDoor.Top
