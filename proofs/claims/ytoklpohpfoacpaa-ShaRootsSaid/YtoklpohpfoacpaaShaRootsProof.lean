/- The law 'ShaRoots' answers true for every input, and its arguments read afterwards as before; no condition. The frame follows the kit's skeleton; the walk is ours. -/
import Derived.Test.YtoklpohpfoacpaaRows
import Derived.Test.YtoklpohpfoacpaaArgs
import Derived.Test.YtoklpohpfoacpaaShaTop
import Derived.Test.YtoklpohpfoacpaaShaLimb
import Derived.Deep.Cut
import Derived.WalkKit
import Derived.ProofKit
import Derived.OpenShut
import Derived.ShutString
import Derived.ChangeOld
import Derived.Below
import Derived.SizedLaws
namespace Go.Proofs.Ytoklpohpfoacpaa.shaRoots
open Go.ChangeShapes Go.WideShapes Go.ChangeAt Go.RowKit
set_option linter.unusedVariables false

theorem own : ownKnob Try.prog.godebug = none := by kernel_rfl
theorem laidOut : laidOutB Try.prog = true := by kernel_rfl

open Sha
set_option linter.unusedSimpArgs false
theorem and63 (n : Int) : ∃ m : Nat, m ≤ 63 ∧ bits BinOp.and IntKind.i64 n 63 = (m : Int) := by
  refine ⟨(BitVec.ofInt 64 n &&& BitVec.ofInt 64 63).toNat, ?_, ?_⟩
  · rw [BitVec.toNat_and]; exact Nat.and_le_right
  · show IntKind.i64.wrap ((BitVec.ofInt 64 n &&& BitVec.ofInt 64 63).toNat : Int) = _
    have : (BitVec.ofInt 64 n &&& BitVec.ofInt 64 63).toNat ≤ 63 := by rw [BitVec.toNat_and]; exact Nat.and_le_right
    exact i64_wraps _ (by omega) (by omega)
def plist : List Nat := [2, 3, 5, 7, 11, 13, 17, 19, 23, 29, 31, 37, 41, 43, 47, 53, 59, 61, 67, 71, 73, 79, 83, 89, 97, 101, 103, 107, 109, 113, 127, 131, 137, 139, 149, 151, 157, 163, 167, 173, 179, 181, 191, 193, 197, 199, 211, 223, 227, 229, 233, 239, 241, 251, 257, 263, 269, 271, 277, 281, 283, 293, 307, 311]
def okCube : Bool := (List.range 64).all fun k => (List.range 7).all fun m => !(decide (m * m * m ≤ plist.getD k 0) && decide (plist.getD k 0 < (m + 1) * (m + 1) * (m + 1))) || (decide ((m * 4294967296 + kw.getD k 0) * (m * 4294967296 + kw.getD k 0) * (m * 4294967296 + kw.getD k 0) < plist.getD k 0 * 64 * 262144 ^ 5) &&
  !decide ((m * 4294967296 + kw.getD k 0 + 1) * (m * 4294967296 + kw.getD k 0 + 1) * (m * 4294967296 + kw.getD k 0 + 1) < plist.getD k 0 * 64 * 262144 ^ 5))
def okSquare : Bool := (List.range 8).all fun k => (List.range 5).all fun m => !(decide (m * m ≤ plist.getD k 0) && decide (plist.getD k 0 < (m + 1) * (m + 1))) || (decide ((m * 4294967296 + hw.getD k 0) * (m * 4294967296 + hw.getD k 0) < plist.getD k 0 * 1024 * 262144 ^ 3) &&
  !decide ((m * 4294967296 + hw.getD k 0 + 1) * (m * 4294967296 + hw.getD k 0 + 1) < plist.getD k 0 * 1024 * 262144 ^ 3))
theorem okCube_true : okCube = true := by decide +kernel
theorem okSquare_true : okSquare = true := by decide +kernel
theorem plist_le : (List.range 64).all (fun k => decide (2 ≤ plist.getD k 0) && decide (plist.getD k 0 ≤ 311)) = true := by decide +kernel
theorem plist_sq : (List.range 8).all (fun k => decide (plist.getD k 0 ≤ 19)) = true := by decide +kernel
theorem cube_get {k m : Nat} (hk : k < 64) (hm : m < 7) (h1 : m * m * m ≤ plist.getD k 0) (h2 : plist.getD k 0 < (m + 1) * (m + 1) * (m + 1)) :
    (m * 4294967296 + kw.getD k 0) * (m * 4294967296 + kw.getD k 0) * (m * 4294967296 + kw.getD k 0) < plist.getD k 0 * 64 * 262144 ^ 5 ∧
    ¬ (m * 4294967296 + kw.getD k 0 + 1) * (m * 4294967296 + kw.getD k 0 + 1) * (m * 4294967296 + kw.getD k 0 + 1) < plist.getD k 0 * 64 * 262144 ^ 5 := by
  have := all_get (all_get okCube_true hk) hm
  simp only [Bool.or_eq_true, Bool.and_eq_true, Bool.not_eq_true', Bool.and_eq_false_iff, decide_eq_true_eq, decide_eq_false_iff_not] at this
  rcases this with (h | h) | h
  · exact absurd h1 h
  · exact absurd h2 h
  · exact h
theorem square_get {k m : Nat} (hk : k < 8) (hm : m < 5) (h1 : m * m ≤ plist.getD k 0) (h2 : plist.getD k 0 < (m + 1) * (m + 1)) :
    (m * 4294967296 + hw.getD k 0) * (m * 4294967296 + hw.getD k 0) < plist.getD k 0 * 1024 * 262144 ^ 3 ∧
    ¬ (m * 4294967296 + hw.getD k 0 + 1) * (m * 4294967296 + hw.getD k 0 + 1) < plist.getD k 0 * 1024 * 262144 ^ 3 := by
  have := all_get (all_get okSquare_true hk) hm
  simp only [Bool.or_eq_true, Bool.and_eq_true, Bool.not_eq_true', Bool.and_eq_false_iff, decide_eq_true_eq, decide_eq_false_iff_not] at this
  rcases this with (h | h) | h
  · exact absurd h1 h
  · exact absurd h2 h
  · exact h

set_option maxRecDepth 100000 in
set_option maxHeartbeats 4000000 in
theorem walk (a0 : Int) (w : World) (w0 : (Lit.int .i64 a0).wf = true) :
    Calls Try.prog 9 #[.int .i64 a0] w fun e w' => e = .returned (.bool true) ∧ Below w.heap.size w w' := by
  obtain ⟨hb0, hb1⟩ := bounds_i64 w0
  obtain ⟨k, hk63, hkb⟩ := and63 a0
  have hpl := all_get plist_le (show k < 64 by omega)
  simp only [Bool.and_eq_true, decide_eq_true_eq] at hpl
  obtain ⟨hp2, hp311⟩ := hpl
  have hkk : (k : Int) < 64 := by omega
  have hcube := fun m => cube_get (k := k) (m := m) (by omega)
  have hkwl := kw_fit.get k
  have hpg : (i64s plist)[k]? = some (.int .i64 ((plist.getD k 0 : Nat) : Int)) := i64s_get (by show k < 64; omega)
  have hsq := fun (h : k < 8) m => square_get (k := k) (m := m) h
  have hps := fun (h : k < 8) => all_get plist_sq h
  simp only [decide_eq_true_eq] at hps
  generalize plist.getD k 0 = p at *
  have HW := Lib.hid (show ∃ W, kw.getD k 0 = W from ⟨_, rfl⟩)
  obtain ⟨W, hW⟩ := HW.out
  rw [hW] at hcube hkwl
  have HCUBE := Lib.hid hcube
  have HSQ := Lib.hid hsq
  have HPS := Lib.hid hps
  have HPG := Lib.hid hpg
  have HKW := Lib.hid hW
  clear hcube hsq hps hpg hW HW
  go_enter Try.func9, Try.ntmps9
  go_wp2_with fail
  refine (small_any _).mono ?_
  rintro e w1 ⟨rfl, hb1'⟩
  have hz1 := hb1'.size
  go_upto_region 4 with (fail)
  have hrow : RowV (w1.alloc (.cells (i64s plist).toArray 3)) 3 w1.heap.size (i64s plist) := heap_alloc_new _ _
  have hcp := hrow.cell HPG.out
  have hbx : Below w.heap.size w (w1.alloc (.cells (i64s plist).toArray 3)) := hb1'.alloc hz1 _
  change Code.wp _ _ _ _ (w1.alloc (.cells (i64s plist).toArray 3))
  generalize w1.alloc (.cells (i64s plist).toArray 3) = wx at *
  have HBX := Lib.hid hbx
  have hzx := hbx.size
  clear hrow hb1' hbx
  go_wp2_with fail
  go_loop [7] (fun x => ∃ m : Nat, 1 ≤ m ∧ m ≤ 6 ∧ x = .int .i64 m ∧ m * m * m ≤ p) (fun x => 7 - (intOf x).toNat)
  case atStart => exact ⟨1, by omega, by omega, rfl, by omega⟩
  case round =>
    obtain ⟨m, hm1, hm6, rfl, hmp⟩ := hrel
    obtain ⟨s, hs⟩ : ∃ s : Nat, s = (m + 1) * (m + 1) := ⟨_, rfl⟩
    obtain ⟨c, hc⟩ : ∃ c : Nat, c = (m + 1) * (m + 1) * (m + 1) := ⟨_, rfl⟩
    have hs49 : s ≤ 49 := by rw [hs]; exact Nat.mul_le_mul (show m + 1 ≤ 7 by omega) (show m + 1 ≤ 7 by omega)
    have hc343 : c ≤ 343 := by rw [hc, ← hs]; exact Nat.mul_le_mul hs49 (show m + 1 ≤ 7 by omega)
    have x1 : ((m : Int) + 1) * ((m : Int) + 1) = (s : Int) := by rw [hs]; push_cast; rfl
    have x2 : (s : Int) * ((m : Int) + 1) = (c : Int) := by rw [hc, hs]; push_cast; rfl
    have hm7 : (m : Int) ≤ 6 := by omega
    have hcc : m = 6 → 343 = c := fun h => by subst h; rw [hc]
    have HC := Lib.hid hc
    have HMP := Lib.hid hmp
    clear hs hc hmp
    by_cases hcp2 : c ≤ p
    · have hm5 : m ≤ 5 := by
        rcases Nat.lt_or_ge m 6 with h | h
        · omega
        · have := hcc (by omega); omega
      clear hcc
      go_wp2_with fail
      go_round
      case rel => exact ⟨m + 1, by omega, by omega, by go_num, by rw [← HC.out]; exact hcp2⟩
      case measure => simp [intOf] <;> omega
    · have hok := HCUBE.out m (by omega) HMP.out (by rw [← HC.out]; omega)
      clear hcc
      go_wp2_with fail
      refine (shaword_any (k : Int) (by omega) (by omega) _).mono ?_
      rw [if_neg (by omega), Int.toNat_natCast, HKW.out]
      rintro e w2 ⟨rfl, hb2⟩
      have hbw2 := HBX.out.trans (hb2.mono hzx)
      have hz2 := hbw2.size
      have HB2 := Lib.hid hbw2
      clear hb2 hbw2
      obtain ⟨v, hv⟩ : ∃ v, v = m * 4294967296 + W := ⟨_, rfl⟩
      rw [← hv] at hok
      have hv35 : v < 34359738368 := by omega
      have hvi : (m : Int) * 4294967296 + (W : Int) = (v : Int) := by omega
      have HOK := Lib.hid hok
      clear hok hv
      obtain ⟨d0, hd0⟩ : ∃ d, d = (v) % 262144 := ⟨_, rfl⟩
      obtain ⟨d1, hd1⟩ : ∃ d, d = (v) / 262144 := ⟨_, rfl⟩
      have hmka : bits BinOp.and IntKind.i64 ((v : Int)) 262143 = (d0 : Int) := by rw [hd0, show ((v : Int)) = (((v) : Nat) : Int) by push_cast; rfl]; exact i64_mask (v) (by omega)
      have hsha : ((v : Int)) / 262144 = (d1 : Int) := by omega
      have HDa := Lib.hid (show Digs 262144 [d0, d1] ∧ val 262144 [d0, d1] = v from ⟨by intro d hd; simp only [List.mem_cons, List.not_mem_nil, or_false] at hd; rcases hd with rfl | rfl <;> omega, by simp only [val]; omega⟩)
      clear hd0 hd1
      obtain ⟨f0, hf0⟩ : ∃ d, d = (v + 1) % 262144 := ⟨_, rfl⟩
      obtain ⟨f1, hf1⟩ : ∃ d, d = (v + 1) / 262144 := ⟨_, rfl⟩
      have hmkb : bits BinOp.and IntKind.i64 ((v : Int) + 1) 262143 = (f0 : Int) := by rw [hf0, show ((v : Int) + 1) = (((v + 1) : Nat) : Int) by push_cast; rfl]; exact i64_mask (v + 1) (by omega)
      have hshb : ((v : Int) + 1) / 262144 = (f1 : Int) := by omega
      have HDb := Lib.hid (show Digs 262144 [f0, f1] ∧ val 262144 [f0, f1] = v + 1 from ⟨by intro d hd; simp only [List.mem_cons, List.not_mem_nil, or_false] at hd; rcases hd with rfl | rfl <;> omega, by simp only [val]; omega⟩)
      clear hf0 hf1
      go_wp2_with fail
      have hrow : OwnV (w2.alloc (.cells #[.int .i64 (d0 : Int), .int .i64 (d1 : Int)] 3)) 3 w.heap.size (.slice (some ⟨w2.heap.size, 0, none⟩) 2 2) (i64s [d0, d1]) := OwnV.row (xs := i64s [d0, d1]) (heap_alloc_new w2 _) (HB2.out.size) rfl (by omega)
      have hbA := HB2.out.alloc (HB2.out.size) (.cells #[.int .i64 (d0 : Int), .int .i64 (d1 : Int)] 3)
      refine (lawtimes_any _ 2 2 [d0, d1] (v) _ _ (Nat.le_refl _) rfl (by omega) (by omega) (HDa.out.1) ((OwnV.rdv hrow).mono (fun k hk => hk.2))).mono ?_
      rintro e wAa ⟨uA, lAa, rfl, hOA, hlA, hdA, hvA, hbB⟩
      have hbC := hbA.trans (hbB.mono hbA.size)
      obtain ⟨AAa, cAa, rfl, _, _⟩ := OwnV.lenN (n := 4) hOA (by rw [i64s_length, hlA])
      have HOAa := Lib.hid ((OwnV.rdv hOA).mono (T := fun k => k < wAa.heap.size) (fun k hk => hk.2))
      have HLAa := Lib.hid (show lAa.length = 4 from hlA)
      have HDAa := Lib.hid hdA
      have HVAa := Lib.hid (show val 262144 lAa = v * v by rw [hvA, HDa.out.2])
      have HBAa := Lib.hid hbC
      clear hrow hbA hOA hlA hdA hvA hbB hbC
      go_wp2_with fail
      refine (lawtimes_any _ 4 _ lAa (v) _ _ (Nat.le_refl _) HLAa.out (by omega) (by omega) HDAa.out HOAa.out).mono ?_
      rintro e wCa ⟨uC, lCa, rfl, hOC, hlC, hdC, hvC, hbD⟩
      have hbE := HBAa.out.trans (hbD.mono HBAa.out.size)
      obtain ⟨ACa, cCa, rfl, _, _⟩ := OwnV.lenN (n := 6) hOC (by rw [i64s_length, hlC])
      have HOCa := Lib.hid ((OwnV.rdv hOC).mono (T := fun k => k < wCa.heap.size) (fun k hk => hk.2))
      have HLCa := Lib.hid (show lCa.length = 6 from hlC)
      have HDCa := Lib.hid hdC
      have HVCa := Lib.hid (show val 262144 lCa = v * v * v by rw [hvC, HVAa.out])
      have HBCa := Lib.hid hbE
      clear hOC hlC hdC hvC hbD hbE
      go_wp2_with fail
      refine (lawbelow3_any _ _ lCa p _ _ (Nat.le_refl _) HLCa.out (by omega) HDCa.out HOCa.out).mono ?_
      rw [HVCa.out, show decide (_ < _) = true from by simpa using HOK.out.1]
      rintro e wEa ⟨rfl, hbF⟩
      have HBEa := Lib.hid (HBCa.out.trans (hbF.mono HBCa.out.size))
      clear hbF
      go_wp2_with fail
      have hrow : OwnV (wEa.alloc (.cells #[.int .i64 (f0 : Int), .int .i64 (f1 : Int)] 3)) 3 w.heap.size (.slice (some ⟨wEa.heap.size, 0, none⟩) 2 2) (i64s [f0, f1]) := OwnV.row (xs := i64s [f0, f1]) (heap_alloc_new wEa _) (HBEa.out.size) rfl (by omega)
      have hbA := HBEa.out.alloc (HBEa.out.size) (.cells #[.int .i64 (f0 : Int), .int .i64 (f1 : Int)] 3)
      refine (lawtimes_any _ 2 2 [f0, f1] ((v + 1)) _ _ (Nat.le_refl _) rfl (by omega) (by omega) (HDb.out.1) ((OwnV.rdv hrow).mono (fun k hk => hk.2))).mono ?_
      rintro e wAb ⟨uA, lAb, rfl, hOA, hlA, hdA, hvA, hbB⟩
      have hbC := hbA.trans (hbB.mono hbA.size)
      obtain ⟨AAb, cAb, rfl, _, _⟩ := OwnV.lenN (n := 4) hOA (by rw [i64s_length, hlA])
      have HOAb := Lib.hid ((OwnV.rdv hOA).mono (T := fun k => k < wAb.heap.size) (fun k hk => hk.2))
      have HLAb := Lib.hid (show lAb.length = 4 from hlA)
      have HDAb := Lib.hid hdA
      have HVAb := Lib.hid (show val 262144 lAb = (v + 1) * (v + 1) by rw [hvA, HDb.out.2])
      have HBAb := Lib.hid hbC
      clear hrow hbA hOA hlA hdA hvA hbB hbC
      go_wp2_with fail
      refine (lawtimes_any _ 4 _ lAb ((v + 1)) _ _ (Nat.le_refl _) HLAb.out (by omega) (by omega) HDAb.out HOAb.out).mono ?_
      rintro e wCb ⟨uC, lCb, rfl, hOC, hlC, hdC, hvC, hbD⟩
      have hbE := HBAb.out.trans (hbD.mono HBAb.out.size)
      obtain ⟨ACb, cCb, rfl, _, _⟩ := OwnV.lenN (n := 6) hOC (by rw [i64s_length, hlC])
      have HOCb := Lib.hid ((OwnV.rdv hOC).mono (T := fun k => k < wCb.heap.size) (fun k hk => hk.2))
      have HLCb := Lib.hid (show lCb.length = 6 from hlC)
      have HDCb := Lib.hid hdC
      have HVCb := Lib.hid (show val 262144 lCb = (v + 1) * (v + 1) * (v + 1) by rw [hvC, HVAb.out])
      have HBCb := Lib.hid hbE
      clear hOC hlC hdC hvC hbD hbE
      go_wp2_with fail
      refine (lawbelow3_any _ _ lCb p _ _ (Nat.le_refl _) HLCb.out (by omega) HDCb.out HOCb.out).mono ?_
      rw [HVCb.out, show decide (_ < _) = false from by simpa using HOK.out.2]
      rintro e wEb ⟨rfl, hbF⟩
      have HBEb := Lib.hid (HBCb.out.trans (hbF.mono HBCb.out.size))
      clear hbF
      have hkd : True := trivial
      by_cases hk7 : 7 < k
      · go_wp2_with fail
        refine (shastart_any (k : Int) (by omega) (by omega) _).mono ?_
        rw [if_pos (by omega)]
        rintro e w9 ⟨rfl, hb9⟩
        go_wp2_with fail
        go_ret
        exact ⟨rfl, HBEb.out.trans (hb9.mono HBEb.out.size)⟩
      · have hk8 : k < 8 := by omega
        have hp19 := HPS.out hk8
        have HSQ2 := Lib.hid (HSQ.out hk8)
        have hhw := hw_fit.get k
        obtain ⟨U, hU⟩ : ∃ U, hw.getD k 0 = U := ⟨_, rfl⟩
        have HU := Lib.hid hU
        rw [hU] at hhw
        clear hU hmka hsha hmkb hshb hvi
        go_wp2_with fail
        go_loop [7] (fun x => ∃ m : Nat, 1 ≤ m ∧ m ≤ 4 ∧ x = .int .i64 m ∧ m * m ≤ p) (fun x => 7 - (intOf x).toNat)
        case atStart => exact ⟨1, by omega, by omega, rfl, by omega⟩
        case round =>
          obtain ⟨m2, hm21, hm24, rfl, hmp2⟩ := hrel
          obtain ⟨s2, hs2⟩ : ∃ s : Nat, s = (m2 + 1) * (m2 + 1) := ⟨_, rfl⟩
          have hs225 : s2 ≤ 25 := by rw [hs2]; exact Nat.mul_le_mul (show m2 + 1 ≤ 5 by omega) (show m2 + 1 ≤ 5 by omega)
          have z1 : ((m2 : Int) + 1) * ((m2 : Int) + 1) = (s2 : Int) := by rw [hs2]; push_cast; rfl
          have hcc2 : m2 = 4 → 25 = s2 := fun h => by subst h; rw [hs2]
          have HS2 := Lib.hid hs2
          have HMP2 := Lib.hid hmp2
          clear hs2 hmp2
          by_cases hsp2 : s2 ≤ p
          · have hm23 : m2 ≤ 3 := by
              rcases Nat.lt_or_ge m2 4 with h | h
              · omega
              · have := hcc2 (by omega); omega
            clear hcc2
            go_wp2_with fail
            go_round
            case rel => exact ⟨m2 + 1, by omega, by omega, by go_num, by rw [← HS2.out]; exact hsp2⟩
            case measure => simp [intOf] <;> omega
          · have hok2 := HSQ2.out m2 (by omega) HMP2.out (by rw [← HS2.out]; omega)
            rw [HU.out] at hok2
            clear hcc2
            go_wp2_with fail
            refine (shastart_any (k : Int) (by omega) (by omega) _).mono ?_
            rw [if_neg (by omega), Int.toNat_natCast, HU.out]
            rintro e w9 ⟨rfl, hb9⟩
            have HB9 := Lib.hid (HBEb.out.trans (hb9.mono HBEb.out.size))
            clear hb9
            obtain ⟨v2, hv2⟩ : ∃ v, v = m2 * 4294967296 + U := ⟨_, rfl⟩
            rw [← hv2] at hok2
            have hv235 : v2 < 34359738368 := by omega
            have hvi2 : (m2 : Int) * 4294967296 + (U : Int) = (v2 : Int) := by omega
            have HOK2 := Lib.hid hok2
            clear hok2 hv2
            obtain ⟨g0, hg0⟩ : ∃ d, d = (v2) % 262144 := ⟨_, rfl⟩
            obtain ⟨g1, hg1⟩ : ∃ d, d = (v2) / 262144 := ⟨_, rfl⟩
            have hmkc : bits BinOp.and IntKind.i64 ((v2 : Int)) 262143 = (g0 : Int) := by rw [hg0, show ((v2 : Int)) = (((v2) : Nat) : Int) by push_cast; rfl]; exact i64_mask (v2) (by omega)
            have hshc : ((v2 : Int)) / 262144 = (g1 : Int) := by omega
            have HDc := Lib.hid (show Digs 262144 [g0, g1] ∧ val 262144 [g0, g1] = v2 from ⟨by intro d hd; simp only [List.mem_cons, List.not_mem_nil, or_false] at hd; rcases hd with rfl | rfl <;> omega, by simp only [val]; omega⟩)
            clear hg0 hg1
            obtain ⟨j0, hj0⟩ : ∃ d, d = (v2 + 1) % 262144 := ⟨_, rfl⟩
            obtain ⟨j1, hj1⟩ : ∃ d, d = (v2 + 1) / 262144 := ⟨_, rfl⟩
            have hmkd : bits BinOp.and IntKind.i64 ((v2 : Int) + 1) 262143 = (j0 : Int) := by rw [hj0, show ((v2 : Int) + 1) = (((v2 + 1) : Nat) : Int) by push_cast; rfl]; exact i64_mask (v2 + 1) (by omega)
            have hshd : ((v2 : Int) + 1) / 262144 = (j1 : Int) := by omega
            have HDd := Lib.hid (show Digs 262144 [j0, j1] ∧ val 262144 [j0, j1] = v2 + 1 from ⟨by intro d hd; simp only [List.mem_cons, List.not_mem_nil, or_false] at hd; rcases hd with rfl | rfl <;> omega, by simp only [val]; omega⟩)
            clear hj0 hj1
            go_wp2_with fail
            have hrow : OwnV (w9.alloc (.cells #[.int .i64 (g0 : Int), .int .i64 (g1 : Int)] 3)) 3 w.heap.size (.slice (some ⟨w9.heap.size, 0, none⟩) 2 2) (i64s [g0, g1]) := OwnV.row (xs := i64s [g0, g1]) (heap_alloc_new w9 _) (HB9.out.size) rfl (by omega)
            have hbA := HB9.out.alloc (HB9.out.size) (.cells #[.int .i64 (g0 : Int), .int .i64 (g1 : Int)] 3)
            refine (lawtimes_any _ 2 2 [g0, g1] (v2) _ _ (Nat.le_refl _) rfl (by omega) (by omega) (HDc.out.1) ((OwnV.rdv hrow).mono (fun k hk => hk.2))).mono ?_
            rintro e wAc ⟨uA, lAc, rfl, hOA, hlA, hdA, hvA, hbB⟩
            have hbC := hbA.trans (hbB.mono hbA.size)
            obtain ⟨AAc, cAc, rfl, _, _⟩ := OwnV.lenN (n := 4) hOA (by rw [i64s_length, hlA])
            have HOAc := Lib.hid ((OwnV.rdv hOA).mono (T := fun k => k < wAc.heap.size) (fun k hk => hk.2))
            have HLAc := Lib.hid (show lAc.length = 4 from hlA)
            have HDAc := Lib.hid hdA
            have HVAc := Lib.hid (show val 262144 lAc = v2 * v2 by rw [hvA, HDc.out.2])
            have HBAc := Lib.hid hbC
            clear hrow hbA hOA hlA hdA hvA hbB hbC
            go_wp2_with fail
            refine (lawbelow2_any _ _ lAc p _ _ (Nat.le_refl _) HLAc.out (by omega) HDAc.out HOAc.out).mono ?_
            rw [HVAc.out, show decide (_ < _) = true from by simpa using HOK2.out.1]
            rintro e wEc ⟨rfl, hbF⟩
            have HBEc := Lib.hid (HBAc.out.trans (hbF.mono HBAc.out.size))
            clear hbF
            go_wp2_with fail
            have hrow : OwnV (wEc.alloc (.cells #[.int .i64 (j0 : Int), .int .i64 (j1 : Int)] 3)) 3 w.heap.size (.slice (some ⟨wEc.heap.size, 0, none⟩) 2 2) (i64s [j0, j1]) := OwnV.row (xs := i64s [j0, j1]) (heap_alloc_new wEc _) (HBEc.out.size) rfl (by omega)
            have hbA := HBEc.out.alloc (HBEc.out.size) (.cells #[.int .i64 (j0 : Int), .int .i64 (j1 : Int)] 3)
            refine (lawtimes_any _ 2 2 [j0, j1] ((v2 + 1)) _ _ (Nat.le_refl _) rfl (by omega) (by omega) (HDd.out.1) ((OwnV.rdv hrow).mono (fun k hk => hk.2))).mono ?_
            rintro e wAd ⟨uA, lAd, rfl, hOA, hlA, hdA, hvA, hbB⟩
            have hbC := hbA.trans (hbB.mono hbA.size)
            obtain ⟨AAd, cAd, rfl, _, _⟩ := OwnV.lenN (n := 4) hOA (by rw [i64s_length, hlA])
            have HOAd := Lib.hid ((OwnV.rdv hOA).mono (T := fun k => k < wAd.heap.size) (fun k hk => hk.2))
            have HLAd := Lib.hid (show lAd.length = 4 from hlA)
            have HDAd := Lib.hid hdA
            have HVAd := Lib.hid (show val 262144 lAd = (v2 + 1) * (v2 + 1) by rw [hvA, HDd.out.2])
            have HBAd := Lib.hid hbC
            clear hrow hbA hOA hlA hdA hvA hbB hbC
            go_wp2_with fail
            refine (lawbelow2_any _ _ lAd p _ _ (Nat.le_refl _) HLAd.out (by omega) HDAd.out HOAd.out).mono ?_
            rw [HVAd.out, show decide (_ < _) = false from by simpa using HOK2.out.2]
            rintro e wEd ⟨rfl, hbF⟩
            have HBEd := Lib.hid (HBAd.out.trans (hbF.mono HBAd.out.size))
            clear hbF
            go_wp2_with fail
            go_ret
            exact ⟨rfl, HBEd.out⟩

set_option maxRecDepth 100000 in
theorem lifted (os : Os) (started : os.Started) (H : Type) (enc : TypeId × Value → H) :
    ReturnsInHanded {} Try.checked os 9 .any (Rows.shaRootsSpec.pre6 enc Try.prog Try.f9 Rows.shaRootsRow.domain false) (Rows.shaRootsSpec.post enc Try.prog Try.f9 false true false false) := by
  refine returnsInHanded_of_change_sized (C := Try.checked) own started (by kernel_rfl) Try.func9
    (ChangeSpec.witness6 (enc := enc) (C := Try.checked) false ⟨#[], #[.int .i64 0], []⟩ 8 (by kernel_rfl) (by kernel_rfl) (by kernel_rfl) (by kernel_rfl)) ?_
  intro W base args ds gs before hval0 hW hcnd hsz0 _
  have hval : ∀ (j : Nat) t v, Try.f9.params[j]? = some t → args[j]? = some v → Value.okWide Try.prog W .any base t v := hval0
  have hsz : (DataW.weightsEach Try.prog (Try.f9.params.toList ++ Rows.shaRootsSpec.plain.varTypes Try.prog) (ds ++ gs)).all (· ≤ reachBytes) = true := hsz0
  clear hsz0
  have hW' := hW
  obtain ⟨p, q, hA0, hV, rfl, hfz, hnd⟩ := hW
  have hA : DataW.TrodAll enc Try.prog W 0 (fun _ => true) true Try.f9.params.toList args.toList ds p := hA0
  rw [Try.params9] at hA hval hsz
  obtain ⟨v0, vs0, d0, ds0, p0, q0, hargs, rfl, rfl, h0, r0⟩ := trodAll_cons hA
  obtain ⟨rfl, rfl, rfl⟩ := trodAll_nil r0
  obtain rfl : args = #[v0] := by cases args; simp_all
  obtain ⟨rfl, rfl⟩ := trodVars_none hV
  clear hsz
  obtain ⟨a0, rfl, rfl, rfl, w0⟩ := open_int Try.underlying3 (hval 0 3 v0 rfl rfl) h0
  clear hA0 hval0
  simp only [List.append_nil] at hW'
  refine (walk a0 W w0).mono fun e W' ⟨he, bel⟩ => ?_
  subst he
  exact ⟨_, rfl, _, _, _, [], _, [], hW', trodAll_mk1 (shut_bool Try.underlying4 _), (trodAll_cons_mk (shut_int Try.underlying3 w0) trodAll_mk0), rfl, bel.frame _, fun h => by cases h⟩

theorem over : Rows.shaRootsRow.holds Try.pinned (OpenSpec.ofChange Rows.shaRootsSpec) :=
  OpenClaim.holds_of_wide 9 Try.f9 rfl rfl rfl rfl rfl rfl rfl ⟨rfl, rfl, rfl, rfl, rfl⟩ rfl rfl rfl rfl rfl (by kernel_rfl) Try.func9 (by kernel_rfl)
    (of_decide_eq_true (by kernel_rfl)) (by unfold Func.isWrapper; first | (rw [if_pos (by decide +kernel)]; kernel_rfl) | (rw [if_neg (by decide +kernel)]; exact ⟨rfl, rfl⟩))
    (fun os started H enc _ => lifted os started H enc)

theorem proved : Rows.ShaRootsSaid := over
end Go.Proofs.Ytoklpohpfoacpaa.shaRoots
