/- What the functions of the sum compute: contracts. -/
import Derived.Test.YtndpaehcjaejpaaRows
import Derived.Test.YtndpaehcjaejpaaCrcPlain
import Derived.Test.YtndpaehcjaejpaaMem
import Derived.Test.YtndpaehcjaejpaaBits
import Derived.WalkLawsBesides
import Derived.WalkSpells
import Derived.Laws.Tables
namespace Go.Proofs.Ytndpaehcjaejpaa.Crc
open Go Go.ChangeShapes Go.WideShapes Go.ChangeAt Go.RowKit
set_option linter.unusedVariables false

theorem run_step (r : Nat) (l : List UInt8) (k : Nat) (h : k < l.length) : run r (l.take (k+1)) = by1 (run r (l.take k)) l[k] := by
  rw [take_snoc h, run_snoc]
theorem sts_snoc (k r : Nat) : sts (k+1) r = st (sts k r) := by
  have := sts_add k 1 r
  exact this

set_option maxRecDepth 100000 in
set_option maxHeartbeats 400000 in
theorem refsum_any (A : Option Addr) (n c : Nat) (l : List UInt8) (w : World) (B : Nat) (hn : l.length = n) (hm : n ≤ 9223372036854775807) (hr : Rd w B A l) :
    Calls Try.prog 13 #[.slice A n c] w fun e w' => e = .returned (.int .i64 ((crc l : Nat) : Int)) ∧ w = w' := by
  subst hn
  go_enter Try.func13, Try.ntmps13
  go_wp2
  go_loop [3, 4, 5, 6] (fun s i _ _ => ∃ k : Nat, k ≤ l.length ∧ i = .int .i64 k ∧ s = .int .u32 (run 4294967295 (l.take k) : Nat)) (fun _ i _ _ => l.length - (intOf i).toNat)
  case atStart => exact ⟨0, by omega, rfl, rfl⟩
  case round =>
    obtain ⟨k, hk, rfl, rfl⟩ := hrel
    have hR := run_lt (l.take k) 4294967295 (by decide)
    by_cases hlt : k < l.length
    · obtain ⟨ad, rfl, _, hc⟩ := hr.at_ hlt
      have hstep := run_step 4294967295 l k hlt
      generalize run 4294967295 (l.take k) = R at hstep hR ⊢
      have hcl := l[k].toNat_lt
      have HS := Lib.hid hstep
      clear hstep
      unfold bv at hc
      have hx : bits BinOp.xor IntKind.u32 (R : Int) ((l[k].toNat : Nat) : Int) = ((R ^^^ l[k].toNat : Nat) : Int) := u32_xor_nat _ _ hR (by omega)
      generalize hX : R ^^^ l[k].toNat = X at hx
      have hXl : X < 4294967296 := by rw [← hX]; exact xor_lt hR (by omega)
      have HX := Lib.hid hX
      clear hX
      go_wp2
      go_loop [3, 5, 6] (fun s j _ => ∃ m : Nat, m ≤ 8 ∧ j = .int .i64 m ∧ s = .int .u32 (sts m X : Nat)) (fun _ j _ => 8 - (intOf j).toNat)
      case atStart => exact ⟨0, by omega, rfl, rfl⟩
      case round =>
        obtain ⟨m, hm8, rfl, rfl⟩ := hrel
        have hS := sts_lt m X hXl
        have hsn := sts_snoc m X
        generalize hSd : sts m X = S at hS hsn ⊢
        have HSN := Lib.hid hsn
        have HSD := Lib.hid hSd
        clear hsn hSd
        by_cases hlt8 : m < 8
        · have hx2 : bits BinOp.xor IntKind.u32 ((S : Int) / 2) 3988292384 = ((S / 2 ^^^ 3988292384 : Nat) : Int) := by
            rw [show ((S : Int) / 2) = ((S / 2 : Nat) : Int) by omega]
            exact u32_xor_nat _ 3988292384 (by omega) (by decide)
          have HX2 := Lib.hid hx2
          clear hx2
          rcases Nat.mod_two_eq_zero_or_one S with e | e
          · have he : ((S : Int) % 2 == 1) = false := by rw [beq_eq_false_iff_ne]; omega
            have E := Lib.hid e
            clear e
            go_wp2
            go_round
            case rel =>
              refine ⟨m + 1, by omega, by go_num, ?_⟩
              rw [HSN.out, st, E.out, Nat.zero_mul, Nat.xor_zero]; go_num
            case measure => simp [intOf]; omega
          · have he : ((S : Int) % 2 == 1) = true := by rw [beq_iff_eq]; omega
            have E := Lib.hid e
            clear e
            go_wp2
            go_round
            case rel =>
              refine ⟨m + 1, by omega, by go_num, ?_⟩
              rw [HX2.out, HSN.out, st, E.out, Nat.one_mul]
            case measure => simp [intOf]; omega
        · have hk8 : m = 8 := by omega
          have E8 := Lib.hid hk8
          clear hk8
          go_wp2
          go_round
          case rel =>
            refine ⟨k + 1, by omega, by go_num, ?_⟩
            rw [HS.out, by1, HX.out, ← HSD.out, E8.out]
          case measure => simp [intOf]; omega
    · have hk2 : k = l.length := by omega
      have hE : l.take k = l := by rw [hk2]; simp
      have HE := Lib.hid hE
      clear hE hk2
      go_wp2
      go_ret
      refine ⟨ret_int ?_, rfl⟩
      have hl := run_lt l 4294967295 (by decide)
      rw [HE.out]
      unfold crc
      omega

/-- the table's row when k of it are made -/
def tabArr (k : Nat) : Array Value := ((List.range 16).map fun i => Value.int .u32 ((if i < k then tab i else 0 : Nat) : Int)).toArray
theorem tabArr_size (k : Nat) : (tabArr k).size = 16 := by simp [tabArr]
theorem tabArr_get (k i : Nat) (h : i < 16) : (tabArr k)[i]? = some (.int .u32 ((if i < k then tab i else 0 : Nat) : Int)) := by simp [tabArr, h]
theorem tabArr_zero : tabArr 0 = #[.int .u32 0, .int .u32 0, .int .u32 0, .int .u32 0, .int .u32 0, .int .u32 0, .int .u32 0, .int .u32 0, .int .u32 0, .int .u32 0, .int .u32 0, .int .u32 0, .int .u32 0, .int .u32 0, .int .u32 0, .int .u32 0] := rfl
theorem tabArr_set (k : Nat) (h : k < 16) : (tabArr k).setIfInBounds k (.int .u32 ((tab k : Nat) : Int)) = tabArr (k+1) := by
  apply Array.ext_getElem?
  intro i
  by_cases hi : i < 16
  · rw [tabArr_get _ _ hi]
    by_cases hik : k = i
    · subst hik
      rw [Array.getElem?_setIfInBounds_self, if_pos (by rw [tabArr_size]; exact h), if_pos (by omega)]
    · rw [Array.getElem?_setIfInBounds_ne hik, tabArr_get _ _ hi]
      by_cases h2 : i < k
      · rw [if_pos h2, if_pos (by omega)]
      · rw [if_neg h2, if_neg (by omega)]
  · rw [Array.getElem?_eq_none (by rw [Array.size_setIfInBounds, tabArr_size]; omega), Array.getElem?_eq_none (by rw [tabArr_size]; omega)]

theorem st_go (S : Nat) (hS : S < 4294967296) : bits BinOp.xor IntKind.u32 ((S : Int) / 2) (bits BinOp.and IntKind.u32 3988292384 (-bits BinOp.and IntKind.u32 (S : Int) 1 % 4294967296)) = ((st S : Nat) : Int) := by
  rw [show (1 : Int) = ((1 : Nat) : Int) from rfl, u32_and_nat S 1 hS (by decide), Nat.and_one_is_mod, show ((S : Int) / 2) = ((S / 2 : Nat) : Int) by omega]
  unfold st
  rcases Nat.mod_two_eq_zero_or_one S with e | e <;> rw [e]
  · rw [show (-((0 : Nat) : Int) % 4294967296) = ((0 : Nat) : Int) from rfl, show (3988292384 : Int) = ((3988292384 : Nat) : Int) from rfl, u32_and_nat _ 0 (by decide) (by decide), Nat.and_zero, u32_xor_nat _ 0 (by omega) (by decide), Nat.zero_mul]
  · rw [show (-((1 : Nat) : Int) % 4294967296) = ((4294967295 : Nat) : Int) from rfl, show (3988292384 : Int) = ((3988292384 : Nat) : Int) from rfl, u32_and_nat _ _ (by decide) (by decide), show 3988292384 &&& 4294967295 = 3988292384 by decide, u32_xor_nat _ _ (by omega) (by decide), Nat.one_mul]
set_option maxRecDepth 100000 in
set_option maxHeartbeats 400000 in
theorem steps_any (w : World) :
    Calls Try.prog 19 #[] w fun e w' => e = .returned (.agg (tabArr 16)) ∧ Below w.heap.size w w' := by
  go_enter Try.func19, Try.ntmps19
  go_wp2
  go_loopw [1, 2, 3] (fun _ _ i wr => ∃ k : Nat, k ≤ 16 ∧ i = .int .i64 k ∧ wr = w.alloc (.cells (tabArr k) 39)) (fun _ _ i _ => 16 - (intOf i).toNat)
  case atStart => exact ⟨0, by omega, rfl, by rw [tabArr_zero]⟩
  case round =>
    obtain ⟨k, hk, rfl, rfl⟩ := hrel
    by_cases hlt : k < 16
    · go_wp2
      go_loop [2, 8] (fun r j => ∃ m : Nat, m ≤ 4 ∧ j = .int .i64 m ∧ r = .int .u32 (sts m k : Nat)) (fun _ j => 4 - (intOf j).toNat)
      case atStart => exact ⟨0, by omega, rfl, rfl⟩
      case round =>
        obtain ⟨m, hm, rfl, rfl⟩ := hrel
        by_cases hlt4 : m < 4
        · have hS := sts_lt m k (by omega)
          have hsn := sts_snoc m k
          generalize sts m k = S at hS hsn ⊢
          have HSN := Lib.hid hsn
          clear hsn
          go_wp2
          go_round
          case rel =>
            refine ⟨m + 1, by omega, by go_num, ?_⟩
            rw [HSN.out, st_go S hS]
          case measure => simp [intOf]; omega
        · have hm4 : m = 4 := by omega
          subst hm4
          have hsz := tabArr_size k
          have ht : k < (tabArr k).size := by omega
          go_wp2
          go_roundw
          case rel =>
            refine ⟨k + 1, by omega, by go_num, ?_⟩
            rw [← tabArr_set k hlt]
            rfl
          case measure => simp [intOf]; omega
    · have hk16 : k = 16 := by omega
      subst hk16
      have hi : (Try.prog.info? 39).map (·.size) = some (tabArr 16).size := by rw [tabArr_size]; kernel_rfl
      have hone : (tabArr 16).all (·.oneCell') = true := by kernel_rfl
      have hnew := heap_alloc_new w (.cells (tabArr 16) 39)
      go_wp2_with (first | (refine wpList_load_row rfl 39 (.tmp 0) rfl w.heap.size rfl 39 (tabArr 16) (0, 0) _ hnew Try.underlying39 rfl hi ?_) | (refine wpList_store_row rfl 39 (.tmp 0) (.tmp 22) rfl w.heap.size (tabArr 16) rfl rfl 39 (tabArr 16) hnew hi rfl hone ?_))
      refine bodyPost_ret (results_cell_row (p := 0) (ty := 39) rfl _ _ w.heap.size 39 (tabArr 16) (0, 0) _ rfl ?_ Try.underlying39 rfl hi) rfl ⟨rfl, ?_⟩
      · exact setRow_heap _ _ _ _ _ _ hnew
      · exact below_setRow_ ((Below.refl _ _).alloc (Nat.le_refl _) _) (Nat.le_refl _) _

/-- PARTS: a slice of slices of bytes -/
structure Part where
  A : Option Addr
  n : Nat
  c : Nat
  l : List UInt8
def Part.val (p : Part) : Value := .slice p.A p.n p.c
def Parts (w : World) (B : Nat) (A : Option Addr) (ps : List Part) : Prop :=
  (0 < ps.length → ∃ ad, A = some ad ∧ ad.block < B ∧ ∀ j (hj : j < ps.length), w.cell? (ad.add j) = some ps[j].val) ∧
  ∀ p ∈ ps, p.l.length = p.n ∧ p.n ≤ 9223372036854775807 ∧ Rd w B p.A p.l
def bytesOf (ps : List Part) : List UInt8 := (ps.map (·.l)).flatten

theorem not32 (r : Nat) (h : r < 4294967296) : bits BinOp.xor IntKind.u32 IntKind.u32.max (r : Int) = ((4294967295 - r : Nat) : Int) := by
  rw [show IntKind.u32.max = ((4294967295 : Nat) : Int) from rfl, u32_xor_nat _ r (by decide) h]
  have e := BitVec.toNat_not (x := BitVec.ofNat 32 r)
  rw [← BitVec.allOnes_xor, BitVec.toNat_xor, BitVec.toNat_ofNat, Nat.mod_eq_of_lt (by omega)] at e
  rw [show (BitVec.allOnes 32).toNat = 4294967295 from rfl] at e
  rw [e]
theorem bytesOf_step (ps : List Part) (k : Nat) (h : k < ps.length) : bytesOf (ps.take (k+1)) = bytesOf (ps.take k) ++ ps[k].l := by
  unfold bytesOf; rw [List.take_succ_eq_append_getElem h, List.map_append, List.flatten_append]; simp
/-- what one byte does, step by step, as the walk writes it -/
theorem byte_facts (R : Nat) (c : UInt8) (hR : R < 4294967296) : ∃ X i1 T1 Y i2 T2 Z : Nat,
    bits BinOp.xor IntKind.u32 (R : Int) ((c.toNat : Nat) : Int) = (X : Int) ∧ X < 4294967296 ∧
    bits BinOp.and IntKind.u32 (X : Int) 15 = (i1 : Int) ∧ i1 < 16 ∧ T1 = tab i1 ∧ bits BinOp.xor IntKind.u32 ((X : Int) / 16) (T1 : Int) = (Y : Int) ∧ Y < 4294967296 ∧
    bits BinOp.and IntKind.u32 (Y : Int) 15 = (i2 : Int) ∧ i2 < 16 ∧ T2 = tab i2 ∧ bits BinOp.xor IntKind.u32 ((Y : Int) / 16) (T2 : Int) = (Z : Int) ∧ Z = by1 R c := by
  have hX : R ^^^ c.toNat < 4294967296 := xor_lt hR (u8_lt c)
  generalize hXe : R ^^^ c.toNat = X at hX
  have ha : ∀ X : Nat, X < 4294967296 → bits BinOp.and IntKind.u32 (X : Int) 15 = ((X % 16 : Nat) : Int) := by
    intro X h
    rw [show (15 : Int) = ((15 : Nat) : Int) from rfl, u32_and_nat X 15 h (by decide)]
    have := Nat.and_two_pow_sub_one_eq_mod X 4
    simp at this
    rw [this]
  have ht : ∀ i : Nat, i < 16 → tab i < 4294967296 := fun i hi => sts_lt 4 i (by omega)
  have hx : ∀ X : Nat, X < 4294967296 → bits BinOp.xor IntKind.u32 ((X : Int) / 16) ((tab (X % 16) : Nat) : Int) = ((X / 16 ^^^ tab (X % 16) : Nat) : Int) := by
    intro X h
    rw [show ((X : Int) / 16) = ((X / 16 : Nat) : Int) by omega]
    exact u32_xor_nat _ _ (by omega) (ht _ (by omega))
  have hY : X / 16 ^^^ tab (X % 16) < 4294967296 := xor_lt (by omega) (ht _ (by omega))
  refine ⟨X, X % 16, _, _, (X / 16 ^^^ tab (X % 16)) % 16, _, _, ?_, hX, ha X hX, by omega, rfl, hx X hX, hY, ha _ hY, by omega, rfl, hx _ hY, ?_⟩
  · rw [← hXe]; exact u32_xor_nat _ _ hR (u8_lt c)
  · rw [by1_two, hXe, four_bits]
set_option maxRecDepth 100000 in
set_option maxHeartbeats 400000 in
theorem sum_any (A : Option Addr) (n c : Nat) (ps : List Part) (w : World) (B : Nat) (hB : B ≤ w.heap.size) (hn : ps.length = n) (hm : n ≤ 9223372036854775807) (hr : Parts w B A ps) :
    Calls Try.prog 11 #[.slice A n c] w fun e w' => e = .returned (.int .i64 ((crc (bytesOf ps) : Nat) : Int)) ∧ Below w.heap.size w w' := by
  subst hn
  go_enter Try.func11, Try.ntmps11
  have hi : (Try.prog.info? 39).map (·.size) = some (tabArr 16).size := by rw [tabArr_size]; kernel_rfl
  have hone : (tabArr 16).all (·.oneCell') = true := by kernel_rfl
  go_wp2_with (first | (go_at_call 19; refine (steps_any _).mono ?_; rintro e w1 ⟨rfl, hb1⟩) | (refine wpList_store_row rfl 39 (.tmp 3) (.tmp 9) rfl _ (tabArr 16) rfl rfl 39 _ (heap_alloc_new _ _) hi rfl hone ?_))
  have hW : Below w.heap.size w ((w1.alloc (.cells #[.int .u32 0, .int .u32 0, .int .u32 0, .int .u32 0, .int .u32 0, .int .u32 0, .int .u32 0, .int .u32 0, .int .u32 0, .int .u32 0, .int .u32 0, .int .u32 0, .int .u32 0, .int .u32 0, .int .u32 0, .int .u32 0] 39)).setRow w1.heap.size (tabArr 16)) :=
    below_setRow_ (hb1.alloc hb1.size _) hb1.size _
  have hG := setRow_heap _ _ _ (tabArr 16) _ _ (heap_alloc_new w1 (.cells #[.int .u32 0, .int .u32 0, .int .u32 0, .int .u32 0, .int .u32 0, .int .u32 0, .int .u32 0, .int .u32 0, .int .u32 0, .int .u32 0, .int .u32 0, .int .u32 0, .int .u32 0, .int .u32 0, .int .u32 0, .int .u32 0] 39))
  generalize World.setRow _ _ _ = W at hW hG ⊢
  generalize w1.heap.size = g at hG ⊢
  clear hb1 hi hone
  obtain ⟨hrA, hrP⟩ := hr
  go_loop [4, 6, 8, 12] (fun r _ _ i => ∃ k : Nat, k ≤ ps.length ∧ i = .int .i64 k ∧ r = .int .u32 (run 4294967295 (bytesOf (ps.take k)) : Nat)) (fun _ _ _ i => ps.length - (intOf i).toNat)
  case atStart => exact ⟨0, by omega, rfl, rfl⟩
  case round =>
    obtain ⟨k, hk, rfl, rfl⟩ := hrel
    have hR0 := run_lt (bytesOf (ps.take k)) 4294967295 (by decide)
    by_cases hlt : k < ps.length
    · obtain ⟨ad, rfl, hbl, hc⟩ := hrA (by omega)
      have hcell : W.cell? (ad.add k) = some (.slice ps[k].A ps[k].n ps[k].c) := (hW.cell (by rw [add_block]; omega)).trans (hc k hlt)
      obtain ⟨hpl, hpm, hpr⟩ := hrP ps[k] (List.getElem_mem hlt)
      have hpr' := hpr.more hB
      have hpW := hpr'.below hW
      have hnext : run 4294967295 (bytesOf (ps.take (k+1))) = run (run 4294967295 (bytesOf (ps.take k))) ps[k].l := by
        rw [← run_append, bytesOf_step ps k hlt]
      have HN := Lib.hid hnext
      clear hnext hpr hpr' hc
      generalize run 4294967295 (bytesOf (ps.take k)) = R0 at hR0 HN ⊢
      generalize ps[k] = q at hcell hpl hpm hpW HN
      obtain ⟨qA, qn, qc, ql⟩ := q
      dsimp only at hcell hpl hpm hpW HN
      subst hpl
      go_wp2
      go_loop [4, 8, 18] (fun r _ j => ∃ m : Nat, m ≤ ql.length ∧ j = .int .i64 m ∧ r = .int .u32 (run R0 (ql.take m) : Nat)) (fun _ _ j => ql.length - (intOf j).toNat)
      case atStart => exact ⟨0, by omega, rfl, rfl⟩
      case round =>
        obtain ⟨m, hmq, rfl, rfl⟩ := hrel
        have hR := run_lt (ql.take m) R0 hR0
        by_cases hlq : m < ql.length
        · obtain ⟨ad2, rfl, _, hc2⟩ := hpW.at_ hlq
          have hs := run_step R0 ql m hlq
          generalize run R0 (ql.take m) = R at hs hR ⊢
          have HS := Lib.hid hs
          clear hs
          unfold bv at hc2
          obtain ⟨X, i1, T1, Y, i2, T2, Z, e1, hX, e2, l1, e3, e4, hY, e5, l2, e6, e7, e8⟩ := byte_facts R ql[m] hR
          have c1 : W.cell? ⟨g, i1, none⟩ = some (.int .u32 (T1 : Int)) := by rw [cell_of_row W g i1 _ _ _ hG, tabArr_get 16 i1 l1, if_pos l1, e3]
          have c2 : W.cell? ⟨g, i2, none⟩ = some (.int .u32 (T2 : Int)) := by rw [cell_of_row W g i2 _ _ _ hG, tabArr_get 16 i2 l2, if_pos l2, e6]
          have E8 := Lib.hid e8
          clear e3 e6 e8 hG hcell
          have hcc := ql[m].toNat_lt
          generalize ql[m] = cc at *
          go_wp2
          go_round
          case rel =>
            refine ⟨m + 1, by omega, by go_num, ?_⟩
            rw [HS.out, ← E8.out]
          case measure => simp [intOf]; omega
        · have hE : ql.take m = ql := by rw [show m = ql.length by omega]; simp
          have HE := Lib.hid hE
          clear hE hG hcell
          go_wp2
          go_round
          case rel =>
            refine ⟨k + 1, by omega, by go_num, ?_⟩
            rw [HN.out, HE.out]
          case measure => simp [intOf]; omega
    · have hE : ps.take k = ps := by rw [show k = ps.length by omega]; simp
      have HE := Lib.hid hE
      clear hE hG
      go_wp2
      go_ret
      refine ⟨ret_int ?_, hW⟩
      rw [HE.out] at hR0 ⊢
      rw [not32 _ hR0]
      exact wrap64_nat _ (by omega)
end Go.Proofs.Ytndpaehcjaejpaa.Crc
