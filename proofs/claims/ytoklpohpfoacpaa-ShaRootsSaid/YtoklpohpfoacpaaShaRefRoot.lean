/- Primes, products by digits, roots bit by bit, as the document reckons them: contracts. -/
import Derived.Test.YtoklpohpfoacpaaShaRefStep
import Derived.Test.YtoklpohpfoacpaaShaNum
import Derived.Test.YtoklpohpfoacpaaKeep
import Derived.Deep.RegionHeld3
import Derived.Deep.QuietTactic
import Derived.BigQuiet
namespace Go.Proofs.Ytoklpohpfoacpaa.Sha
open Go Go.ChangeShapes Go.WideShapes Go.ChangeAt Go.RowKit
set_option linter.unusedVariables false
set_option linter.unusedSimpArgs false

theorem src1v' (w : World) (v : Value) (T : TypeId) : 0 < 1 → ∃ ad, (some ⟨w.heap.size, 0, none⟩ : Option Addr) = some ad ∧ ∀ j u, ([v] : List Value)[j]? = some u → (w.alloc (.cells #[v] T)).cell? (ad.add j) = some u := fun _ => ⟨_, rfl, fun j u hj => by
  rw [addr_add, Nat.zero_add, cell_of_row _ _ j _ _ (0, 0) (heap_alloc_new w _)]; simpa using hj⟩
theorem made_ints (n : Nat) : madeCells #[.int .i64 0] n = (i64s (List.replicate n 0)).toArray := by
  apply Array.toList_inj.1
  rw [toList_madeCells_one]
  simp [i64s]
/-- 'make([]int, n)' -/
theorem wpList_make_i64 {P : Program} {t e : TypeId} (hE : El P t e (.int .i64 0) 8) {w : World} {ops : Array Oper} {rest : List Oper} {o : Oper} {a : Act} {Q : Exit → Act → World → Prop}
    (hg : Region.wanted o (yielded ops a.tmps) = true) (l c : Operand) (hop : o.op = Op.makeSlice t l c) (L : Int) (n : Nat) (hl : a.eval l = .int .i64 L) (hc : a.eval c = .int .i64 L) (hL : L = (n : Int)) (hm : n ≤ 1048576)
    (hK : wpList P ops Q rest (a.put o.dst (.slice (some ⟨w.heap.size, 0, none⟩) n n)) (w.alloc (.cells (i64s (List.replicate n 0)).toArray e))) :
    wpList P ops Q (o :: rest) a w := by
  refine wpList_wanted hg fun K hK' => ?_
  subst hL
  obtain ⟨i, hi, hz0, hz1, hz2⟩ := info_parts hE.info
  have hr := run_make (P := P) w t e i (.int .i64 0) hE.slice hi hz0 .i64 .i64 n n (by omega) (by omega) (by rw [hz2]; omega) (by omega)
  rw [hz1] at hr
  simp only [Int.toNat_natCast, Nat.mul_one] at hr
  rw [show Value.cells (.int .i64 0) = #[.int .i64 0] from rfl, made_ints] at hr
  unfold Oper.wp
  simp [execOp, hop, hl, hc, hr, Result.andThen]
  exact hK' _ _ hK
theorem i64s_set (l : List Nat) (i : Nat) (x : Nat) : (i64s l).set i (.int .i64 (x : Int)) = i64s (l.set i x) := by simp [i64s, List.map_set]
theorem cell_i64 {w : World} {T : TypeId} {g : Nat} {l : List Nat} (h : RowV w T g (i64s l)) {i : Nat} (hi : i < l.length) : w.cell? ⟨g, i, none⟩ = some (.int .i64 ((l.getD i 0 : Nat) : Int)) := h.cell (i64s_get hi)
/-- the sums of a column -/
theorem col_facts (z x y c : Nat) (hz : z < 65536) (hx : x < 65536) (hy : y < 65536) (hc : c < 65536) : ∃ P Q R r q : Nat, IntKind.i64.wrap ((x : Int) * (y : Int)) = (P : Int) ∧ IntKind.i64.wrap ((z : Int) + (P : Int)) = (Q : Int) ∧ IntKind.i64.wrap ((Q : Int) + (c : Int)) = (R : Int) ∧
    (R : Int) % 65536 = (r : Int) ∧ (R : Int).tmod 65536 = (r : Int) ∧ (R : Int) / 65536 = (q : Int) ∧ (R : Int).tdiv 65536 = (q : Int) ∧ r = (z + x * y + c) % 65536 ∧ q = (z + x * y + c) / 65536 ∧ r < 65536 ∧ q < 65536 ∧ (R : Int) ≤ 4294967296 := by
  have hxy : x * y ≤ 65535 * 65535 := Nat.mul_le_mul (by omega) (by omega)
  have e : ((x : Int) * (y : Int)) = ((x * y : Nat) : Int) := by push_cast; rfl
  rw [e]
  generalize x * y = m at *
  refine ⟨m, z + m, z + m + c, (z + m + c) % 65536, (z + m + c) / 65536, ?_, ?_, ?_, by omega, ?_, by omega, ?_, rfl, rfl, by omega, by omega, by omega⟩
  · rw [wrp _ (by omega) (by omega)]
  · rw [wrp _ (by omega) (by omega)]; omega
  · rw [wrp _ (by omega) (by omega)]; omega
  · rw [Int.tmod_eq_emod_of_nonneg (by omega)]; omega
  · rw [Int.tdiv_eq_ediv_of_nonneg (by omega)]; omega

set_option maxHeartbeats 4000000 in
set_option maxRecDepth 100000 in
theorem reftimes_any (aA bA : Option Addr) (la lb ca cb : Nat) (a b : List Nat) (w : World) (B : Nat) (hB : B ≤ w.heap.size) (hla : a.length = la) (hlb : b.length = lb) (ha9 : la ≤ 64) (hb9 : lb ≤ 64) (da : Digs 65536 a) (db : Digs 65536 b)
    (ra : RdV w (fun k => k < B) aA (i64s a)) (rb : RdV w (fun k => k < B) bA (i64s b)) :
    Calls Try.prog 39 #[.slice aA la ca, .slice bA lb cb] w fun e w' => ∃ v l, e = .returned v ∧ OwnV w' 3 w.heap.size v (i64s l) ∧ l.length = la + lb ∧ Digs 65536 l ∧ val 65536 l = val 65536 a * val 65536 b ∧ Below w.heap.size w w' := by
  have HLA := Lib.hid hla
  have HLB := Lib.hid hlb
  have DA := Lib.hid da
  have DB := Lib.hid db
  have RA := Lib.hid ra
  have RB := Lib.hid rb
  clear hla hlb da db ra rb
  go_enter Try.func39, Try.ntmps39
  go_wp2_with (with_reducible refine at_slot 15 ?_
               refine wpList_make_i64 eli rfl (.tmp 14) (.tmp 14) rfl _ (la + lb) rfl rfl (by push_cast; rfl) (by omega) ?_)
  have hz0 : (List.replicate (la + lb) 0).length = la + lb := by simp
  have hr0 : RowV (w.alloc (.cells (i64s (List.replicate (la + lb) 0)).toArray 3)) 3 w.heap.size (i64s (List.replicate (la + lb) 0)) := heap_alloc_new w _
  have hb0 := (Below.refl w.heap.size w).alloc (Nat.le_refl _) (.cells (i64s (List.replicate (la + lb) 0)).toArray 3)
  have hd0 : Digs 65536 (List.replicate (la + lb) 0) := fun d hd => by rw [(List.mem_replicate.1 hd).2]; decide
  have hv0 : val 65536 (List.replicate (la + lb) 0) = val 65536 (a.take 0) * val 65536 b := by rw [val_zeros]; simp [val]
  have hq0 : ∀ j, (List.replicate (la + lb) 0).getD j 0 = 0 := fun j => by
    rw [List.getD]
    rcases Nat.lt_or_ge j (List.replicate (la + lb) 0).length with h | h
    · rw [List.getElem?_eq_getElem h]; simp
    · rw [List.getElem?_eq_none h]; rfl
  have H0 := Lib.hid (And.intro hr0 (And.intro hd0 (And.intro hv0 (And.intro hq0 hz0))))
  clear hr0 hd0 hv0 hq0 hz0
  generalize hwx : w.alloc _ = wx at *
  clear hwx
  go_loopw [6] (fun i wr => ∃ (k : Nat) (o : List Nat), k ≤ la ∧ i = .int .i64 k ∧ RowV wr 3 w.heap.size (i64s o) ∧ o.length = la + lb ∧ Digs 65536 o ∧ val 65536 o = val 65536 (a.take k) * val 65536 b ∧ (∀ j, k + lb ≤ j → o.getD j 0 = 0) ∧ Below w.heap.size w wr) (fun i _ => la - (intOf i).toNat)
  case atStart => exact ⟨0, _, by omega, rfl, H0.out.1, H0.out.2.2.2.2, H0.out.2.1, H0.out.2.2.1, fun j _ => H0.out.2.2.2.1 j, hb0⟩
  case round =>
    obtain ⟨i, o, hi, rfl, hr, ho, hd, hv, hz, hbr⟩ := hrel
    clear H0 hb0
    by_cases hlt : i < la
    · have HV := Lib.hid hv
      have hda := DA.out.get (by decide) i
      obtain ⟨ada, e1, hab, hac⟩ := RA.out (by rw [i64s_length, HLA.out]; omega)
      subst e1
      have ha1 := hac i _ (i64s_get (by rw [HLA.out]; exact hlt))
      have HTS := Lib.hid (val_take_succ 65536 (l := a) (i := i) (by rw [HLA.out]; exact hlt))
      generalize a.getD i 0 = x at *
      have HAC := Lib.hid (show ∀ W, Below w.heap.size w W → W.cell? (ada.add i) = some (.int .i64 (x : Int)) from fun W hb => (hb.cell (by rw [add_block]; have : ada.block < B := hab; omega)).trans ha1)
      have HR := Lib.hid hr
      have HO := Lib.hid ho
      have HD := Lib.hid hd
      have HZ := Lib.hid hz
      have HBR := Lib.hid hbr
      clear hv hac ha1 hr ho hd hz hbr
      obtain ⟨wo, rfl⟩ : ∃ wo : World, wo = wr := ⟨_, rfl⟩
      go_wp2
      go_loopw [7, 8] (fun cv kv wr => ∃ (k c : Nat) (p : List Nat), k ≤ lb ∧ kv = .int .i64 k ∧ cv = .int .i64 c ∧ c < 65536 ∧ RowV wr 3 w.heap.size (i64s p) ∧ p.length = la + lb ∧ Digs 65536 p ∧ val 65536 p + c * 65536 ^ (i + k) = val 65536 (a.take i) * val 65536 b + 65536 ^ i * x * val 65536 (b.take k) ∧ (∀ j, i + lb ≤ j → p.getD j 0 = 0) ∧ Below w.heap.size w wr) (fun _ kv _ => lb - (intOf kv).toNat)
      case atStart => exact ⟨0, 0, o, by omega, rfl, rfl, by omega, HR.out, HO.out, HD.out, by simp [val]; exact HV.out, HZ.out, HBR.out⟩
      case round =>
        obtain ⟨k, c, p, hk, rfl, rfl, hc, hr, ho, hd, hv, hz, hbr⟩ := hrel
        by_cases hltk : k < lb
        · have hdb := DB.out.get (by decide) k
          obtain ⟨adb, e2, hbb, hbc⟩ := RB.out (by rw [i64s_length, HLB.out]; omega)
          subst e2
          have hb1 := (hbr.cell (by rw [add_block]; have : adb.block < B := hbb; omega)).trans (hbc k _ (i64s_get (by rw [HLB.out]; exact hltk)))
          have hts := val_take_succ 65536 (l := b) (i := k) (by rw [HLB.out]; exact hltk)
          have hdz := hd.get (by decide) (i + k)
          have hcs := fun (Vb : Nat) h => col_step (B := 65536) (o := p) (i := i) (k := k) (ai := x) (bk := b.getD k 0) (c := c) (M := val 65536 (a.take i) * val 65536 b) (Vb := Vb) (by rw [ho]; omega) h
          have hcs1 := hcs _ hv
          rw [← hts] at hcs1
          generalize b.getD k 0 = y at *
          have hcz := cell_i64 hr (i := i + k) (by rw [ho]; omega)
          have hfz := hr.frozen (i + k)
          have hca := HAC.out wr hbr
          generalize hzz : p.getD (i + k) 0 = z at *
          obtain ⟨P, Q, R, r, q, y1, y2, y3, y4, y5, y6, y7, hrq, hqq, hr6, hq6, hR⟩ := col_facts z x y c hdz hda hdb hc
          rw [← hrq, ← hqq] at hcs1
          have hset := hr.set (i + k) (.int .i64 (r : Int))
          rw [i64s_set] at hset
          have hl2 : (p.set (i + k) r).length = la + lb := by rw [List.length_set]; exact ho
          have hd2 := hd.set hr6 (i + k)
          have hz2 : ∀ j, i + lb ≤ j → (p.set (i + k) r).getD j 0 = 0 := fun j hj => by
            have := hz j hj
            rw [List.getD, List.getElem?_set_ne (by omega)]; exact this
          have hb2 : Below w.heap.size w (wr.setCell ⟨w.heap.size, i + k, none⟩ (.int .i64 (r : Int))) := hbr.setCell (by show w.heap.size ≤ w.heap.size; omega) _
          have H2 := Lib.hid (And.intro hset (And.intro hl2 (And.intro hd2 (And.intro hcs1 (And.intro hz2 hb2)))))
          have s1 : IntKind.i64.wrap ((i : Int) + (k : Int)) = (i : Int) + (k : Int) := wrp _ (by omega) (by omega)
          have s2 : (0 : Int) ≤ (i : Int) + (k : Int) := by omega
          have s3 : (i : Int) + (k : Int) < (la : Int) + (lb : Int) := by omega
          have s4 : ((i : Int) + (k : Int)).toNat = i + k := by omega
          have s5 : (i : Int) < (la : Int) := by omega
          have s6 : (k : Int) < (lb : Int) := by omega
          have s7 : (0 : Int) ≤ (i : Int) := by omega
          have s8 : (0 : Int) ≤ (k : Int) := by omega
          clear hcs hts hcs1 hset hl2 hd2 hz2 hb2 hrq hqq hr ho hd hv hz hbr hbc hzz hdz hdb
          go_wp2_with fail
          go_quiet (fail)
          go_wp2_with fail
          go_roundw
          case rel => exact ⟨k + 1, q, p.set (i + k) r, by omega, by go_num, rfl, hq6, H2.out.1, H2.out.2.1, H2.out.2.2.1, H2.out.2.2.2.1, H2.out.2.2.2.2.1, H2.out.2.2.2.2.2.trans (below_drewN _ _ _)⟩
          case measure => simp [intOf] <;> omega
        · have hkl : k = lb := by omega
          subst hkl
          have hbt : b.take k = b := List.take_of_length_le (by rw [HLB.out]; omega)
          rw [hbt] at hv
          have hzz := hz (i + k) (by omega)
          have hre := row_end (B := 65536) (o := p) (i := i) (lb := k) (ai := x) (c := c) (M := val 65536 (a.take i)) (Vb := val 65536 b) (by rw [ho]; omega) hzz hv
          rw [← HTS.out] at hre
          have hcz := cell_i64 hr (i := i + k) (by rw [ho]; omega)
          have hfz := hr.frozen (i + k)
          rw [hzz] at hcz hre
          rw [Nat.zero_add] at hre
          have hset := hr.set (i + k) (.int .i64 (c : Int))
          rw [i64s_set] at hset
          have hl2 : (p.set (i + k) c).length = la + k := by rw [List.length_set]; exact ho
          have hd2 := hd.set hc (i + k)
          have hz2 : ∀ j, (i + 1) + k ≤ j → (p.set (i + k) c).getD j 0 = 0 := fun j hj => by
            have := hz j (by omega)
            rw [List.getD, List.getElem?_set_ne (by omega)]; exact this
          have hb2 : Below w.heap.size w (wr.setCell ⟨w.heap.size, i + k, none⟩ (.int .i64 (c : Int))) := hbr.setCell (by show w.heap.size ≤ w.heap.size; omega) _
          have H2 := Lib.hid (And.intro hset (And.intro hl2 (And.intro hd2 (And.intro hre (And.intro hz2 hb2)))))
          have s1 : IntKind.i64.wrap ((i : Int) + (k : Int)) = (i : Int) + (k : Int) := wrp _ (by omega) (by omega)
          have s2 : (0 : Int) ≤ (i : Int) + (k : Int) := by omega
          have s3 : (i : Int) + (k : Int) < (la : Int) + (k : Int) := by omega
          have s4 : ((i : Int) + (k : Int)).toNat = i + k := by omega
          have s5 : (i : Int) < (la : Int) := by omega
          have s9 : (c : Int) ≤ 65536 := by omega
          clear hset hl2 hd2 hz2 hb2 hre hr ho hd hv hz hbr hzz hbt
          go_wp2_with fail
          go_roundw
          case rel => exact ⟨i + 1, p.set (i + k) c, by omega, by go_num, H2.out.1, H2.out.2.1, H2.out.2.2.1, H2.out.2.2.2.1, H2.out.2.2.2.2.1, H2.out.2.2.2.2.2⟩
          case measure => simp [intOf] <;> omega
    · have hil : i = la := by omega
      subst hil
      rw [List.take_of_length_le (by rw [HLA.out]; omega)] at hv
      have hown := OwnV.row (xs := i64s o) hr (Nat.le_refl w.heap.size) (n := i + lb) (by rw [i64s_length, ho]) (by omega)
      clear hr hz
      go_wp2
      go_ret
      exact ⟨_, o, rfl, hown, ho, hd, hv, hbr⟩

set_option maxHeartbeats 2000000 in
set_option maxRecDepth 100000 in
theorem refabove_any (aA : Option Addr) (la ca : Nat) (a : List Nat) (p k : Nat) (w : World) (B : Nat) (hB : B ≤ w.heap.size) (hla : a.length = la) (ha9 : la ≤ 64) (hk : k < la) (hp : p < 65536) (da : Digs 65536 a) (ra : RdV w (fun k => k < B) aA (i64s a)) :
    Calls Try.prog 40 #[.slice aA la ca, .int .i64 (p : Int), .int .i64 (k : Int)] w fun e w' => e = .returned (.bool (decide (p * 65536 ^ k < val 65536 a))) ∧ w = w' := by
  have HLA := Lib.hid hla
  have DA := Lib.hid da
  have RA := Lib.hid ra
  have h0 : a.drop la = (unit la k p).drop la := by rw [List.drop_eq_nil_of_le (by omega), List.drop_eq_nil_of_le (by rw [unit_len]; omega)]
  have H0 := Lib.hid h0
  clear hla da ra h0
  go_enter Try.func40, Try.ntmps40
  go_wp2
  go_loop [7] (fun i => ∃ s : Nat, s ≤ la ∧ i = .int .i64 ((s : Int) - 1) ∧ a.drop s = (unit la k p).drop s) (fun i => (intOf i + 1).toNat)
  case atStart => exact ⟨la, Nat.le_refl _, rfl, H0.out⟩
  case round =>
    obtain ⟨s, hs, rfl, hd⟩ := hrel
    clear H0
    rcases s with _ | j
    · have hr : decide (p * 65536 ^ k < val 65536 a) = false := by
        have e : a = unit la k p := by simpa using hd
        rw [e, unit_val _ _ _ _ hk]; simp
      have HR := Lib.hid hr
      clear hd hr
      rw [show ((0 : Nat) : Int) - 1 = -1 from rfl]
      go_wp2
      go_ret
      exact ⟨congrArg (fun b => Ending.returned (.bool b)) HR.out.symm, rfl⟩
    · rw [show ((j + 1 : Nat) : Int) - 1 = (j : Int) by omega]
      have hjl : j < la := by omega
      obtain ⟨ad, e1, hab, hac⟩ := RA.out (by rw [i64s_length, HLA.out]; omega)
      subst e1
      have hx := DA.out.get (by decide) j
      have hc := hac j _ (i64s_get (by rw [HLA.out]; exact hjl))
      have hmore := fun h => above_more HLA.out hp DA.out hk hjl hd h
      have hless := fun h => above_less HLA.out hp DA.out hk hjl hd h
      have hsame := fun h => above_same HLA.out hjl hd h
      generalize a.getD j 0 = x at *
      have j1 : (j : Int) < (la : Int) := by omega
      have j0 : (0 : Int) ≤ (j : Int) := by omega
      by_cases hjk : j = k
      · have t1 : ((j : Int) == (k : Int)) = true := by simp [hjk]
        rw [if_pos hjk] at hmore hless hsame
        have HM := Lib.hid hmore
        have HS := Lib.hid hless
        have HE := Lib.hid hsame
        clear hmore hless hsame hjk hac hd
        by_cases hxp : x = p
        · have t2 : ((x : Int) != (p : Int)) = false := by simp [hxp]
          have HXP := Lib.hid hxp
          clear hxp
          go_wp2_with fail
          go_round
          case rel => exact ⟨j, by omega, by go_num, HE.out HXP.out⟩
          case measure => simp [intOf] <;> omega
        · have t2 : ((x : Int) != (p : Int)) = true := by rw [bne_iff_ne]; omega
          by_cases hlt : p < x
          · have hr : decide (p * 65536 ^ k < val 65536 a) = true := by simpa using HM.out hlt
            have HR := Lib.hid hr
            clear hr hxp
            go_wp2_with fail
            go_ret
            exact ⟨congrArg (fun b => Ending.returned (.bool b)) HR.out.symm, rfl⟩
          · have hr : decide (p * 65536 ^ k < val 65536 a) = false := by have := HS.out (by omega); simp; omega
            have HR := Lib.hid hr
            clear hr hxp
            go_wp2_with fail
            go_ret
            exact ⟨congrArg (fun b => Ending.returned (.bool b)) HR.out.symm, rfl⟩
      · have t1 : ((j : Int) == (k : Int)) = false := by rw [beq_eq_false_iff_ne]; omega
        rw [if_neg hjk] at hmore hless hsame
        have HM := Lib.hid hmore
        have HS := Lib.hid hless
        have HE := Lib.hid hsame
        clear hmore hless hsame hjk hac hd
        by_cases hxp : x = 0
        · subst hxp
          go_wp2_with fail
          go_round
          case rel => exact ⟨j, by omega, by go_num, HE.out rfl⟩
          case measure => simp [intOf] <;> omega
        · have t2 : ((x : Int) != 0) = true := by rw [bne_iff_ne]; omega
          have t3 : (0 : Int) < (x : Int) := by omega
          have hr : decide (p * 65536 ^ k < val 65536 a) = true := by simpa using HM.out (by omega)
          have HR := Lib.hid hr
          clear hr hxp
          go_wp2_with fail
          go_ret
          exact ⟨by rw [HR.out]; simp; omega, rfl⟩

theorem prs_succ (p : Nat) (h : 2 ≤ p) : prs (p + 1) = if (prs p).all (fun q => p % q != 0) = true then prs p ++ [p] else prs p := by
  rw [prs]
  by_cases hb : (prs p).all (fun q => p % q != 0) = true
  · rw [if_pos ⟨h, hb⟩, if_pos hb]
  · rw [if_neg (fun hc => hb hc.2), if_neg hb]
theorem all_snoc (l : List Nat) (f : Nat → Bool) {j : Nat} (h : j < l.length) : (l.take (j + 1)).all f = ((l.take j).all f && f (l.getD j 0)) := by
  rw [List.take_succ_eq_append_getElem h, List.all_append, getD_lt h]; simp
set_option maxHeartbeats 2000000 in
set_option maxRecDepth 100000 in
theorem refprimes_any (n N : Nat) (hN : (prs N).length = n) (hlt : ∀ p, p < N → (prs p).length < n) (h2 : 2 ≤ N) (hN2 : N ≤ 1000) (w : World) :
    Calls Try.prog 35 #[.int .i64 (n : Int)] w fun e w' => ∃ v, e = .returned v ∧ OwnV w' 3 w.heap.size v (i64s (prs N)) ∧ Below w.heap.size w w' := by
  have HN := Lib.hid hN
  have HLT := Lib.hid hlt
  have hO0 : OwnV w 3 w.heap.size (.slice none 0 0) (i64s (prs 2)) := OwnV.nil _ _ _
  have hb0 := Below.refl w.heap.size w
  clear hN hlt
  go_enter Try.func35, Try.ntmps35
  go_wp2
  go_loopw [3, 4] (fun v i wr => ∃ p : Nat, 2 ≤ p ∧ p ≤ N ∧ i = .int .i64 p ∧ OwnV wr 3 w.heap.size v (i64s (prs p)) ∧ Below w.heap.size w wr) (fun _ i _ => N - (intOf i).toNat)
  case atStart => exact ⟨2, by omega, h2, rfl, hO0, hb0⟩
  case round =>
    obtain ⟨p, hp2, hpN, rfl, hO, hbr⟩ := hrel
    clear hO0 hb0
    obtain ⟨m, hm⟩ : ∃ m, (prs p).length = m := ⟨_, rfl⟩
    obtain ⟨A, c, rfl, hmc, hcm⟩ := OwnV.lenN (n := m) hO (by rw [i64s_length, hm])
    have hmp : m ≤ 1000 ∧ True := ⟨by
      rcases Nat.lt_or_ge p N with h | h
      · have := HLT.out p h
        have h3 : n ≤ 1000 := by
          have hle : ∀ q, (prs q).length ≤ q := by
            intro q
            induction q with
            | zero => exact Nat.le_refl _
            | succ q ih => rw [prs]; split <;> (try simp only [List.length_append, List.length_cons, List.length_nil]) <;> omega
          have := hle N; have := HN.out; omega
        omega
      · have hpe : p = N := by omega
        subst hpe
        have hle : ∀ q, (prs q).length ≤ q := by
          intro q
          induction q with
          | zero => exact Nat.le_refl _
          | succ q ih => rw [prs]; split <;> (try simp only [List.length_append, List.length_cons, List.length_nil]) <;> omega
        have := hle p; omega, trivial⟩
    have HM := Lib.hid hm
    have hm1000 := hmp.1
    clear hmp hm
    by_cases hlt : p < N
    · have hmn : m < n := by have := HLT.out p hlt; have := HM.out; omega
      have hr0 := OwnV.rdv hO
      have HRD := Lib.hid hr0
      have HO := Lib.hid hO
      have HBR := Lib.hid hbr
      have hsr := hbr.size
      have HPS := Lib.hid (prs_succ p hp2)
      have HSM := Lib.hid (prs_small p)
      clear hr0 hO hbr
      obtain ⟨wo, rfl⟩ : ∃ wo : World, wo = wr := ⟨_, rfl⟩
      go_wp2
      go_loop [5, 6] (fun b i => ∃ j : Nat, j ≤ m ∧ i = .int .i64 j ∧ b = .bool (((prs p).take j).all fun q => p % q != 0)) (fun _ i => m - (intOf i).toNat)
      case atStart => exact ⟨0, by omega, rfl, rfl⟩
      case round =>
        obtain ⟨j, hj, rfl, rfl⟩ := hrel
        by_cases hjm : j < m
        · have hsn := all_snoc (prs p) (fun q => p % q != 0) (j := j) (by rw [HM.out]; exact hjm)
          obtain ⟨ad, e1, hab, hac⟩ := HRD.out (by rw [i64s_length, HM.out]; omega)
          subst e1
          have hc := hac j _ (i64s_get (by rw [HM.out]; exact hjm))
          have hq := HSM.out ((prs p).getD j 0) (by rw [getD_lt (by rw [HM.out]; exact hjm)]; exact List.getElem_mem _)
          generalize (prs p).getD j 0 = q at *
          have q1 : (2 : Int) ≤ (q : Int) := by omega
          have j1 : (j : Int) < (m : Int) := by omega
          have HSN := Lib.hid hsn
          generalize ((prs p).take j).all (fun q => p % q != 0) = b at *
          clear hsn hac
          cases b
          · go_wp2_with fail
            go_round
            case rel => exact ⟨j + 1, by omega, by go_num, by rw [HSN.out]; rfl⟩
            case measure => simp [intOf] <;> omega
          · by_cases hpq : p % q = 0
            · have t1 : ((p : Int) % (q : Int) != 0) = false := by
                have h0 : ((p % q : Nat) : Int) = 0 := by rw [hpq]; rfl
                push_cast at h0
                rw [h0]; rfl
              have t2 : ((p : Int).tmod (q : Int) != 0) = false := by rw [Int.tmod_eq_emod_of_nonneg (by omega)]; exact t1
              have HPQ := Lib.hid hpq
              clear hpq
              go_wp2_with fail
              go_round
              case rel => exact ⟨j + 1, by omega, by go_num, by rw [HSN.out, HPQ.out]; rfl⟩
              case measure => simp [intOf] <;> omega
            · have t1 : ((p : Int) % (q : Int) != 0) = true := by
                rw [bne_iff_ne]; intro h; apply hpq; have : ((p % q : Nat) : Int) = 0 := by push_cast; exact h
                omega
              have t2 : ((p : Int).tmod (q : Int) != 0) = true := by rw [Int.tmod_eq_emod_of_nonneg (by omega)]; exact t1
              have HPQ := Lib.hid hpq
              clear hpq
              go_wp2_with fail
              go_round
              case rel => exact ⟨j + 1, by omega, by go_num, by rw [HSN.out]; simp [HPQ.out]⟩
              case measure => simp [intOf] <;> omega
        · have hjm' : j = m := by omega
          subst hjm'
          rw [List.take_of_length_le (by rw [HM.out]; omega)]
          have HPS' := HPS
          generalize (prs p).all (fun q => p % q != 0) = b at *
          cases b
          · have hps : prs (p + 1) = prs p := by rw [HPS'.out]; rfl
            have HPP := Lib.hid hps
            clear hps
            go_wp2_with fail
            go_roundw
            case rel => exact ⟨p + 1, by omega, by omega, by go_num, by rw [HPP.out]; exact HO.out, HBR.out⟩
            case measure => simp [intOf] <;> omega
          · have hps : i64s (prs (p + 1)) = i64s (prs p) ++ [.int .i64 (p : Int)] := by rw [HPS'.out, if_pos rfl]; simp [i64s]
            have HPP := Lib.hid hps
            clear hps
            go_wp2_with (with_reducible refine at_slot 33 ?_
                         refine wpList_append_v eli rfl (.tmp 30) (.tmp 32) rfl w.heap.size _ (i64s (prs p)) _ 1 1 [.int .i64 (p : Int)] rfl rfl (HO.out.alloc _) rfl (src1v' wo _ _) (by intro u hu; simp only [List.mem_singleton] at hu; subst hu; rfl) (by rw [i64s_length, HM.out]; omega) (by rw [i64s_length, HM.out]; omega) (by simp; omega) ?_
                         intro v5 w5 hO5 hg5 hat5
                         have hb5 := (HBR.out.alloc hsr (.cells #[.int .i64 (p : Int)] 3)).grown hg5 (by simp; omega) (fun x hx => ((HO.out.alloc (.cells #[.int .i64 (p : Int)] 3)).lt x hx).1))
            go_roundw
            case rel => exact ⟨p + 1, by omega, by omega, by go_num, by rw [HPP.out]; exact hO5, hb5⟩
            case measure => simp [intOf] <;> omega
    · have hpe : p = N := by omega
      subst hpe
      have hmn : m = n := by have := HM.out; have := HN.out; omega
      subst hmn
      go_wp2
      go_ret
      exact ⟨_, rfl, hO, hbr⟩

theorem dig_facts (v m : Nat) (h : v + m < 137438953472) : ∃ d0 d1 d2 q1 : Nat, ((v : Int) + (m : Int)) % 65536 = (d0 : Int) ∧ ((v : Int) + (m : Int)) / 65536 = (q1 : Int) ∧ (q1 : Int) % 65536 = (d1 : Int) ∧ ((v : Int) + (m : Int)) / 4294967296 = (d2 : Int) ∧
    Digs 65536 [d0, d1, d2] ∧ val 65536 [d0, d1, d2] = v + m := by
  refine ⟨(v + m) % 65536, (v + m) / 65536 % 65536, (v + m) / 4294967296, (v + m) / 65536, by omega, by omega, by omega, by omega, ?_, ?_⟩
  · intro d hd
    simp only [List.mem_cons, List.not_mem_nil, or_false] at hd
    rcases hd with rfl | rfl | rfl <;> omega
  · simp only [val]; omega
set_option maxHeartbeats 2000000 in
set_option maxRecDepth 100000 in
theorem refroot2_any (p : Nat) (hp : p < 65536) (w : World) :
    Calls Try.prog 34 #[.int .i64 (p : Int), .int .i64 2] w fun e w' => e = .returned (.int .i64 ((rt p 2 37 % 4294967296 : Nat) : Int)) ∧ Below w.heap.size w w' := by
  have hb0 := Below.refl w.heap.size w
  go_enter Try.func34, Try.ntmps34
  go_wp2
  go_loopw [5, 6] (fun v b wr => ∃ s : Nat, s ≤ 37 ∧ b = .int .i64 (36 - (s : Int)) ∧ v = .int .i64 ((rt p 2 s : Nat) : Int) ∧ Below w.heap.size w wr) (fun _ b _ => (intOf b + 1).toNat)
  case atStart => exact ⟨0, by omega, rfl, rfl, hb0⟩
  case round =>
    obtain ⟨s, hs, rfl, rfl, hbr⟩ := hrel
    clear hb0
    have hle := rt_le p 2 s hs
    by_cases hlt : s < 37
    · obtain ⟨t, ht⟩ : ∃ t : Nat, t = 36 - s := ⟨_, rfl⟩
      have e2 : 2 ^ (37 - s) = 2 ^ t + 2 ^ t := by rw [show 37 - s = t + 1 by omega, Nat.pow_succ]; omega
      rw [e2] at hle
      rw [show (36 : Int) - (s : Int) = (t : Int) by omega]
      have t1 : (t : Int) ≤ 36 := by omega
      have hrs : rt p 2 (s + 1) = if (rt p 2 s + 2 ^ (36 - s)) ^ 2 ≤ p * 65536 ^ (2 * 2) then rt p 2 s + 2 ^ (36 - s) else rt p 2 s := rfl
      rw [← ht] at hrs
      generalize rt p 2 s = v at *
      have hm : (2 : Int) ^ t = ((2 ^ t : Nat) : Int) := by push_cast; rfl
      generalize 2 ^ t = m at *
      have m1 : (m : Int) ≤ 137438953472 := by omega
      have m2 : (v : Int) + (m : Int) + (m : Int) ≤ 137438953472 := by omega
      have m0 : 0 < m := by
        rcases Nat.eq_zero_or_pos m with h | h
        · have h1 : (0 : Int) < (2 : Int) ^ t := Int.pow_pos (by decide)
          rw [hm, h] at h1; omega
        · exact h
      obtain ⟨d0, d1, d2, q1, x0, x1, x2, x3, hdg, hval⟩ := dig_facts v m (by omega)
      have HRS := Lib.hid hrs
      have HT := Lib.hid ht
      have HBR := Lib.hid hbr
      have HD := Lib.hid hdg
      have HV := Lib.hid hval
      have hzr := hbr.size
      clear hrs ht hbr e2 hdg hval
      go_wp2_with fail
      have hrow : OwnV (wr.alloc (.cells #[.int .i64 (d0 : Int), .int .i64 (d1 : Int), .int .i64 (d2 : Int)] 3)) 3 w.heap.size (.slice (some ⟨wr.heap.size, 0, none⟩) 3 3) (i64s [d0, d1, d2]) := OwnV.row (xs := i64s [d0, d1, d2]) (heap_alloc_new wr _) hzr rfl (by omega)
      have hb1 : Below w.heap.size w (wr.alloc (.cells #[.int .i64 (d0 : Int), .int .i64 (d1 : Int), .int .i64 (d2 : Int)] 3)) := HBR.out.alloc hzr _
      have HROW := Lib.hid hrow
      have hrd := (OwnV.rdv hrow).mono (T := fun k => k < (wr.alloc (.cells #[.int .i64 (d0 : Int), .int .i64 (d1 : Int), .int .i64 (d2 : Int)] 3)).heap.size) (fun k hk => hk.2)
      refine (reftimes_any _ _ 3 3 _ _ [d0, d1, d2] [d0, d1, d2] _ _ (Nat.le_refl _) rfl rfl (by omega) (by omega) HD.out HD.out hrd hrd).mono ?_
      rintro e w2 ⟨v2, l2, rfl, hO2, hl2, hd2, hv2, hb2⟩
      have hbw2 := hb1.trans (hb2.mono hb1.size)
      have HROW2 := Lib.hid (HROW.out.below_ hb2)
      have hO2' := hO2.mono (base' := w.heap.size) (fun k hk => Nat.le_trans hb1.size (hO2.lt k hk).1)
      obtain ⟨A2, c2, rfl, _, _⟩ := OwnV.lenN (n := 6) hO2' (by rw [i64s_length, hl2])
      have hz2 := hbw2.size
      rw [HV.out] at hv2
      have HO2 := Lib.hid hO2'
      have HL2 := Lib.hid hl2
      have HD2 := Lib.hid hd2
      have HV2 := Lib.hid hv2
      have HB2 := Lib.hid hbw2
      clear hrow hb1 hrd hO2 hO2' hl2 hd2 hv2 hb2 hbw2
      go_wp2_with fail
      have HOX := Lib.hid HO2.out
      refine (refabove_any _ 6 _ l2 p 4 w2 w2.heap.size (Nat.le_refl _) HL2.out (by omega) (by omega) hp HD2.out ((OwnV.rdv HO2.out).mono (fun k hk => hk.2))).mono ?_
      rintro e w4 ⟨rfl, rfl⟩
      have hpow : (v + m) ^ 2 = val 65536 l2 := by rw [HV2.out]; rw [Nat.pow_two]
      by_cases hab : p * 65536 ^ 4 < val 65536 l2
      · have hr : decide (p * 65536 ^ 4 < val 65536 l2) = true := by simpa using hab
        rw [hr]
        have hrs : rt p 2 (s + 1) = v := by rw [HRS.out, hpow, if_neg (by omega)]
        have HRR := Lib.hid hrs
        clear hab hr hpow hrs
        go_wp2_with fail
        go_roundw
        case rel => exact ⟨s + 1, by omega, by have := HT.out; rw [show (36 : Int) - ((s + 1 : Nat) : Int) = (t : Int) - 1 by omega], by rw [HRR.out], HB2.out⟩
        case measure => simp [intOf] <;> omega
      · have hr : decide (p * 65536 ^ 4 < val 65536 l2) = false := by simpa using hab
        rw [hr]
        have hrs : rt p 2 (s + 1) = v + m := by rw [HRS.out, hpow, if_pos (by omega)]
        have HRR := Lib.hid hrs
        clear hab hr hpow hrs
        go_wp2_with fail
        go_roundw
        case rel => exact ⟨s + 1, by omega, by have := HT.out; rw [show (36 : Int) - ((s + 1 : Nat) : Int) = (t : Int) - 1 by omega], by rw [HRR.out]; push_cast; rfl, HB2.out⟩
        case measure => simp [intOf] <;> omega
    · have e37 : s = 37 := by omega
      subst e37
      generalize hgv : rt p 2 37 = v at *
      have HGV := Lib.hid hgv
      clear hgv
      rw [show (36 : Int) - ((37 : Nat) : Int) = -1 by omega]
      have hv : (v : Int) % 4294967296 = ((v % 4294967296 : Nat) : Int) := by omega
      have hv2 : (v : Int).tmod 4294967296 = ((v % 4294967296 : Nat) : Int) := by rw [Int.tmod_eq_emod_of_nonneg (by omega)]; exact hv
      generalize hgr : v % 4294967296 = r at *
      have HGR := Lib.hid hgr
      clear hgr
      go_wp2
      go_ret
      refine ⟨?_, hbr⟩
      rw [HGV.out, HGR.out]
      rfl
set_option maxHeartbeats 2000000 in
set_option maxRecDepth 100000 in
theorem refroot3_any (p : Nat) (hp : p < 65536) (w : World) :
    Calls Try.prog 34 #[.int .i64 (p : Int), .int .i64 3] w fun e w' => e = .returned (.int .i64 ((rt p 3 37 % 4294967296 : Nat) : Int)) ∧ Below w.heap.size w w' := by
  have hb0 := Below.refl w.heap.size w
  go_enter Try.func34, Try.ntmps34
  go_wp2
  go_loopw [5, 6] (fun v b wr => ∃ s : Nat, s ≤ 37 ∧ b = .int .i64 (36 - (s : Int)) ∧ v = .int .i64 ((rt p 3 s : Nat) : Int) ∧ Below w.heap.size w wr) (fun _ b _ => (intOf b + 1).toNat)
  case atStart => exact ⟨0, by omega, rfl, rfl, hb0⟩
  case round =>
    obtain ⟨s, hs, rfl, rfl, hbr⟩ := hrel
    clear hb0
    have hle := rt_le p 3 s hs
    by_cases hlt : s < 37
    · obtain ⟨t, ht⟩ : ∃ t : Nat, t = 36 - s := ⟨_, rfl⟩
      have e2 : 2 ^ (37 - s) = 2 ^ t + 2 ^ t := by rw [show 37 - s = t + 1 by omega, Nat.pow_succ]; omega
      rw [e2] at hle
      rw [show (36 : Int) - (s : Int) = (t : Int) by omega]
      have t1 : (t : Int) ≤ 36 := by omega
      have hrs : rt p 3 (s + 1) = if (rt p 3 s + 2 ^ (36 - s)) ^ 3 ≤ p * 65536 ^ (2 * 3) then rt p 3 s + 2 ^ (36 - s) else rt p 3 s := rfl
      rw [← ht] at hrs
      generalize rt p 3 s = v at *
      have hm : (2 : Int) ^ t = ((2 ^ t : Nat) : Int) := by push_cast; rfl
      generalize 2 ^ t = m at *
      have m1 : (m : Int) ≤ 137438953472 := by omega
      have m2 : (v : Int) + (m : Int) + (m : Int) ≤ 137438953472 := by omega
      have m0 : 0 < m := by
        rcases Nat.eq_zero_or_pos m with h | h
        · have h1 : (0 : Int) < (2 : Int) ^ t := Int.pow_pos (by decide)
          rw [hm, h] at h1; omega
        · exact h
      obtain ⟨d0, d1, d2, q1, x0, x1, x2, x3, hdg, hval⟩ := dig_facts v m (by omega)
      have HRS := Lib.hid hrs
      have HT := Lib.hid ht
      have HBR := Lib.hid hbr
      have HD := Lib.hid hdg
      have HV := Lib.hid hval
      have hzr := hbr.size
      clear hrs ht hbr e2 hdg hval
      go_wp2_with fail
      have hrow : OwnV (wr.alloc (.cells #[.int .i64 (d0 : Int), .int .i64 (d1 : Int), .int .i64 (d2 : Int)] 3)) 3 w.heap.size (.slice (some ⟨wr.heap.size, 0, none⟩) 3 3) (i64s [d0, d1, d2]) := OwnV.row (xs := i64s [d0, d1, d2]) (heap_alloc_new wr _) hzr rfl (by omega)
      have hb1 : Below w.heap.size w (wr.alloc (.cells #[.int .i64 (d0 : Int), .int .i64 (d1 : Int), .int .i64 (d2 : Int)] 3)) := HBR.out.alloc hzr _
      have HROW := Lib.hid hrow
      have hrd := (OwnV.rdv hrow).mono (T := fun k => k < (wr.alloc (.cells #[.int .i64 (d0 : Int), .int .i64 (d1 : Int), .int .i64 (d2 : Int)] 3)).heap.size) (fun k hk => hk.2)
      refine (reftimes_any _ _ 3 3 _ _ [d0, d1, d2] [d0, d1, d2] _ _ (Nat.le_refl _) rfl rfl (by omega) (by omega) HD.out HD.out hrd hrd).mono ?_
      rintro e w2 ⟨v2, l2, rfl, hO2, hl2, hd2, hv2, hb2⟩
      have hbw2 := hb1.trans (hb2.mono hb1.size)
      have HROW2 := Lib.hid (HROW.out.below_ hb2)
      have hO2' := hO2.mono (base' := w.heap.size) (fun k hk => Nat.le_trans hb1.size (hO2.lt k hk).1)
      obtain ⟨A2, c2, rfl, _, _⟩ := OwnV.lenN (n := 6) hO2' (by rw [i64s_length, hl2])
      have hz2 := hbw2.size
      rw [HV.out] at hv2
      have HO2 := Lib.hid hO2'
      have HL2 := Lib.hid hl2
      have HD2 := Lib.hid hd2
      have HV2 := Lib.hid hv2
      have HB2 := Lib.hid hbw2
      clear hrow hb1 hrd hO2 hO2' hl2 hd2 hv2 hb2 hbw2
      go_wp2_with fail
      refine (reftimes_any _ _ 6 3 _ _ l2 [d0, d1, d2] w2 w2.heap.size (Nat.le_refl _) HL2.out rfl (by omega) (by omega) HD2.out HD.out ((OwnV.rdv HO2.out).mono (fun k hk => hk.2)) ((OwnV.rdv HROW2.out).mono (fun k hk => hk.2))).mono ?_
      rintro e w3 ⟨v3, l3, rfl, hO3, hl3, hd3, hv3, hb3⟩
      have hbw3 := HB2.out.trans (hb3.mono hz2)
      have hO3' := hO3.mono (base' := w.heap.size) (fun k hk => Nat.le_trans hz2 (hO3.lt k hk).1)
      obtain ⟨A3, c3, rfl, _, _⟩ := OwnV.lenN (n := 9) hO3' (by rw [i64s_length, hl3])
      rw [HV2.out, HV.out] at hv3
      have HO3 := Lib.hid hO3'
      have HL3 := Lib.hid hl3
      have HD3 := Lib.hid hd3
      have HV3 := Lib.hid hv3
      have HB3 := Lib.hid hbw3
      clear hO3 hO3' hl3 hd3 hv3 hb3 hbw3
      go_wp2_with fail
      have HOX := Lib.hid HO3.out
      refine (refabove_any _ 9 _ l3 p 6 w3 w3.heap.size (Nat.le_refl _) HL3.out (by omega) (by omega) hp HD3.out ((OwnV.rdv HO3.out).mono (fun k hk => hk.2))).mono ?_
      rintro e w4 ⟨rfl, rfl⟩
      have hpow : (v + m) ^ 3 = val 65536 l3 := by rw [HV3.out]; rw [Nat.pow_succ, Nat.pow_two]
      by_cases hab : p * 65536 ^ 6 < val 65536 l3
      · have hr : decide (p * 65536 ^ 6 < val 65536 l3) = true := by simpa using hab
        rw [hr]
        have hrs : rt p 3 (s + 1) = v := by rw [HRS.out, hpow, if_neg (by omega)]
        have HRR := Lib.hid hrs
        clear hab hr hpow hrs
        go_wp2_with fail
        go_roundw
        case rel => exact ⟨s + 1, by omega, by have := HT.out; rw [show (36 : Int) - ((s + 1 : Nat) : Int) = (t : Int) - 1 by omega], by rw [HRR.out], HB3.out⟩
        case measure => simp [intOf] <;> omega
      · have hr : decide (p * 65536 ^ 6 < val 65536 l3) = false := by simpa using hab
        rw [hr]
        have hrs : rt p 3 (s + 1) = v + m := by rw [HRS.out, hpow, if_pos (by omega)]
        have HRR := Lib.hid hrs
        clear hab hr hpow hrs
        go_wp2_with fail
        go_roundw
        case rel => exact ⟨s + 1, by omega, by have := HT.out; rw [show (36 : Int) - ((s + 1 : Nat) : Int) = (t : Int) - 1 by omega], by rw [HRR.out]; push_cast; rfl, HB3.out⟩
        case measure => simp [intOf] <;> omega
    · have e37 : s = 37 := by omega
      subst e37
      generalize hgv : rt p 3 37 = v at *
      have HGV := Lib.hid hgv
      clear hgv
      rw [show (36 : Int) - ((37 : Nat) : Int) = -1 by omega]
      have hv : (v : Int) % 4294967296 = ((v % 4294967296 : Nat) : Int) := by omega
      have hv2 : (v : Int).tmod 4294967296 = ((v % 4294967296 : Nat) : Int) := by rw [Int.tmod_eq_emod_of_nonneg (by omega)]; exact hv
      generalize hgr : v % 4294967296 = r at *
      have HGR := Lib.hid hgr
      clear hgr
      go_wp2
      go_ret
      refine ⟨?_, hbr⟩
      rw [HGV.out, HGR.out]
      rfl

theorem all_get {f : Nat → Bool} {n : Nat} (h : (List.range n).all f = true) {i : Nat} (hi : i < n) : f i = true := List.all_eq_true.1 h i (List.mem_range.2 hi)
theorem word_get {i : Nat} (h : i < 64) : rt ((prs 312).getD i 0) 3 37 % 4294967296 = kw.getD i 0 := by simpa using all_get word64_true h
theorem start_get {i : Nat} (h : i < 8) : rt ((prs 20).getD i 0) 2 37 % 4294967296 = hw.getD i 0 := by simpa using all_get start8_true h
set_option maxHeartbeats 1000000 in
set_option maxRecDepth 100000 in
theorem refword_any (i : Int) (hi0 : -9223372036854775808 ≤ i) (hi1 : i ≤ 9223372036854775807) (w : World) :
    Calls Try.prog 21 #[.int .i64 i] w fun e w' => e = .returned (.int .i64 (if i < 0 ∨ 64 ≤ i then 0 else ((kw.getD i.toNat 0 : Nat) : Int))) ∧ Below w.heap.size w w' := by
  by_cases h0 : i < 0
  · rw [if_pos (.inl h0)]
    go_enter Try.func21, Try.ntmps21
    go_wp2
    go_ret
    exact ⟨rfl, Below.refl _ _⟩
  · by_cases h1 : 64 ≤ i
    · rw [if_pos (.inr h1)]
      go_enter Try.func21, Try.ntmps21
      go_wp2
      go_ret
      exact ⟨rfl, Below.refl _ _⟩
    · rw [if_neg (by omega)]
      obtain ⟨k, rfl⟩ := Int.eq_ofNat_of_zero_le (show 0 ≤ i by omega)
      rw [Int.toNat_natCast]
      have hk : k < 64 := by omega
      have hkw := word_get hk
      have hps := prs_small 312
      have hk1 : (k : Int) < 64 := by omega
      have HK := Lib.hid hkw
      have HPS := Lib.hid hps
      clear h0 h1 hkw hps
      go_enter Try.func21, Try.ntmps21
      go_wp2_with fail
      refine (refprimes_any 64 312 prs312.1 (fun p hp => by simpa using all_get prs312.2 hp) (by omega) (by omega) _).mono ?_
      rintro e w1 ⟨v1, rfl, hO1, hb1⟩
      obtain ⟨A1, c1, rfl, hc1, _⟩ := OwnV.lenN (n := 64) hO1 (by rw [i64s_length]; exact prs312.1)
      obtain ⟨ad, e1, hab, hac⟩ := (OwnV.rdv hO1) (by rw [i64s_length, prs312.1]; omega)
      subst e1
      have hc := hac k _ (i64s_get (by rw [prs312.1]; exact hk))
      have hq := HPS.out ((prs 312).getD k 0) (by rw [getD_lt (by rw [prs312.1]; exact hk)]; exact List.getElem_mem _)
      generalize (prs 312).getD k 0 = q at *
      have hz1 := hb1.size
      clear hac hO1 hab
      go_wp2_with fail
      refine (refroot3_any q (by omega) _).mono ?_
      rintro e w2 ⟨rfl, hb2⟩
      rw [HK.out]
      go_wp2_with fail
      go_ret
      exact ⟨rfl, hb1.trans (hb2.mono hz1)⟩
set_option maxHeartbeats 1000000 in
set_option maxRecDepth 100000 in
theorem refstart_any (i : Int) (hi0 : -9223372036854775808 ≤ i) (hi1 : i ≤ 9223372036854775807) (w : World) :
    Calls Try.prog 23 #[.int .i64 i] w fun e w' => e = .returned (.int .i64 (if i < 0 ∨ 8 ≤ i then 0 else ((hw.getD i.toNat 0 : Nat) : Int))) ∧ Below w.heap.size w w' := by
  by_cases h0 : i < 0
  · rw [if_pos (.inl h0)]
    go_enter Try.func23, Try.ntmps23
    go_wp2
    go_ret
    exact ⟨rfl, Below.refl _ _⟩
  · by_cases h1 : 8 ≤ i
    · rw [if_pos (.inr h1)]
      go_enter Try.func23, Try.ntmps23
      go_wp2
      go_ret
      exact ⟨rfl, Below.refl _ _⟩
    · rw [if_neg (by omega)]
      obtain ⟨k, rfl⟩ := Int.eq_ofNat_of_zero_le (show 0 ≤ i by omega)
      rw [Int.toNat_natCast]
      have hk : k < 8 := by omega
      have hkw := start_get hk
      have hps := prs_small 20
      have hk1 : (k : Int) < 8 := by omega
      have HK := Lib.hid hkw
      have HPS := Lib.hid hps
      clear h0 h1 hkw hps
      go_enter Try.func23, Try.ntmps23
      go_wp2_with fail
      refine (refprimes_any 8 20 prs20.1 (fun p hp => by simpa using all_get prs20.2 hp) (by omega) (by omega) _).mono ?_
      rintro e w1 ⟨v1, rfl, hO1, hb1⟩
      obtain ⟨A1, c1, rfl, hc1, _⟩ := OwnV.lenN (n := 8) hO1 (by rw [i64s_length]; exact prs20.1)
      obtain ⟨ad, e1, hab, hac⟩ := (OwnV.rdv hO1) (by rw [i64s_length, prs20.1]; omega)
      subst e1
      have hc := hac k _ (i64s_get (by rw [prs20.1]; exact hk))
      have hq := HPS.out ((prs 20).getD k 0) (by rw [getD_lt (by rw [prs20.1]; exact hk)]; exact List.getElem_mem _)
      generalize (prs 20).getD k 0 = q at *
      have hz1 := hb1.size
      clear hac hO1 hab
      go_wp2_with fail
      refine (refroot2_any q (by omega) _).mono ?_
      rintro e w2 ⟨rfl, hb2⟩
      rw [HK.out]
      go_wp2_with fail
      go_ret
      exact ⟨rfl, hb1.trans (hb2.mono hz1)⟩
end Go.Proofs.Ytoklpohpfoacpaa.Sha
