/- Products and comparisons by limbs of 18 bits, as the statements of this layer reckon them: contracts of law.times and law.below. -/
import Derived.Test.YtoklpohpfoacpaaShaRefRoot
import Derived.StillTailTactics
namespace Go.Proofs.Ytoklpohpfoacpaa.Sha
open Go Go.ChangeShapes Go.WideShapes Go.ChangeAt Go.RowKit
set_option linter.unusedVariables false
set_option linter.unusedSimpArgs false

/-- what is carried from one limb to the next changes no value -/
theorem carry_val {B : Nat} {o : List Nat} {k : Nat} (hk : k + 1 < o.length) : val B ((o.set (k + 1) (o.getD (k + 1) 0 + o.getD k 0 / B)).set k (o.getD k 0 % B)) = val B o := by
  have h1 := val_set B hk (o.getD (k + 1) 0 + o.getD k 0 / B)
  have h2 := val_set B (l := o.set (k + 1) (o.getD (k + 1) 0 + o.getD k 0 / B)) (i := k) (by rw [List.length_set]; omega) (o.getD k 0 % B)
  have e : (o.set (k + 1) (o.getD (k + 1) 0 + o.getD k 0 / B)).getD k 0 = o.getD k 0 := by rw [List.getD, List.getElem?_set_ne (by omega)]; rfl
  rw [e] at h2
  generalize o.getD (k + 1) 0 = y at *
  generalize o.getD k 0 = x at *
  have h3 := Nat.div_add_mod x B
  generalize x / B = q at *
  generalize x % B = r at *
  have e1 : B ^ (k + 1) * (y + q) = B ^ (k + 1) * y + B ^ k * (B * q) := by rw [Nat.mul_add, Nat.pow_succ, Nat.mul_assoc (B ^ k) B q]
  have e2 : B ^ k * x = B ^ k * (B * q) + B ^ k * r := by rw [← Nat.mul_add, h3]
  rw [e1] at h1
  rw [e2] at h2
  omega
theorem getD_set_eq {l : List Nat} {i : Nat} (h : i < l.length) (x : Nat) : (l.set i x).getD i 0 = x := by rw [getD_lt (by simpa using h)]; simp
theorem getD_set_ne' {l : List Nat} {i j : Nat} (h : i ≠ j) (x : Nat) : (l.set i x).getD j 0 = l.getD j 0 := by rw [List.getD, List.getElem?_set_ne h]; rfl
theorem getD_out {l : List Nat} {i : Nat} (h : l.length ≤ i) : l.getD i 0 = 0 := by rw [List.getD, List.getElem?_eq_none h]; rfl
theorem digs_of {B n : Nat} {l : List Nat} (hl : l.length = n) (h : ∀ j, j < n → l.getD j 0 < B) : Digs B l := by
  intro d hd
  obtain ⟨i, hi, rfl⟩ := List.getElem_of_mem hd
  rw [← getD_lt hi]
  exact h i (by omega)
theorem top_le (B : Nat) {l : List Nat} {i : Nat} (h : i < l.length) : B ^ i * l.getD i 0 ≤ val B l := by
  have := val_set B h 0
  rw [Nat.mul_zero, Nat.add_zero] at this
  omega
/-- the top limb, when the value is below -/
theorem top_lt {B n : Nat} {l : List Nat} (hB : 0 < B) (hl : l.length = n + 1) (hv : val B l < B ^ (n + 1)) : l.getD n 0 < B := by
  have h1 := top_le B (l := l) (i := n) (by omega)
  rw [Nat.pow_succ] at hv
  have h2 : B ^ n * l.getD n 0 < B ^ n * B := Nat.lt_of_le_of_lt h1 hv
  exact Nat.lt_of_mul_lt_mul_left h2
theorem i64_mask (v : Nat) (hv : v < 2 ^ 62) : bits .and .i64 (v : Int) 262143 = ((v % 262144 : Nat) : Int) := by
  have := i64_and v 262143 (by omega) (by decide)
  rw [show ((262143 : Nat) : Int) = 262143 from rfl] at this
  rw [this, show (262143 : Nat) = 2 ^ 18 - 1 by decide, Nat.and_two_pow_sub_one_eq_mod]
theorem add_facts (z x y : Nat) (hz : z < 137438953472) (hx : x < 262144) (hy : y < 262144) : ∃ P Q : Nat, IntKind.i64.wrap ((x : Int) * (y : Int)) = (P : Int) ∧ IntKind.i64.wrap ((z : Int) + (P : Int)) = (Q : Int) ∧ Q = z + x * y ∧ x * y < 68719476736 := by
  have hxy : x * y ≤ 262143 * 262143 := Nat.mul_le_mul (by omega) (by omega)
  have e : ((x : Int) * (y : Int)) = ((x * y : Nat) : Int) := by push_cast; rfl
  rw [e]
  generalize x * y = m at *
  refine ⟨m, z + m, ?_, ?_, rfl, by omega⟩
  · rw [wrp _ (by omega) (by omega)]
  · rw [wrp _ (by omega) (by omega)]; omega

set_option maxHeartbeats 4000000 in
set_option maxRecDepth 100000 in
theorem lawtimes_any (aA : Option Addr) (la ca : Nat) (a : List Nat) (v : Nat) (w : World) (B : Nat) (hB : B ≤ w.heap.size) (hla : a.length = la) (ha9 : la ≤ 64) (hv : v < 68719476736) (da : Digs 262144 a) (ra : RdV w (fun k => k < B) aA (i64s a)) :
    Calls Try.prog 25 #[.slice aA la ca, .int .i64 (v : Int)] w fun e w' => ∃ u l, e = .returned u ∧ OwnV w' 3 w.heap.size u (i64s l) ∧ l.length = la + 2 ∧ Digs 262144 l ∧ val 262144 l = val 262144 a * v ∧ Below w.heap.size w w' := by
  have HLA := Lib.hid hla
  have DA := Lib.hid da
  have RA := Lib.hid ra
  have hm := i64_mask v (by omega)
  obtain ⟨d0, hd0⟩ : ∃ d, d = v % 262144 := ⟨_, rfl⟩
  obtain ⟨d1, hd1⟩ : ∃ d, d = v / 262144 := ⟨_, rfl⟩
  rw [← hd0] at hm
  have hs1 : (v : Int) / 262144 = (d1 : Int) := by omega
  have l0 : d0 < 262144 := by omega
  have l1 : d1 < 262144 := by omega
  have HV := Lib.hid (show v = d0 + 262144 * d1 by omega)
  clear hla da ra hd0 hd1
  go_enter Try.func25, Try.ntmps25
  go_wp2_with (with_reducible refine at_slot 18 ?_
               refine wpList_make_i64 eli rfl (.tmp 17) (.tmp 17) rfl _ (la + 2) rfl rfl (by push_cast; rfl) (by omega) ?_)
  have hr0 : RowV (((w.alloc (.cells #[.int .i64 (d0 : Int), .int .i64 (d1 : Int)] 3))).alloc (.cells (i64s (List.replicate (la + 2) 0)).toArray 3)) 3 (w.heap.size + 1) (i64s (List.replicate (la + 2) 0)) := by
    have := heap_alloc_new (w.alloc (.cells #[.int .i64 (d0 : Int), .int .i64 (d1 : Int)] 3)) (.cells (i64s (List.replicate (la + 2) 0)).toArray 3)
    rw [show (w.alloc (.cells #[.int .i64 (d0 : Int), .int .i64 (d1 : Int)] 3)).heap.size = w.heap.size + 1 by simp] at this
    exact this
  have hrd0 : RowV (((w.alloc (.cells #[.int .i64 (d0 : Int), .int .i64 (d1 : Int)] 3))).alloc (.cells (i64s (List.replicate (la + 2) 0)).toArray 3)) 3 w.heap.size (i64s [d0, d1]) := RowV.alloc (w := w.alloc (.cells #[.int .i64 (d0 : Int), .int .i64 (d1 : Int)] 3)) (heap_alloc_new w _) _
  have hb0 := ((Below.refl w.heap.size w).alloc (Nat.le_refl _) (.cells #[.int .i64 (d0 : Int), .int .i64 (d1 : Int)] 3)).alloc (by simp) (.cells (i64s (List.replicate (la + 2) 0)).toArray 3)
  have hz0 : (List.replicate (la + 2) 0).length = la + 2 := by simp
  have hd0 : Digs 262144 (List.replicate (la + 2) 0) := fun d hd => by rw [(List.mem_replicate.1 hd).2]; decide
  have hv0 : val 262144 (List.replicate (la + 2) 0) = val 262144 (a.take 0) * v := by rw [val_zeros]; simp [val]
  have H0 := Lib.hid (And.intro hr0 (And.intro hrd0 (And.intro hd0 (And.intro hv0 hz0))))
  have HB0 := Lib.hid hb0
  clear hr0 hrd0 hd0 hv0 hz0 hb0
  generalize hwx : World.alloc _ _ = wx at *
  clear hwx
  go_loopw [7] (fun i wr => ∃ (k : Nat) (o : List Nat), k ≤ la ∧ i = .int .i64 k ∧ RowV wr 3 (w.heap.size + 1) (i64s o) ∧ RowV wr 3 w.heap.size (i64s [d0, d1]) ∧ o.length = la + 2 ∧ Digs 262144 o ∧ val 262144 o = val 262144 (a.take k) * v ∧ Below w.heap.size w wr) (fun i _ => la - (intOf i).toNat)
  case atStart => exact ⟨0, _, by omega, rfl, H0.out.1, H0.out.2.1, H0.out.2.2.2.2, H0.out.2.2.1, H0.out.2.2.2.1, HB0.out⟩
  case round =>
    obtain ⟨i, o, hi, rfl, hr, hrd, ho, hd, hvo, hbr⟩ := hrel
    clear H0 HB0
    by_cases hlt : i < la
    · have hda := DA.out.get (by decide) i
      obtain ⟨ada, e1, hab, hac⟩ := RA.out (by rw [i64s_length, HLA.out]; omega)
      subst e1
      have ha1 := hac i _ (i64s_get (by rw [HLA.out]; exact hlt))
      have HTS := Lib.hid (val_take_succ 262144 (l := a) (i := i) (by rw [HLA.out]; exact hlt))
      have htl := val_lt (DA.out.take i)
      have HTL := Lib.hid (val_lt (DA.out.take (i + 1)))
      generalize a.getD i 0 = x at *
      have HAC := Lib.hid (show ∀ W, Below w.heap.size w W → W.cell? (ada.add i) = some (.int .i64 (x : Int)) from fun W hb => (hb.cell (by rw [add_block]; have : ada.block < B := hab; omega)).trans ha1)
      have HST := Lib.hid (And.intro hr (And.intro hrd (And.intro ho (And.intro hd (And.intro hvo hbr)))))
      clear hac ha1 hr hrd ho hd hvo hbr htl
      obtain ⟨wo, rfl⟩ : ∃ wo : World, wo = wr := ⟨_, rfl⟩
      go_wp2
      go_loopw [8] (fun kv wr => ∃ (k : Nat) (p : List Nat), k ≤ 2 ∧ kv = .int .i64 k ∧ RowV wr 3 (w.heap.size + 1) (i64s p) ∧ RowV wr 3 w.heap.size (i64s [d0, d1]) ∧ p.length = la + 2 ∧ (∀ j, p.getD j 0 < 137438953472) ∧ (∀ j, i + k ≤ j → p.getD j 0 < 262144) ∧ (∀ j, j < i → p.getD j 0 < 262144) ∧ val 262144 p = val 262144 (a.take i) * v + 262144 ^ i * x * val 262144 ([d0, d1].take k) ∧ Below w.heap.size w wr) (fun kv _ => 2 - (intOf kv).toNat)
      case atStart =>
        have hdg := HST.out.2.2.2.1
        exact ⟨0, o, by omega, rfl, HST.out.1, HST.out.2.1, HST.out.2.2.1, fun j => by have := hdg.get (by decide) j; omega, fun j _ => hdg.get (by decide) j, fun j _ => hdg.get (by decide) j, by simp [val]; exact HST.out.2.2.2.2.1, HST.out.2.2.2.2.2⟩
      case round =>
        obtain ⟨k, p, hk, rfl, hr, hrd, ho, hg1, hg2, hg3, hvp, hbr⟩ := hrel
        by_cases hltk : k < 2
        · have hcd := cell_i64 hrd (i := k) (by simpa using hltk)
          have hdk : [d0, d1].getD k 0 < 262144 := by
            obtain rfl | rfl : k = 0 ∨ k = 1 := by omega
            · exact l0
            · exact l1
          have hts := val_take_succ 262144 (l := [d0, d1]) (i := k) (by simpa using hltk)
          have hcz := cell_i64 hr (i := i + k) (by rw [ho]; omega)
          have hfz := hr.frozen (i + k)
          have hca := HAC.out wr hbr
          have hvs := fun q => val_set 262144 (l := p) (i := i + k) (by rw [ho]; omega) q
          have hz1 := hg2 (i + k) (Nat.le_refl _)
          generalize [d0, d1].getD k 0 = y at *
          generalize hzz : p.getD (i + k) 0 = z at *
          obtain ⟨P, Q, y1, y2, hQ, hP⟩ := add_facts z x y (by omega) hda hdk
          have hset := hr.set (i + k) (.int .i64 (Q : Int))
          rw [i64s_set] at hset
          have hval : val 262144 (p.set (i + k) Q) = val 262144 (a.take i) * v + 262144 ^ i * x * val 262144 ([d0, d1].take (k + 1)) := by
            have h1 := hvs Q
            rw [hQ, Nat.mul_add] at h1
            rw [hts, Nat.mul_add]
            have e : 262144 ^ i * x * (262144 ^ k * y) = 262144 ^ (i + k) * (x * y) := by rw [Nat.pow_add]; ac_rfl
            rw [e, hQ]
            omega
          have hl2 : (p.set (i + k) Q).length = la + 2 := by rw [List.length_set]; exact ho
          have hk1 : ∀ j, (p.set (i + k) Q).getD j 0 < 137438953472 := fun j => by
            by_cases hj : i + k = j
            · subst hj; rw [getD_set_eq (by rw [ho]; omega)]; omega
            · rw [getD_set_ne' hj]; exact hg1 j
          have hk2 : ∀ j, i + (k + 1) ≤ j → (p.set (i + k) Q).getD j 0 < 262144 := fun j hj => by rw [getD_set_ne' (by omega)]; exact hg2 j (by omega)
          have hk3 : ∀ j, j < i → (p.set (i + k) Q).getD j 0 < 262144 := fun j hj => by rw [getD_set_ne' (by omega)]; exact hg3 j hj
          have hb2 : Below w.heap.size w (wr.setCell ⟨w.heap.size + 1, i + k, none⟩ (.int .i64 (Q : Int))) := hbr.setCell (by show w.heap.size ≤ w.heap.size + 1; omega) _
          have hrd2 := hrd.far (p := ⟨w.heap.size + 1, i + k, none⟩) (by show w.heap.size ≠ w.heap.size + 1; omega) (.int .i64 (Q : Int))
          have H2 := Lib.hid (And.intro hset (And.intro hrd2 (And.intro hl2 (And.intro hk1 (And.intro hk2 (And.intro hk3 (And.intro hval hb2)))))))
          have s1 : IntKind.i64.wrap ((i : Int) + (k : Int)) = (i : Int) + (k : Int) := wrp _ (by omega) (by omega)
          have s2 : (0 : Int) ≤ (i : Int) + (k : Int) := by omega
          have s3 : (i : Int) + (k : Int) < (la : Int) + 2 := by omega
          have s4 : ((i : Int) + (k : Int)).toNat = i + k := by omega
          have s5 : (i : Int) < (la : Int) := by omega
          have s6 : (k : Int) < 2 := by omega
          have s7 : (0 : Int) ≤ (i : Int) := by omega
          have s8 : (0 : Int) ≤ (k : Int) := by omega
          clear hset hrd2 hl2 hk1 hk2 hk3 hval hb2 hvs hts hr hrd ho hg1 hg2 hg3 hvp hbr hzz hQ
          go_wp2_with fail
          refine wp_region_still_tail 21 (by kernel_rfl) (by kernel_rfl) ?_
          change wpStill _ _ (World.drew wr) (fun a' => wpList _ _ _ _ a' (World.drew wr)) _ _
          simp only [List.take_succ_cons, List.take_zero, List.drop_succ_cons, List.drop_zero]
          repeat still_step
          refine wpStill_nil ?_
          go_wp2_with fail
          go_roundw
          case rel => exact ⟨k + 1, p.set (i + k) Q, by omega, by go_num, H2.out.1, H2.out.2.1, H2.out.2.2.1, H2.out.2.2.2.1, H2.out.2.2.2.2.1, H2.out.2.2.2.2.2.1, H2.out.2.2.2.2.2.2.1, H2.out.2.2.2.2.2.2.2.trans (Below.refl _ _).drew⟩
          case measure => simp [intOf] <;> omega
        · have hk2 : k = 2 := by omega
          subst hk2
          have hvt : val 262144 p = val 262144 (a.take (i + 1)) * v := by
            rw [hvp, HTS.out, Nat.add_mul, HV.out]
            simp only [List.take_succ_cons, List.take_zero, val, Nat.mul_zero, Nat.add_zero]
          have htop : val 262144 p < 262144 ^ (la + 1 + 1) := by
            rw [hvt]
            have h1 := HTL.out
            have h2 : (a.take (i + 1)).length = i + 1 := by rw [List.length_take, HLA.out]; omega
            rw [h2] at h1
            have h3 : val 262144 (a.take (i + 1)) * v < 262144 ^ (i + 1) * 262144 ^ 2 := Nat.mul_lt_mul'' h1 (by omega)
            rw [← Nat.pow_add] at h3
            exact Nat.lt_of_lt_of_le h3 (Nat.pow_le_pow_right (by decide) (by omega))
          generalize hT : val 262144 (a.take (i + 1)) * v = T at *
          rw [hvt] at htop
          have HT := Lib.hid hT
          have HTOP := Lib.hid htop
          have HSTB := Lib.hid (And.intro hr (And.intro hrd (And.intro ho (And.intro hvt (And.intro hg1 (And.intro hg3 hbr))))))
          clear hr hrd ho hg1 hg2 hg3 hvp hvt hbr htop hT HST
          rw [show ((2 : Nat) : Int) = 2 from rfl]
          obtain ⟨wz, rfl⟩ : ∃ wz : World, wz = wr := ⟨_, rfl⟩
          go_wp2
          go_loopw [9] (fun kv wr => ∃ (k : Nat) (q : List Nat), i ≤ k ∧ k ≤ la + 1 ∧ kv = .int .i64 k ∧ RowV wr 3 (w.heap.size + 1) (i64s q) ∧ RowV wr 3 w.heap.size (i64s [d0, d1]) ∧ q.length = la + 2 ∧ val 262144 q = T ∧ (∀ j, j < k → q.getD j 0 < 262144) ∧ q.getD k 0 < 274877906944 ∧ (∀ j, k < j → q.getD j 0 < 137438953472) ∧ Below w.heap.size w wr) (fun kv _ => la + 1 - (intOf kv).toNat)
          case atStart => exact ⟨i, p, by omega, by omega, rfl, HSTB.out.1, HSTB.out.2.1, HSTB.out.2.2.1, HSTB.out.2.2.2.1, HSTB.out.2.2.2.2.2.1, by have := HSTB.out.2.2.2.2.1 i; omega, fun j _ => HSTB.out.2.2.2.2.1 j, HSTB.out.2.2.2.2.2.2⟩
          case round =>
            obtain ⟨k, q, hik, hk, rfl, hr, hrd, ho, hvq, hg1, hgk, hg2, hbr⟩ := hrel
            clear HSTB
            by_cases hltk : k < la + 1
            · have hcx := cell_i64 hr (i := k) (by rw [ho]; omega)
              have hcy := cell_i64 hr (i := k + 1) (by rw [ho]; omega)
              have hfx := hr.frozen k
              have hfy := hr.frozen (k + 1)
              have hcv := carry_val (B := 262144) (o := q) (k := k) (by rw [ho]; omega)
              have hgy := hg2 (k + 1) (by omega)
              have hset := hr.set (k + 1) (.int .i64 (((q.getD (k + 1) 0 + q.getD k 0 / 262144 : Nat)) : Int))
              rw [i64s_set] at hset
              have hset2 := hset.set k (.int .i64 (((q.getD k 0 % 262144 : Nat)) : Int))
              rw [i64s_set] at hset2
              have hk1 : ∀ j, j < k + 1 → ((q.set (k + 1) (q.getD (k + 1) 0 + q.getD k 0 / 262144)).set k (q.getD k 0 % 262144)).getD j 0 < 262144 := fun j hj => by
                by_cases hjk : k = j
                · subst hjk; rw [getD_set_eq (by rw [List.length_set, ho]; omega)]; omega
                · rw [getD_set_ne' hjk, getD_set_ne' (by omega)]; exact hg1 j (by omega)
              have hk2 : ((q.set (k + 1) (q.getD (k + 1) 0 + q.getD k 0 / 262144)).set k (q.getD k 0 % 262144)).getD (k + 1) 0 < 274877906944 := by
                rw [getD_set_ne' (by omega), getD_set_eq (by rw [ho]; omega)]; omega
              have hk3 : ∀ j, k + 1 < j → ((q.set (k + 1) (q.getD (k + 1) 0 + q.getD k 0 / 262144)).set k (q.getD k 0 % 262144)).getD j 0 < 137438953472 := fun j hj => by
                rw [getD_set_ne' (by omega), getD_set_ne' (by omega)]; exact hg2 j (by omega)
              have hl2 : ((q.set (k + 1) (q.getD (k + 1) 0 + q.getD k 0 / 262144)).set k (q.getD k 0 % 262144)).length = la + 2 := by rw [List.length_set, List.length_set]; exact ho
              have hrd2 := (hrd.far (p := ⟨w.heap.size + 1, k + 1, none⟩) (by show w.heap.size ≠ w.heap.size + 1; omega) (.int .i64 (((q.getD (k + 1) 0 + q.getD k 0 / 262144 : Nat)) : Int))).far (p := ⟨w.heap.size + 1, k, none⟩) (by show w.heap.size ≠ w.heap.size + 1; omega) (.int .i64 (((q.getD k 0 % 262144 : Nat)) : Int))
              have hb2 := (hbr.setCell (p := ⟨w.heap.size + 1, k + 1, none⟩) (by show w.heap.size ≤ w.heap.size + 1; omega) (.int .i64 (((q.getD (k + 1) 0 + q.getD k 0 / 262144 : Nat)) : Int))).setCell (p := ⟨w.heap.size + 1, k, none⟩) (by show w.heap.size ≤ w.heap.size + 1; omega) (.int .i64 (((q.getD k 0 % 262144 : Nat)) : Int))
              rw [hvq] at hcv
              obtain ⟨q', hq'⟩ : ∃ q', q' = (q.set (k + 1) (q.getD (k + 1) 0 + q.getD k 0 / 262144)).set k (q.getD k 0 % 262144) := ⟨_, rfl⟩
              rw [← hq'] at hset2 hk1 hk2 hk3 hl2 hcv
              generalize q.getD (k + 1) 0 = y at *
              generalize q.getD k 0 = x2 at *
              obtain ⟨c, hc⟩ : ∃ c, c = x2 / 262144 := ⟨_, rfl⟩
              obtain ⟨r, hr'⟩ : ∃ r, r = x2 % 262144 := ⟨_, rfl⟩
              obtain ⟨Y, hY⟩ : ∃ Y, Y = y + c := ⟨_, rfl⟩
              have hmk := i64_mask x2 (by omega)
              rw [← hc, ← hr', ← hY] at hset2 hrd2 hb2
              rw [← hr'] at hmk
              have hsh : (x2 : Int) / 262144 = (c : Int) := by omega
              have hsm : IntKind.i64.wrap ((y : Int) + (c : Int)) = (Y : Int) := by rw [wrp _ (by omega) (by omega)]; omega
              have H2 := Lib.hid (And.intro hset2 (And.intro hrd2 (And.intro hl2 (And.intro hcv (And.intro hk1 (And.intro hk2 (And.intro hk3 hb2)))))))
              have s1 : IntKind.i64.wrap ((k : Int) + 1) = (k : Int) + 1 := wrp _ (by omega) (by omega)
              have s2 : (0 : Int) ≤ (k : Int) + 1 := by omega
              have s3 : (k : Int) + 1 < (la : Int) + 2 := by omega
              have s4 : ((k : Int) + 1).toNat = k + 1 := by omega
              have s5 : (k : Int) < (la : Int) + 2 := by omega
              have s6 : (k : Int) < (la : Int) + 1 := by omega
              have s8 : (0 : Int) ≤ (k : Int) := by omega
              have s9 : (x2 : Int) < 274877906944 := by omega
              clear hset hset2 hrd2 hl2 hk1 hk2 hk3 hcv hb2 hr hrd ho hg1 hg2 hvq hbr hq' hc hr' hY s9 hgk hgy
              go_wp2_with fail
              refine wp_region_still_tail 15 (by kernel_rfl) (by kernel_rfl) ?_
              change wpStill _ _ (World.drew wr) (fun a' => wpList _ _ _ _ a' (World.drew wr)) _ _
              simp only [List.take_succ_cons, List.take_zero, List.drop_succ_cons, List.drop_zero]
              repeat still_step
              refine wpStill_nil ?_
              go_wp2_with fail
              go_roundw
              case rel => exact ⟨k + 1, q', by omega, by omega, by go_num, H2.out.1, H2.out.2.1, H2.out.2.2.1, H2.out.2.2.2.1, H2.out.2.2.2.2.1, H2.out.2.2.2.2.2.1, H2.out.2.2.2.2.2.2.1, H2.out.2.2.2.2.2.2.2.trans (Below.refl _ _).drew⟩
              case measure => simp [intOf] <;> omega
            · have hkn : k = la + 1 := by omega
              subst hkn
              have hdg : Digs 262144 q := digs_of ho (fun j hj => by
                rcases Nat.lt_or_ge j (la + 1) with h | h
                · exact hg1 j h
                · have hj' : j = la + 1 := by omega
                  subst hj'
                  exact top_lt (n := la + 1) (by decide) ho (by rw [hvq]; exact HTOP.out))
              rw [← HT.out] at hvq
              have HF := Lib.hid (And.intro hr (And.intro hrd (And.intro ho (And.intro hdg (And.intro hvq hbr)))))
              clear hr hrd ho hdg hvq hbr hg1 hgk hg2 hik hltk
              go_wp2
              go_roundw
              case rel => exact ⟨i + 1, q, by omega, by go_num, HF.out.1, HF.out.2.1, HF.out.2.2.1, HF.out.2.2.2.1, HF.out.2.2.2.2.1, HF.out.2.2.2.2.2⟩
              case measure => simp [intOf] <;> omega
    · have hil : i = la := by omega
      subst hil
      rw [List.take_of_length_le (by rw [HLA.out]; omega)] at hvo
      have hown := OwnV.row (xs := i64s o) hr (show w.heap.size ≤ w.heap.size + 1 by omega) (n := i + 2) (by rw [i64s_length, ho]) (by omega)
      clear hr hrd
      go_wp2
      go_ret
      exact ⟨_, o, rfl, hown, ho, hd, hvo, hbr⟩

theorem set_self {l : List Nat} {i : Nat} (h : i < l.length) : l.set i (l.getD i 0) = l := by
  rw [getD_lt h]
  exact List.set_getElem_self h
theorem unit_low {n k q i : Nat} (h : i ≤ k) : Digs 262144 ((unit n k q).take i) := by
  intro d hd
  have e : (unit n k q).take i = (List.replicate n 0).take i := by unfold unit; rw [List.take_set_of_le h]
  rw [e] at hd
  have := List.mem_of_mem_take hd
  rw [(List.mem_replicate.1 this).2]; decide
theorem drop_same {a b : List Nat} {i : Nat} (ha : i < a.length) (hb : i < b.length) (hd : a.drop (i + 1) = b.drop (i + 1)) (h : a.getD i 0 = b.getD i 0) : a.drop i = b.drop i := by
  have h1 := List.drop_eq_getElem_cons (l := a) (i := i) ha
  have h2 := List.drop_eq_getElem_cons (l := b) (i := i) hb
  rw [← getD_lt] at h1 h2
  rw [h1, h2, hd, h]

set_option maxHeartbeats 4000000 in
set_option maxRecDepth 100000 in
theorem lawbelow3_any (aA : Option Addr) (ca : Nat) (a : List Nat) (p : Nat) (w : World) (B : Nat) (hB : B ≤ w.heap.size) (hla : a.length = 6) (hp : p < 1000) (da : Digs 262144 a) (ra : RdV w (fun k => k < B) aA (i64s a)) :
    Calls Try.prog 24 #[.slice aA 6 ca, .int .i64 (p : Int), .int .i64 3] w fun e w' => e = .returned (.bool (decide (val 262144 a < p * 64 * 262144 ^ 5))) ∧ Below w.heap.size w w' := by
  have HLA := Lib.hid hla
  have DA := Lib.hid da
  have RA := Lib.hid ra
  obtain ⟨q, hq⟩ : ∃ q, q = p * 64 := ⟨_, rfl⟩
  have hqi : (p : Int) * 64 = (q : Int) := by rw [hq]; push_cast; rfl
  have hq1 : (q : Int) ≤ 1073741824 := by omega
  have hq2 : q < 262144 * 4 := by omega
  rw [← hq]
  clear hla da ra hq
  have hr0 : RowV (w.alloc (.cells ((i64s (List.replicate 6 0)).set 5 (.int .i64 (q : Int))).toArray 3)) 3 w.heap.size (i64s (unit 6 5 q)) := heap_alloc_new w _
  have hb0 := (Below.refl w.heap.size w).alloc (Nat.le_refl _) (.cells ((i64s (List.replicate 6 0)).set 5 (.int .i64 (q : Int))).toArray 3)
  have H0 := Lib.hid (And.intro hr0 hb0)
  clear hr0 hb0
  go_enter Try.func24, Try.ntmps24
  go_wp2_with (with_reducible refine at_slot 15 ?_
               refine wpList_make_i64 eli rfl (.tmp 14) (.tmp 14) rfl _ 6 rfl rfl rfl (by omega) ?_)
  go_loopw [9] (fun kv wr => ∃ k : Nat, k ≤ 5 ∧ kv = .int .i64 k ∧ RowV wr 3 w.heap.size (i64s (unit 6 5 q)) ∧ Below w.heap.size w wr) (fun kv _ => 5 - (intOf kv).toNat)
  case atStart => exact ⟨0, by omega, rfl, H0.out.1, H0.out.2⟩
  case round =>
    obtain ⟨k, hk, rfl, hr, hbr⟩ := hrel
    clear H0
    by_cases hltk : k < 5
    · have hcx := cell_i64 hr (i := k) (by rw [unit_len]; omega)
      have hcy := cell_i64 hr (i := k + 1) (by rw [unit_len]; omega)
      have hfx := hr.frozen k
      have hfy := hr.frozen (k + 1)
      have hgx : (unit 6 5 q).getD k 0 = 0 := by rw [unit_get _ _ _ _ (by omega), if_neg (by omega)]
      have hgy : (unit 6 5 q).getD (k + 1) 0 < 1048576 := by rw [unit_get _ _ _ _ (by omega)]; split <;> omega
      have hs1 := hr.set (k + 1) (.int .i64 (((unit 6 5 q).getD (k + 1) 0 : Nat) : Int))
      rw [i64s_set, set_self (by rw [unit_len]; omega)] at hs1
      have hs2 := hs1.set k (.int .i64 (((unit 6 5 q).getD k 0 : Nat) : Int))
      rw [i64s_set, set_self (by rw [unit_len]; omega)] at hs2
      rw [hgx] at hcx hs2
      generalize (unit 6 5 q).getD (k + 1) 0 = y at *
      have hb2 := (hbr.setCell (p := ⟨w.heap.size, k + 1, none⟩) (Nat.le_refl _) (.int .i64 (y : Int))).setCell (p := ⟨w.heap.size, k, none⟩) (Nat.le_refl _) (.int .i64 ((0 : Nat) : Int))
      have H2 := Lib.hid (And.intro hs2 hb2)
      have s1 : IntKind.i64.wrap ((k : Int) + 1) = (k : Int) + 1 := wrp _ (by omega) (by omega)
      have s2 : (0 : Int) ≤ (k : Int) + 1 := by omega
      have s3 : (k : Int) + 1 < 6 := by omega
      have s4 : ((k : Int) + 1).toNat = k + 1 := by omega
      have s5 : (k : Int) < 6 := by omega
      have s6 : (k : Int) < 5 := by omega
      have s8 : (0 : Int) ≤ (k : Int) := by omega
      have s9 := wrp (y : Int) (by omega) (by omega)
      have hm0 : bits BinOp.and IntKind.i64 0 262143 = 0 := by decide
      clear hs1 hs2 hb2 hr hbr hgx hgy
      go_wp2_with fail
      refine wp_region_still_tail 15 (by kernel_rfl) (by kernel_rfl) ?_
      change wpStill _ _ (World.drew wr) (fun a' => wpList _ _ _ _ a' (World.drew wr)) _ _
      simp only [List.take_succ_cons, List.take_zero, List.drop_succ_cons, List.drop_zero]
      repeat still_step
      refine wpStill_nil ?_
      go_wp2_with fail
      go_roundw
      case rel => exact ⟨k + 1, by omega, by go_num, H2.out.1, H2.out.2.trans (Below.refl _ _).drew⟩
      case measure => simp [intOf] <;> omega
    · have hkt : k = 5 := by omega
      subst hkt
      have h0 : a.drop 6 = (unit 6 5 q).drop 6 := by rw [List.drop_eq_nil_of_le (by rw [HLA.out]; omega), List.drop_eq_nil_of_le (by rw [unit_len]; omega)]
      have H0 := Lib.hid h0
      have HR := Lib.hid hr
      have HBR := Lib.hid hbr
      clear h0 hr hbr hltk hk
      rw [show ((5 : Nat) : Int) = 5 from rfl]
      obtain ⟨w1, rfl⟩ : ∃ w1 : World, w1 = wr := ⟨_, rfl⟩
      go_wp2
      go_loopw [10] (fun i wr => ∃ s : Nat, s ≤ 6 ∧ i = .int .i64 ((s : Int) - 1) ∧ a.drop s = (unit 6 5 q).drop s ∧ RowV wr 3 w.heap.size (i64s (unit 6 5 q)) ∧ Below w.heap.size w wr) (fun i _ => (intOf i + 1).toNat)
      case atStart => exact ⟨6, Nat.le_refl _, rfl, H0.out, HR.out, HBR.out⟩
      case round =>
        obtain ⟨s, hs, rfl, hd, hr, hbr⟩ := hrel
        clear H0
        rcases s with _ | j
        · have hr' : decide (val 262144 a < q * 262144 ^ 5) = false := by
            have e : a = unit 6 5 q := by simpa using hd
            rw [e, unit_val _ _ _ _ (by omega)]; simp
          have HRR := Lib.hid hr'
          clear hd hr' hr
          rw [show ((0 : Nat) : Int) - 1 = -1 from rfl]
          go_wp2
          go_ret
          exact ⟨congrArg (fun b => Ending.returned (.bool b)) HRR.out.symm, hbr⟩
        · rw [show ((j + 1 : Nat) : Int) - 1 = (j : Int) by omega]
          have hjl : j < 6 := by omega
          obtain ⟨ad, e1, hab, hac⟩ := RA.out (by rw [i64s_length, HLA.out]; omega)
          subst e1
          have hc := (hbr.cell (by rw [add_block]; have : ad.block < B := hab; omega)).trans (hac j _ (i64s_get (by rw [HLA.out]; exact hjl)))
          have hcb := cell_i64 hr (i := j) (by rw [unit_len]; exact hjl)
          have hmore := fun h => val_cmp (B := 262144) (by decide) (a := unit 6 5 q) (b := a) (by rw [unit_len, HLA.out]) (i := j) (by rw [unit_len]; exact hjl) (unit_low (by omega)) hd.symm h
          have hless := fun h => val_cmp (B := 262144) (by decide) (a := a) (b := unit 6 5 q) (by rw [unit_len, HLA.out]) (i := j) (by rw [HLA.out]; exact hjl) (DA.out.take _) hd h
          rw [unit_val _ _ _ _ (by omega)] at hmore hless
          have hsame := fun h => drop_same (a := a) (b := unit 6 5 q) (i := j) (by rw [HLA.out]; exact hjl) (by rw [unit_len]; exact hjl) hd h
          generalize a.getD j 0 = x at *
          generalize (unit 6 5 q).getD j 0 = y at *
          have j1 : (j : Int) < 6 := by omega
          have j0 : (0 : Int) ≤ (j : Int) := by omega
          have HM := Lib.hid hmore
          have HLS := Lib.hid hless
          have HE := Lib.hid hsame
          have HRW := Lib.hid hr
          have HBR := Lib.hid hbr
          clear hmore hless hsame hac hd hr hbr
          by_cases hxy : x = y
          · subst hxy
            go_wp2_with fail
            go_quiet (fail)
            go_wp2_with fail
            go_roundw
            case rel => exact ⟨j, by omega, by go_num, HE.out (by first | rfl | trivial), HRW.out, HBR.out.trans (below_drewN _ _ _)⟩
            case measure => simp [intOf] <;> omega
          · have t2 : ((x : Int) != (y : Int)) = true := by rw [bne_iff_ne]; omega
            have t3 : ((x : Int) == (y : Int)) = false := by rw [beq_eq_false_iff_ne]; omega
            have hxy' := Lib.hid hxy
            have hdd : decide (val 262144 a < q * 262144 ^ 5) = decide (x < y) := by
              by_cases hlt : x < y
              · have := HLS.out hlt; simp [hlt, this]
              · have h1 := HM.out (by have := hxy'.out; omega); simp [hlt]; omega
            have HDD := Lib.hid hdd
            clear hxy hdd
            go_wp2_with fail
            go_quiet (fail)
            generalize hwq : wr.drewN nq = wq
            have hcq : ∀ p, wq.cell? p = wr.cell? p := fun p => by rw [← hwq]; rfl
            have HBQ := Lib.hid (HBR.out.trans (below_drewN w.heap.size wr nq))
            rw [hwq] at HBQ
            replace hc := (hcq _).trans hc
            replace hcb := (hcq _).trans hcb
            clear hwq hcq
            go_wp2_with fail
            go_quiet (fail)
            go_wp2_with fail
            go_ret
            exact ⟨by rw [HDD.out]; simp, HBQ.out.trans (below_drewN _ _ _)⟩

set_option maxHeartbeats 4000000 in
set_option maxRecDepth 100000 in
theorem lawbelow2_any (aA : Option Addr) (ca : Nat) (a : List Nat) (p : Nat) (w : World) (B : Nat) (hB : B ≤ w.heap.size) (hla : a.length = 4) (hp : p < 1000) (da : Digs 262144 a) (ra : RdV w (fun k => k < B) aA (i64s a)) :
    Calls Try.prog 24 #[.slice aA 4 ca, .int .i64 (p : Int), .int .i64 2] w fun e w' => e = .returned (.bool (decide (val 262144 a < p * 1024 * 262144 ^ 3))) ∧ Below w.heap.size w w' := by
  have HLA := Lib.hid hla
  have DA := Lib.hid da
  have RA := Lib.hid ra
  obtain ⟨q, hq⟩ : ∃ q, q = p * 1024 := ⟨_, rfl⟩
  have hqi : (p : Int) * 1024 = (q : Int) := by rw [hq]; push_cast; rfl
  have hq1 : (q : Int) ≤ 1073741824 := by omega
  have hq2 : q < 262144 * 4 := by omega
  rw [← hq]
  clear hla da ra hq
  have hr0 : RowV (w.alloc (.cells ((i64s (List.replicate 4 0)).set 3 (.int .i64 (q : Int))).toArray 3)) 3 w.heap.size (i64s (unit 4 3 q)) := heap_alloc_new w _
  have hb0 := (Below.refl w.heap.size w).alloc (Nat.le_refl _) (.cells ((i64s (List.replicate 4 0)).set 3 (.int .i64 (q : Int))).toArray 3)
  have H0 := Lib.hid (And.intro hr0 hb0)
  clear hr0 hb0
  go_enter Try.func24, Try.ntmps24
  go_wp2_with (with_reducible refine at_slot 15 ?_
               refine wpList_make_i64 eli rfl (.tmp 14) (.tmp 14) rfl _ 4 rfl rfl rfl (by omega) ?_)
  go_loopw [9] (fun kv wr => ∃ k : Nat, k ≤ 3 ∧ kv = .int .i64 k ∧ RowV wr 3 w.heap.size (i64s (unit 4 3 q)) ∧ Below w.heap.size w wr) (fun kv _ => 3 - (intOf kv).toNat)
  case atStart => exact ⟨0, by omega, rfl, H0.out.1, H0.out.2⟩
  case round =>
    obtain ⟨k, hk, rfl, hr, hbr⟩ := hrel
    clear H0
    by_cases hltk : k < 3
    · have hcx := cell_i64 hr (i := k) (by rw [unit_len]; omega)
      have hcy := cell_i64 hr (i := k + 1) (by rw [unit_len]; omega)
      have hfx := hr.frozen k
      have hfy := hr.frozen (k + 1)
      have hgx : (unit 4 3 q).getD k 0 = 0 := by rw [unit_get _ _ _ _ (by omega), if_neg (by omega)]
      have hgy : (unit 4 3 q).getD (k + 1) 0 < 1048576 := by rw [unit_get _ _ _ _ (by omega)]; split <;> omega
      have hs1 := hr.set (k + 1) (.int .i64 (((unit 4 3 q).getD (k + 1) 0 : Nat) : Int))
      rw [i64s_set, set_self (by rw [unit_len]; omega)] at hs1
      have hs2 := hs1.set k (.int .i64 (((unit 4 3 q).getD k 0 : Nat) : Int))
      rw [i64s_set, set_self (by rw [unit_len]; omega)] at hs2
      rw [hgx] at hcx hs2
      generalize (unit 4 3 q).getD (k + 1) 0 = y at *
      have hb2 := (hbr.setCell (p := ⟨w.heap.size, k + 1, none⟩) (Nat.le_refl _) (.int .i64 (y : Int))).setCell (p := ⟨w.heap.size, k, none⟩) (Nat.le_refl _) (.int .i64 ((0 : Nat) : Int))
      have H2 := Lib.hid (And.intro hs2 hb2)
      have s1 : IntKind.i64.wrap ((k : Int) + 1) = (k : Int) + 1 := wrp _ (by omega) (by omega)
      have s2 : (0 : Int) ≤ (k : Int) + 1 := by omega
      have s3 : (k : Int) + 1 < 4 := by omega
      have s4 : ((k : Int) + 1).toNat = k + 1 := by omega
      have s5 : (k : Int) < 4 := by omega
      have s6 : (k : Int) < 3 := by omega
      have s8 : (0 : Int) ≤ (k : Int) := by omega
      have s9 := wrp (y : Int) (by omega) (by omega)
      have hm0 : bits BinOp.and IntKind.i64 0 262143 = 0 := by decide
      clear hs1 hs2 hb2 hr hbr hgx hgy
      go_wp2_with fail
      refine wp_region_still_tail 15 (by kernel_rfl) (by kernel_rfl) ?_
      change wpStill _ _ (World.drew wr) (fun a' => wpList _ _ _ _ a' (World.drew wr)) _ _
      simp only [List.take_succ_cons, List.take_zero, List.drop_succ_cons, List.drop_zero]
      repeat still_step
      refine wpStill_nil ?_
      go_wp2_with fail
      go_roundw
      case rel => exact ⟨k + 1, by omega, by go_num, H2.out.1, H2.out.2.trans (Below.refl _ _).drew⟩
      case measure => simp [intOf] <;> omega
    · have hkt : k = 3 := by omega
      subst hkt
      have h0 : a.drop 4 = (unit 4 3 q).drop 4 := by rw [List.drop_eq_nil_of_le (by rw [HLA.out]; omega), List.drop_eq_nil_of_le (by rw [unit_len]; omega)]
      have H0 := Lib.hid h0
      have HR := Lib.hid hr
      have HBR := Lib.hid hbr
      clear h0 hr hbr hltk hk
      rw [show ((3 : Nat) : Int) = 3 from rfl]
      obtain ⟨w1, rfl⟩ : ∃ w1 : World, w1 = wr := ⟨_, rfl⟩
      go_wp2
      go_loopw [10] (fun i wr => ∃ s : Nat, s ≤ 4 ∧ i = .int .i64 ((s : Int) - 1) ∧ a.drop s = (unit 4 3 q).drop s ∧ RowV wr 3 w.heap.size (i64s (unit 4 3 q)) ∧ Below w.heap.size w wr) (fun i _ => (intOf i + 1).toNat)
      case atStart => exact ⟨4, Nat.le_refl _, rfl, H0.out, HR.out, HBR.out⟩
      case round =>
        obtain ⟨s, hs, rfl, hd, hr, hbr⟩ := hrel
        clear H0
        rcases s with _ | j
        · have hr' : decide (val 262144 a < q * 262144 ^ 3) = false := by
            have e : a = unit 4 3 q := by simpa using hd
            rw [e, unit_val _ _ _ _ (by omega)]; simp
          have HRR := Lib.hid hr'
          clear hd hr' hr
          rw [show ((0 : Nat) : Int) - 1 = -1 from rfl]
          go_wp2
          go_ret
          exact ⟨congrArg (fun b => Ending.returned (.bool b)) HRR.out.symm, hbr⟩
        · rw [show ((j + 1 : Nat) : Int) - 1 = (j : Int) by omega]
          have hjl : j < 4 := by omega
          obtain ⟨ad, e1, hab, hac⟩ := RA.out (by rw [i64s_length, HLA.out]; omega)
          subst e1
          have hc := (hbr.cell (by rw [add_block]; have : ad.block < B := hab; omega)).trans (hac j _ (i64s_get (by rw [HLA.out]; exact hjl)))
          have hcb := cell_i64 hr (i := j) (by rw [unit_len]; exact hjl)
          have hmore := fun h => val_cmp (B := 262144) (by decide) (a := unit 4 3 q) (b := a) (by rw [unit_len, HLA.out]) (i := j) (by rw [unit_len]; exact hjl) (unit_low (by omega)) hd.symm h
          have hless := fun h => val_cmp (B := 262144) (by decide) (a := a) (b := unit 4 3 q) (by rw [unit_len, HLA.out]) (i := j) (by rw [HLA.out]; exact hjl) (DA.out.take _) hd h
          rw [unit_val _ _ _ _ (by omega)] at hmore hless
          have hsame := fun h => drop_same (a := a) (b := unit 4 3 q) (i := j) (by rw [HLA.out]; exact hjl) (by rw [unit_len]; exact hjl) hd h
          generalize a.getD j 0 = x at *
          generalize (unit 4 3 q).getD j 0 = y at *
          have j1 : (j : Int) < 4 := by omega
          have j0 : (0 : Int) ≤ (j : Int) := by omega
          have HM := Lib.hid hmore
          have HLS := Lib.hid hless
          have HE := Lib.hid hsame
          have HRW := Lib.hid hr
          have HBR := Lib.hid hbr
          clear hmore hless hsame hac hd hr hbr
          by_cases hxy : x = y
          · subst hxy
            go_wp2_with fail
            go_quiet (fail)
            go_wp2_with fail
            go_roundw
            case rel => exact ⟨j, by omega, by go_num, HE.out (by first | rfl | trivial), HRW.out, HBR.out.trans (below_drewN _ _ _)⟩
            case measure => simp [intOf] <;> omega
          · have t2 : ((x : Int) != (y : Int)) = true := by rw [bne_iff_ne]; omega
            have t3 : ((x : Int) == (y : Int)) = false := by rw [beq_eq_false_iff_ne]; omega
            have hxy' := Lib.hid hxy
            have hdd : decide (val 262144 a < q * 262144 ^ 3) = decide (x < y) := by
              by_cases hlt : x < y
              · have := HLS.out hlt; simp [hlt, this]
              · have h1 := HM.out (by have := hxy'.out; omega); simp [hlt]; omega
            have HDD := Lib.hid hdd
            clear hxy hdd
            go_wp2_with fail
            go_quiet (fail)
            generalize hwq : wr.drewN nq = wq
            have hcq : ∀ p, wq.cell? p = wr.cell? p := fun p => by rw [← hwq]; rfl
            have HBQ := Lib.hid (HBR.out.trans (below_drewN w.heap.size wr nq))
            rw [hwq] at HBQ
            replace hc := (hcq _).trans hc
            replace hcb := (hcq _).trans hcb
            clear hwq hcq
            go_wp2_with fail
            go_quiet (fail)
            go_wp2_with fail
            go_ret
            exact ⟨by rw [HDD.out]; simp, HBQ.out.trans (below_drewN _ _ _)⟩
end Go.Proofs.Ytoklpohpfoacpaa.Sha
