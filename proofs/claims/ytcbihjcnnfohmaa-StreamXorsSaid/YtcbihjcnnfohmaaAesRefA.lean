/- The document's own steps of a block, and its byte maps: contracts. -/
import Derived.Test.YtcbihjcnnfohmaaAesKey
import Derived.Test.YtcbihjcnnfohmaaLent
import Derived.Deep.QuietTactic
namespace Go.Proofs.Ytcbihjcnnfohmaa.Aes
open Go Go.ChangeShapes Go.WideShapes Go.ChangeAt Go.RowKit Go.Proofs.Ytcbihjcnnfohmaa.Fld
set_option linter.unusedVariables false
set_option linter.unusedSimpArgs false

theorem xt_over : ∀ x < 256, 255 < 2 * x → (2 * x) ^^^ 283 = xt x := by decide +kernel
theorem xt_under : ∀ x < 256, ¬ 255 < 2 * x → 2 * x = xt x := by decide +kernel
theorem i64_xor (a b : Nat) (ha : a < 2 ^ 63) (hb : b < 2 ^ 63) : bits BinOp.xor IntKind.i64 (a : Int) (b : Int) = ((a ^^^ b : Nat) : Int) := by
  show IntKind.i64.wrap ((BitVec.ofInt 64 (a : Int) ^^^ BitVec.ofInt 64 (b : Int)).toNat : Int) = _
  rw [BitVec.toNat_xor]
  have e : ∀ n : Nat, n < 2 ^ 63 → (BitVec.ofInt 64 (n : Int)).toNat = n := fun n hn => by
    rw [BitVec.toNat_ofInt]; omega
  rw [e a ha, e b hb]
  have := Nat.xor_lt_two_pow ha hb
  exact IntWalk.i64_in _ (by omega)
theorem gmL_last (x p : Nat) (k : Nat) : gmL k x 0 p = p := gmL_zero k x p
set_option maxRecDepth 100000 in
set_option maxHeartbeats 1000000 in
theorem times_any (f : Nat) (hf : f < 16) (x : UInt8) (w : World) :
    Calls Try.prog 74 #[.int .i64 (f : Int), .int .u8 ((x.toNat : Nat) : Int)] w fun e w' => e = .returned (.int .u8 (((tm f x).toNat : Nat) : Int)) ∧ w = w' := by
  have hxl := x.toNat_lt
  have hgm : (tm f x).toNat = gm x.toNat f := by unfold tm; exact nat8 (gm_lt _ _ hxl)
  have h84 : gm x.toNat f = gmL 4 x.toNat f 0 := by
    have e : ∀ f < 16, ∀ a p : Nat, gmL 8 a f p = gmL 4 a f p := by
      intro f hf a p
      simp only [gmL]
      have e1 : f / 2 / 2 / 2 / 2 = 0 := by omega
      simp only [e1, Nat.zero_div, Nat.zero_mod, Nat.zero_mul, Nat.xor_zero]
    exact e f hf _ _
  have HG := Lib.hid (hgm.trans h84)
  generalize x.toNat = X at *
  clear hgm h84
  go_enter Try.func74, Try.ntmps74
  go_wp2_with fail
  go_loop [0, 5, 6] (fun fv p xv => ∃ k f' p' x' : Nat, f' < 2 ^ k ∧ k ≤ 4 ∧ f' < 16 ∧ p' < 256 ∧ x' < 256 ∧ fv = .int .i64 (f' : Int) ∧ p = .int .u8 (p' : Int) ∧ xv = .int .i64 (x' : Int) ∧ Hid (gmL k x' f' p' = gmL 4 X f 0)) (fun fv _ _ => (intOf fv).toNat)
  case atStart => exact ⟨4, f, 0, X, by omega, by omega, hf, by omega, hxl, rfl, rfl, rfl, Lib.hid rfl⟩
  case round =>
    obtain ⟨k, f', p', x', hfk, hk, hf16, hp, hx, rfl, rfl, rfl, H⟩ := hrel
    by_cases h0 : 0 < f'
    · cases k with
      | zero => exfalso; simp at hfk; omega
      | succ k =>
        have hf2 : f' / 2 < 2 ^ k := by rw [Nat.pow_succ] at hfk; omega
        have HF2 := Lib.hid hf2
        clear hfk hf2
        have hov := xt_over x' hx
        have hun := xt_under x' hx
        have hxx := i64_xor (2 * x') 283 (by omega) (by omega)
        have hpx := u8_xor_nat p' x' hp hx
        have wx : IntKind.u8.wrap (x' : Int) = (x' : Int) := IntWalk.u8_in _ (by omega)
        obtain ⟨q, hq⟩ : ∃ q, f' / 2 = q := ⟨_, rfl⟩
        have hqi : (f' : Int) / 2 = (q : Int) := by omega
        have HXX := Lib.hid hxx
        obtain ⟨d, hd⟩ : ∃ d, 2 * x' = d := ⟨_, rfl⟩
        have hdi : 2 * (x' : Int) = (d : Int) := by omega
        rw [hd] at hov hun HXX
        have hx283 : bits BinOp.xor IntKind.i64 (d : Int) 283 = ((d ^^^ 283 : Nat) : Int) := HXX.out
        have HOV := Lib.hid hov
        have HUN := Lib.hid hun
        have HQ := Lib.hid hq
        have HD := Lib.hid hd
        have hd512 : d < 512 := by omega
        have hrec : gmL (k+1) x' f' p' = gmL k (xt x') (f' / 2) (p' ^^^ (f' % 2 * x')) := rfl
        have HREC := Lib.hid (hrec.symm.trans H.out)
        clear hov hun hq hd hxx hrec HXX
        by_cases hodd : f' % 2 = 1
        · have ho : (f' : Int) % 2 = 1 := by omega
          have hr := HREC.out
          rw [hodd, Nat.one_mul, HQ.out] at hr
          have HREC2 := Lib.hid hr
          have hpl : p' ^^^ x' < 256 := xor_lt hp hx
          generalize p' ^^^ x' = pp at *
          by_cases hbig : 255 < d
          · have e1 : (255 : Int) < (d : Int) := by omega
            have hxe := HOV.out hbig
            rw [hxe] at hx283
            have hxl' := xt_lt x' hx
            clear HREC hr hodd hxe
            generalize xt x' = y at *
            go_wp2_with fail
            go_round
            case rel => exact ⟨k, q, pp, y, by rw [← HQ.out]; exact HF2.out, by omega, by have := HQ.out; omega, hpl, hxl', rfl, rfl, rfl, HREC2⟩
            case measure => simp [intOf] <;> (have := HQ.out; omega)
          · have e1 : ¬ (255 : Int) < (d : Int) := by omega
            have hxe := HUN.out hbig
            have hxl' := xt_lt x' hx
            rw [← hxe] at HREC2 hxl'
            clear HREC hr hodd hxe hx283
            go_wp2_with fail
            go_round
            case rel => exact ⟨k, q, pp, d, by rw [← HQ.out]; exact HF2.out, by omega, by have := HQ.out; omega, hpl, hxl', rfl, rfl, rfl, HREC2⟩
            case measure => simp [intOf] <;> (have := HQ.out; omega)
        · have ho : (f' : Int) % 2 = 0 := by omega
          have he : f' % 2 = 0 := by omega
          have hr := HREC.out
          rw [he, Nat.zero_mul, Nat.xor_zero, HQ.out] at hr
          have HREC2 := Lib.hid hr
          by_cases hbig : 255 < d
          · have e1 : (255 : Int) < (d : Int) := by omega
            have hxe := HOV.out hbig
            rw [hxe] at hx283
            have hxl' := xt_lt x' hx
            clear HREC hr hodd hxe he hpx
            generalize xt x' = y at *
            go_wp2_with fail
            go_round
            case rel => exact ⟨k, q, p', y, by rw [← HQ.out]; exact HF2.out, by omega, by have := HQ.out; omega, hp, hxl', rfl, rfl, rfl, HREC2⟩
            case measure => simp [intOf] <;> (have := HQ.out; omega)
          · have e1 : ¬ (255 : Int) < (d : Int) := by omega
            have hxe := HUN.out hbig
            have hxl' := xt_lt x' hx
            rw [← hxe] at HREC2 hxl'
            clear HREC hr hodd hxe he hpx hx283
            go_wp2_with fail
            go_round
            case rel => exact ⟨k, q, p', d, by rw [← HQ.out]; exact HF2.out, by omega, by have := HQ.out; omega, hp, hxl', rfl, rfl, rfl, HREC2⟩
            case measure => simp [intOf] <;> (have := HQ.out; omega)
    · have e0 : f' = 0 := by omega
      subst e0
      have h := H.out
      rw [gmL_zero] at h
      have H2 := Lib.hid h
      clear h H
      go_wp2_with fail
      go_ret
      refine ⟨?_, rfl⟩
      rw [HG.out, ← H2.out]; rfl

/-! ### blocks -/
theorem zeros16 : (List.replicate 16 (0 : UInt8)).length = 16 := List.length_replicate
def Z16 : Blk := List.replicate 16 0
theorem Z16_len : Z16.length = 16 := rfl
theorem rd_cell {w : World} {B : Nat} {A : Option Addr} {l : List UInt8} (h : Rd w B A l) {k : Nat} (hk : k < l.length) : ∃ ad, A = some ad ∧ ad.block < B ∧ w.cell? (ad.add k) = some (bv (l.getD k 0)) := by
  obtain ⟨ad, e, hb, hc⟩ := h.at_ hk
  exact ⟨ad, e, hb, by rw [hc]; simp [List.getD_eq_getElem?_getD, hk]⟩
theorem rd_some {w : World} {B : Nat} {A : Option Addr} {l : List UInt8} (h : Rd w B A l) (h0 : 0 < l.length) : ∃ ad, A = some ad ∧ ad.block < B ∧ ∀ k, k < l.length → w.cell? (ad.add k) = some (bv (l.getD k 0)) := by
  obtain ⟨ad, e, hb, hc⟩ := h h0
  exact ⟨ad, e, hb, fun k hk => by rw [hc k hk]; simp [List.getD_eq_getElem?_getD, hk]⟩
set_option maxRecDepth 100000 in
set_option maxHeartbeats 1000000 in
theorem reflay_any (A1 A2 : Option Addr) (c1 c2 : Nat) (a b : Blk) (ha : a.length = 16) (hb : b.length = 16) (w : World) (hr1 : Rd w w.heap.size A1 a) (hr2 : Rd w w.heap.size A2 b) :
    Calls Try.prog 52 #[.slice A1 16 c1, .slice A2 16 c2] w fun e w' => e = .returned (.slice (some ⟨w.heap.size, 0, none⟩) 16 16) ∧ RowV w' 5 w.heap.size (bvs (lay a b)) ∧ Below w.heap.size w w' := by
  have hll := lay_length ha hb
  obtain ⟨ad1, rfl, hb1, hc1⟩ := rd_some hr1 (by omega)
  obtain ⟨ad2, rfl, hb2, hc2⟩ := rd_some hr2 (by omega)
  have H1 := Lib.hid hc1
  have H2 := Lib.hid hc2
  clear hr1 hr2 hc1 hc2
  go_enter Try.func52, Try.ntmps52
  go_wp2_with (with_reducible refine at_slot 7 ?_
               refine wpList_make_u8 Go.Proofs.Ytcbihjcnnfohmaa.u8 rfl _ _ rfl .i64 .i64 _ _ 16 16 rfl rfl rfl rfl (by omega) (by omega) ?_)
  have hg0 : RowV (w.alloc (.cells (bvs (List.replicate 16 0)).toArray 5)) 5 w.heap.size (bvs (upto 0 (lay a b) Z16)) := heap_alloc_new w _
  have hw0 : Below w.heap.size w (w.alloc (.cells (bvs (List.replicate 16 0)).toArray 5)) := (Below.refl _ _).alloc (Nat.le_refl _) _
  go_loopw [6] (fun i wr => ∃ t : Nat, t ≤ 16 ∧ i = .int .i64 (t : Int) ∧ RowV wr 5 w.heap.size (bvs (upto t (lay a b) Z16)) ∧ Below w.heap.size w wr) (fun i _ => 16 - (intOf i).toNat)
  case atStart => exact ⟨0, by omega, rfl, hg0, hw0⟩
  case round =>
    obtain ⟨t, ht, rfl, hgr, hwr⟩ := hrel
    clear hg0 hw0
    by_cases hlt : t < 16
    · have c0 := hgr.cell (upto_get hll Z16_len hlt)
      have f0 := hgr.frozen t
      have c1 := (hwr.cell (p := ad1.add t) (by rw [add_block]; exact hb1)).trans (H1.out t (by omega))
      have c2 := (hwr.cell (p := ad2.add t) (by rw [add_block]; exact hb2)).trans (H2.out t (by omega))
      change wr.cell? (ad1.add t) = some (bv (at_ a t)) at c1
      change wr.cell? (ad2.add t) = some (bv (at_ b t)) at c2
      have hx := u8x (at_ a t) (at_ b t)
      have hset := hgr.set t (bv (at_ (lay a b) t))
      rw [upto_set hll Z16_len hlt] at hset
      rw [← lay_at ha hb hlt] at hx
      rw [bv_int] at c0 c1 c2 hset
      have HSET := Lib.hid hset
      have HWS := Lib.hid (below_setCell_ hwr (p := ⟨w.heap.size, t, none⟩) (Nat.le_refl _) (.int .u8 ((at_ (lay a b) t).toNat : Int)))
      clear hset hgr hwr
      generalize (at_ (lay a b) t).toNat = z at *
      generalize (at_ a t).toNat = x at *
      generalize (at_ b t).toNat = y at *
      generalize (at_ Z16 t).toNat = o at *
      go_wp2_with fail
      refine wp_region_still_tail 12 (by kernel_rfl) (by kernel_rfl) ?_
      change wpStill _ _ (World.drew wr) (fun a' => wpList _ _ _ _ a' (World.drew wr)) _ _
      simp only [List.take_succ_cons, List.take_zero, List.drop_succ_cons, List.drop_zero]
      repeat still_step
      refine wpStill_nil ?_
      go_wp2_with fail
      go_roundw
      case rel => exact ⟨t + 1, by omega, by go_num, HSET.out, HWS.out.drew⟩
      case measure => simp [intOf]; omega
    · have e16 : t = 16 := by omega
      subst e16
      rw [upto_all hll Z16_len] at hgr
      have HG := Lib.hid hgr
      have HW := Lib.hid hwr
      clear hgr hwr
      go_wp2_with fail
      go_ret
      exact ⟨rfl, HG.out, HW.out⟩
/-- each byte mapped -/
def mapL (f : UInt8 → UInt8) (s : Blk) : Blk := s.map f
theorem mapL_at {f : UInt8 → UInt8} {s : Blk} (hs : s.length = 16) {i : Nat} (hi : i < 16) : at_ (mapL f s) i = f (at_ s i) := by
  unfold mapL at_; simp [List.getD_eq_getElem?_getD, List.getElem?_eq_getElem (show i < s.length by omega)]
theorem mapL_length {f : UInt8 → UInt8} {s : Blk} (hs : s.length = 16) : (mapL f s).length = 16 := by simp [mapL, hs]
set_option maxRecDepth 100000 in
set_option maxHeartbeats 1000000 in
theorem refswap_any (A1 A2 : Option Addr) (c1 c2 : Nat) (f : UInt8 → UInt8) (s : Blk) (tb : List UInt8) (hs : s.length = 16) (htl : tb.length = 256) (htb : ∀ x : UInt8, tb.getD x.toNat 0 = f x) (w : World) (hr1 : Rd w w.heap.size A1 s) (hr2 : Rd w w.heap.size A2 tb) :
    Calls Try.prog 54 #[.slice A1 16 c1, .slice A2 256 c2] w fun e w' => e = .returned (.slice (some ⟨w.heap.size, 0, none⟩) 16 16) ∧ RowV w' 5 w.heap.size (bvs (mapL f s)) ∧ Below w.heap.size w w' := by
  have hll := mapL_length (f := f) hs
  obtain ⟨ad1, rfl, hb1, hc1⟩ := rd_some hr1 (by omega)
  obtain ⟨ad2, rfl, hb2, hc2⟩ := rd_some hr2 (by omega)
  have H1 := Lib.hid hc1
  have H2 := Lib.hid hc2
  have HT := Lib.hid htb
  clear hr1 hr2 hc1 hc2 htb
  go_enter Try.func54, Try.ntmps54
  go_wp2_with (with_reducible refine at_slot 7 ?_
               refine wpList_make_u8 Go.Proofs.Ytcbihjcnnfohmaa.u8 rfl _ _ rfl .i64 .i64 _ _ 16 16 rfl rfl rfl rfl (by omega) (by omega) ?_)
  have hg0 : RowV (w.alloc (.cells (bvs (List.replicate 16 0)).toArray 5)) 5 w.heap.size (bvs (upto 0 (mapL f s) Z16)) := heap_alloc_new w _
  have hw0 : Below w.heap.size w (w.alloc (.cells (bvs (List.replicate 16 0)).toArray 5)) := (Below.refl _ _).alloc (Nat.le_refl _) _
  go_loopw [6] (fun i wr => ∃ t : Nat, t ≤ 16 ∧ i = .int .i64 (t : Int) ∧ RowV wr 5 w.heap.size (bvs (upto t (mapL f s) Z16)) ∧ Below w.heap.size w wr) (fun i _ => 16 - (intOf i).toNat)
  case atStart => exact ⟨0, by omega, rfl, hg0, hw0⟩
  case round =>
    obtain ⟨t, ht, rfl, hgr, hwr⟩ := hrel
    clear hg0 hw0
    by_cases hlt : t < 16
    · have c0 := hgr.cell (upto_get hll Z16_len hlt)
      have f0 := hgr.frozen t
      have c1 := (hwr.cell (p := ad1.add t) (by rw [add_block]; exact hb1)).trans (H1.out t (by omega))
      change wr.cell? (ad1.add t) = some (bv (at_ s t)) at c1
      have hxl := (at_ s t).toNat_lt
      have c2 := (hwr.cell (p := ad2.add (at_ s t).toNat) (by rw [add_block]; exact hb2)).trans (H2.out (at_ s t).toNat (by omega))
      rw [HT.out] at c2
      have hset := hgr.set t (bv (at_ (mapL f s) t))
      rw [upto_set hll Z16_len hlt, mapL_at hs hlt] at hset
      rw [bv_int] at c0 c1 c2 hset
      have hx256 : ((at_ s t).toNat : Int) < 256 := by omega
      have HSET := Lib.hid hset
      have HWS := Lib.hid (below_setCell_ hwr (p := ⟨w.heap.size, t, none⟩) (Nat.le_refl _) (.int .u8 ((f (at_ s t)).toNat : Int)))
      clear hset hgr hwr hxl
      generalize (f (at_ s t)).toNat = z at *
      generalize (at_ s t).toNat = x at *
      generalize (at_ Z16 t).toNat = o at *
      go_wp2_with fail
      go_roundw
      case rel => exact ⟨t + 1, by omega, by go_num, HSET.out, HWS.out⟩
      case measure => simp [intOf]; omega
    · have e16 : t = 16 := by omega
      subst e16
      rw [upto_all hll Z16_len] at hgr
      have HG := Lib.hid hgr
      have HW := Lib.hid hwr
      clear hgr hwr
      go_wp2_with fail
      go_ret
      exact ⟨rfl, HG.out, HW.out⟩
def shiftL (m : Nat) (s : Blk) : Blk := (List.range 16).map fun i => at_ s ((i + 4 * (i % 4) * m) % 16)
theorem shiftL_length (m : Nat) (s : Blk) : (shiftL m s).length = 16 := by simp [shiftL]
theorem shiftL_at {m : Nat} {s : Blk} {i : Nat} (hi : i < 16) : at_ (shiftL m s) i = at_ s ((i + 4 * (i % 4) * m) % 16) := by
  have : (shiftL m s)[i]? = some (at_ s ((i + 4 * (i % 4) * m) % 16)) := by
    unfold shiftL; rw [List.getElem?_map, List.getElem?_range hi]; rfl
  show (shiftL m s).getD i 0 = _
  rw [List.getD_eq_getElem?_getD, this]; rfl
theorem shift_idx {m c q r p : Nat} (hm : m = 1 ∨ m = 3) (hq : q = 4 * c) (hp : p = q + r) (hc : c < 4) (hr : r < 4) : ∃ i a b d : Nat, i = (p + 4 * (p % 4) * m) % 16 ∧ i < 16 ∧ a ≤ 12 ∧ b ≤ 36 ∧ d ≤ 60 ∧ q ≤ 12 ∧ Hid (4 * (c : Int) = (q : Int) ∧ (q : Int) + (r : Int) = (p : Int) ∧ 4 * (r : Int) = (a : Int) ∧ (a : Int) * (m : Int) = (b : Int) ∧ (p : Int) + (b : Int) = (d : Int) ∧ (d : Int) % 16 = (i : Int)) := by
  have e : p % 4 = r := by omega
  rw [e]
  have hb : 4 * r * m ≤ 36 := by rcases hm with rfl | rfl <;> omega
  exact ⟨_, 4 * r, 4 * r * m, p + 4 * r * m, rfl, Nat.mod_lt _ (by omega), by omega, hb, by omega, by omega, Lib.hid ⟨by omega, by omega, by push_cast; rfl, by push_cast; rfl, by push_cast; rfl, by push_cast; rfl⟩⟩
set_option maxRecDepth 100000 in
set_option maxHeartbeats 1000000 in
theorem refshift_any (A1 : Option Addr) (c1 m : Nat) (hm : m = 1 ∨ m = 3) (s : Blk) (hs : s.length = 16) (w : World) (hr1 : Rd w w.heap.size A1 s) :
    Calls Try.prog 53 #[.slice A1 16 c1, .int .i64 (m : Int)] w fun e w' => e = .returned (.slice (some ⟨w.heap.size, 0, none⟩) 16 16) ∧ RowV w' 5 w.heap.size (bvs (shiftL m s)) ∧ Below w.heap.size w w' := by
  have hll := shiftL_length m s
  obtain ⟨ad1, rfl, hb1, hc1⟩ := rd_some hr1 (by omega)
  have H1 := Lib.hid hc1
  have HM := Lib.hid hm
  have m3 : m ≤ 3 := by omega
  clear hr1 hc1 hm
  go_enter Try.func53, Try.ntmps53
  go_wp2_with (with_reducible refine at_slot 8 ?_
               refine wpList_make_u8 Go.Proofs.Ytcbihjcnnfohmaa.u8 rfl _ _ rfl .i64 .i64 _ _ 16 16 rfl rfl rfl rfl (by omega) (by omega) ?_)
  have hg0 : RowV (w.alloc (.cells (bvs (List.replicate 16 0)).toArray 5)) 5 w.heap.size (bvs (upto 0 (shiftL m s) Z16)) := heap_alloc_new w _
  have hw0 : Below w.heap.size w (w.alloc (.cells (bvs (List.replicate 16 0)).toArray 5)) := (Below.refl _ _).alloc (Nat.le_refl _) _
  go_loopw [6] (fun i wr => ∃ c q : Nat, q = 4 * c ∧ c ≤ 4 ∧ i = .int .i64 (c : Int) ∧ RowV wr 5 w.heap.size (bvs (upto q (shiftL m s) Z16)) ∧ Below w.heap.size w wr) (fun i _ => 4 - (intOf i).toNat)
  case atStart => exact ⟨0, 0, rfl, by omega, rfl, hg0, hw0⟩
  case round =>
    obtain ⟨c, q, hq, hc4, rfl, hgr, hwr⟩ := hrel
    clear hg0 hw0
    have HG := Lib.hid hgr
    have HW := Lib.hid hwr
    have HQ := Lib.hid hq
    clear hgr hwr
    by_cases hlt : c < 4
    · clear hq
      go_wp2_with fail
      obtain ⟨wo, hwo⟩ : ∃ wo : World, wo = wr := ⟨_, rfl⟩
      subst hwo
      go_loopw [7] (fun i wi => ∃ r p : Nat, p = q + r ∧ r ≤ 4 ∧ i = .int .i64 (r : Int) ∧ RowV wi 5 w.heap.size (bvs (upto p (shiftL m s) Z16)) ∧ Below w.heap.size w wi) (fun i _ => 4 - (intOf i).toNat)
      case atStart => exact ⟨0, q, rfl, by omega, rfl, HG.out, HW.out⟩
      case round =>
        obtain ⟨r, p, hp, hr4, rfl, hgr, hwr⟩ := hrel
        clear HG HW
        by_cases hltr : r < 4
        · have hp16 : p < 16 := by have := HQ.out; omega
          obtain ⟨i, a, b, d, hi, hi16, ha, hb, hd, hq12, HE⟩ := shift_idx HM.out HQ.out hp hlt hltr
          have c0 := hgr.cell (upto_get hll Z16_len hp16)
          have f0 := hgr.frozen p
          have c1 := (hwr.cell (p := ad1.add i) (by rw [add_block]; exact hb1)).trans (H1.out i (by omega))
          change wr.cell? (ad1.add i) = some (bv (at_ s i)) at c1
          have hset := hgr.set p (bv (at_ (shiftL m s) p))
          rw [upto_set hll Z16_len hp16, shiftL_at hp16, ← hi] at hset
          rw [bv_int] at c0 c1 hset
          have HSET := Lib.hid hset
          have HWS := Lib.hid (below_setCell_ hwr (p := ⟨w.heap.size, p, none⟩) (Nat.le_refl _) (.int .u8 ((at_ s i).toNat : Int)))
          have HP := Lib.hid hp
          have i16 : (i : Int) < 16 := by omega
          have p16 : (p : Int) < 16 := by omega
          have r4i : (r : Int) < 4 := by omega
          clear hset hgr hwr hi hp
          generalize (at_ s i).toNat = z at *
          generalize (at_ Z16 p).toNat = o at *
          obtain ⟨e1, e2, e3, e4, e5, e6⟩ := HE.out
          go_wp2_with fail
          clear e1 e2 e3 e4 e5 e6
          go_roundw
          case rel => exact ⟨r + 1, p + 1, (by have := HP.out; omega), by omega, by go_num, HSET.out, HWS.out⟩
          case measure => simp [intOf] <;> omega
        · have e4 : r = 4 := by omega
          subst e4
          have HG := Lib.hid hgr
          have HW := Lib.hid hwr
          have HP := Lib.hid hp
          clear hgr hwr hp
          go_wp2_with fail
          go_roundw
          case rel => exact ⟨c + 1, p, (by have := HP.out; have := HQ.out; omega), by omega, by go_num, HG.out, HW.out⟩
          case measure => simp [intOf] <;> omega
    · have e4 : c = 4 := by omega
      have e16 : q = 16 := by omega
      subst e4
      subst e16
      have hg := HG.out
      rw [upto_all hll Z16_len] at hg
      have HG2 := Lib.hid hg
      clear hg hq HG
      go_wp2_with fail
      go_ret
      exact ⟨rfl, HG2.out, HW.out⟩
end Go.Proofs.Ytcbihjcnnfohmaa.Aes
