/- The document's own steps of a block, and its byte maps: contracts. -/
import Derived.Test.YtcbihjcnnfohmaaGreatAesKey
import Derived.Test.YtcbihjcnnfohmaaGreatMemAll
import Derived.Deep.QuietTactic
import Derived.BigQuiet
import Derived.Test.YtcbihjcnnfohmaaGreatAesTwo
namespace Go.Proofs.YtcbihjcnnfohmaaGreat.Aes
open Go Go.ChangeShapes Go.WideShapes Go.ChangeAt Go.RowKit Go.Proofs.YtcbihjcnnfohmaaGreat.Fld
set_option linter.unusedVariables false
set_option linter.unusedSimpArgs false

theorem xt_over : ∀ x < 256, 255 < 2 * x → (2 * x) ^^^ 283 = xt x := by decide +kernel
theorem xt_under : ∀ x < 256, ¬ 255 < 2 * x → 2 * x = xt x := by decide +kernel
theorem i64_xor (a b : Nat) (ha : a < 2 ^ 63) (hb : b < 2 ^ 63) : bits BinOp.xor IntKind.i64 (a : Int) (b : Int) = ((a ^^^ b : Nat) : Int) := by
  show IntKind.i64.wrap ((BitVec.ofInt 64 (a : Int) ^^^ BitVec.ofInt 64 (b : Int)).toNat : Int) = _
  rw [BitVec.toNat_xor]
  have e : ∀ n : Nat, n < 2 ^ 63 → (BitVec.ofInt 64 (n : Int)).toNat = n := fun n hn => by
    rw [BitVec.toNat_ofInt]; omega
  rw [e a ha, e b hb]
  have := Nat.xor_lt_two_pow ha hb
  exact IntWalk.i64_in _ (by omega)
theorem gmL_last (x p : Nat) (k : Nat) : gmL k x 0 p = p := gmL_zero k x p
set_option maxRecDepth 100000 in
set_option maxHeartbeats 1000000 in
theorem times_any (f : Nat) (hf : f < 16) (x : UInt8) (w : World) :
    Calls Tryz.prog 72 #[.int .i64 (f : Int), .int .u8 ((x.toNat : Nat) : Int)] w fun e w' => e = .returned (.int .u8 (((tm f x).toNat : Nat) : Int)) ∧ w = w' := by
  have hxl := x.toNat_lt
  have hgm : (tm f x).toNat = gm x.toNat f := by unfold tm; exact nat8 (gm_lt _ _ hxl)
  have h84 : gm x.toNat f = gmL 4 x.toNat f 0 := by
    have e : ∀ f < 16, ∀ a p : Nat, gmL 8 a f p = gmL 4 a f p := by
      intro f hf a p
      simp only [gmL]
      have e1 : f / 2 / 2 / 2 / 2 = 0 := by omega
      simp only [e1, Nat.zero_div, Nat.zero_mod, Nat.zero_mul, Nat.xor_zero]
    exact e f hf _ _
  have HG := Lib.hid (hgm.trans h84)
  generalize x.toNat = X at *
  clear hgm h84
  go_enter Tryz.func72, Tryz.ntmps72
  go_wp2_with fail
  go_loop [0, 5, 6] (fun fv p xv => ∃ k f' p' x' : Nat, f' < 2 ^ k ∧ k ≤ 4 ∧ f' < 16 ∧ p' < 256 ∧ x' < 256 ∧ fv = .int .i64 (f' : Int) ∧ p = .int .u8 (p' : Int) ∧ xv = .int .i64 (x' : Int) ∧ Hid (gmL k x' f' p' = gmL 4 X f 0)) (fun fv _ _ => (intOf fv).toNat)
  case atStart => exact ⟨4, f, 0, X, by omega, by omega, hf, by omega, hxl, rfl, rfl, rfl, Lib.hid rfl⟩
  case round =>
    obtain ⟨k, f', p', x', hfk, hk, hf16, hp, hx, rfl, rfl, rfl, H⟩ := hrel
    by_cases h0 : 0 < f'
    · cases k with
      | zero => exfalso; simp at hfk; omega
      | succ k =>
        have hf2 : f' / 2 < 2 ^ k := by rw [Nat.pow_succ] at hfk; omega
        have HF2 := Lib.hid hf2
        clear hfk hf2
        have hov := xt_over x' hx
        have hun := xt_under x' hx
        have hxx := i64_xor (2 * x') 283 (by omega) (by omega)
        have hpx := u8_xor_nat p' x' hp hx
        have wx : IntKind.u8.wrap (x' : Int) = (x' : Int) := IntWalk.u8_in _ (by omega)
        obtain ⟨q, hq⟩ : ∃ q, f' / 2 = q := ⟨_, rfl⟩
        have hqi : (f' : Int) / 2 = (q : Int) := by omega
        have HXX := Lib.hid hxx
        obtain ⟨d, hd⟩ : ∃ d, 2 * x' = d := ⟨_, rfl⟩
        have hdi : 2 * (x' : Int) = (d : Int) := by omega
        rw [hd] at hov hun HXX
        have hx283 : bits BinOp.xor IntKind.i64 (d : Int) 283 = ((d ^^^ 283 : Nat) : Int) := HXX.out
        have HOV := Lib.hid hov
        have HUN := Lib.hid hun
        have HQ := Lib.hid hq
        have HD := Lib.hid hd
        have hd512 : d < 512 := by omega
        have hrec : gmL (k+1) x' f' p' = gmL k (xt x') (f' / 2) (p' ^^^ (f' % 2 * x')) := rfl
        have HREC := Lib.hid (hrec.symm.trans H.out)
        clear hov hun hq hd hxx hrec HXX
        by_cases hodd : f' % 2 = 1
        · have ho : (f' : Int) % 2 = 1 := by omega
          have hr := HREC.out
          rw [hodd, Nat.one_mul, HQ.out] at hr
          have HREC2 := Lib.hid hr
          have hpl : p' ^^^ x' < 256 := xor_lt hp hx
          generalize p' ^^^ x' = pp at *
          by_cases hbig : 255 < d
          · have e1 : (255 : Int) < (d : Int) := by omega
            have hxe := HOV.out hbig
            rw [hxe] at hx283
            have hxl' := xt_lt x' hx
            clear HREC hr hodd hxe
            generalize xt x' = y at *
            go_wp2_with fail
            go_round
            case rel => exact ⟨k, q, pp, y, by rw [← HQ.out]; exact HF2.out, by omega, by have := HQ.out; omega, hpl, hxl', rfl, rfl, rfl, HREC2⟩
            case measure => simp [intOf] <;> (have := HQ.out; omega)
          · have e1 : ¬ (255 : Int) < (d : Int) := by omega
            have hxe := HUN.out hbig
            have hxl' := xt_lt x' hx
            rw [← hxe] at HREC2 hxl'
            clear HREC hr hodd hxe hx283
            go_wp2_with fail
            go_round
            case rel => exact ⟨k, q, pp, d, by rw [← HQ.out]; exact HF2.out, by omega, by have := HQ.out; omega, hpl, hxl', rfl, rfl, rfl, HREC2⟩
            case measure => simp [intOf] <;> (have := HQ.out; omega)
        · have ho : (f' : Int) % 2 = 0 := by omega
          have he : f' % 2 = 0 := by omega
          have hr := HREC.out
          rw [he, Nat.zero_mul, Nat.xor_zero, HQ.out] at hr
          have HREC2 := Lib.hid hr
          by_cases hbig : 255 < d
          · have e1 : (255 : Int) < (d : Int) := by omega
            have hxe := HOV.out hbig
            rw [hxe] at hx283
            have hxl' := xt_lt x' hx
            clear HREC hr hodd hxe he hpx
            generalize xt x' = y at *
            go_wp2_with fail
            go_round
            case rel => exact ⟨k, q, p', y, by rw [← HQ.out]; exact HF2.out, by omega, by have := HQ.out; omega, hp, hxl', rfl, rfl, rfl, HREC2⟩
            case measure => simp [intOf] <;> (have := HQ.out; omega)
          · have e1 : ¬ (255 : Int) < (d : Int) := by omega
            have hxe := HUN.out hbig
            have hxl' := xt_lt x' hx
            rw [← hxe] at HREC2 hxl'
            clear HREC hr hodd hxe he hpx hx283
            go_wp2_with fail
            go_round
            case rel => exact ⟨k, q, p', d, by rw [← HQ.out]; exact HF2.out, by omega, by have := HQ.out; omega, hp, hxl', rfl, rfl, rfl, HREC2⟩
            case measure => simp [intOf] <;> (have := HQ.out; omega)
    · have e0 : f' = 0 := by omega
      subst e0
      have h := H.out
      rw [gmL_zero] at h
      have H2 := Lib.hid h
      clear h H
      go_wp2_with fail
      go_ret
      refine ⟨?_, rfl⟩
      rw [HG.out, ← H2.out]; rfl

/-! ### blocks -/
theorem zeros16 : (List.replicate 16 (0 : UInt8)).length = 16 := List.length_replicate
def Z16 : Blk := List.replicate 16 0
theorem Z16_len : Z16.length = 16 := rfl
theorem rd_cell {w : World} {B : Nat} {A : Option Addr} {l : List UInt8} (h : Rd w B A l) {k : Nat} (hk : k < l.length) : ∃ ad, A = some ad ∧ ad.block < B ∧ w.cell? (ad.add k) = some (bv (l.getD k 0)) := by
  obtain ⟨ad, e, hb, hc⟩ := h.at_ hk
  exact ⟨ad, e, hb, by rw [hc]; simp [List.getD_eq_getElem?_getD, hk]⟩
theorem rd_some {w : World} {B : Nat} {A : Option Addr} {l : List UInt8} (h : Rd w B A l) (h0 : 0 < l.length) : ∃ ad, A = some ad ∧ ad.block < B ∧ ∀ k, k < l.length → w.cell? (ad.add k) = some (bv (l.getD k 0)) := by
  obtain ⟨ad, e, hb, hc⟩ := h h0
  exact ⟨ad, e, hb, fun k hk => by rw [hc k hk]; simp [List.getD_eq_getElem?_getD, hk]⟩
set_option maxRecDepth 100000 in
set_option maxHeartbeats 1000000 in
theorem reflay_any (A1 A2 : Option Addr) (c1 c2 : Nat) (a b : Blk) (ha : a.length = 16) (hb : b.length = 16) (w : World) (hr1 : Rd w w.heap.size A1 a) (hr2 : Rd w w.heap.size A2 b) :
    Calls Tryz.prog 53 #[.slice A1 16 c1, .slice A2 16 c2] w fun e w' => e = .returned (.slice (some ⟨w.heap.size, 0, none⟩) 16 16) ∧ RowV w' 5 w.heap.size (bvs (lay a b)) ∧ Below w.heap.size w w' := by
  have hll := lay_length ha hb
  obtain ⟨ad1, rfl, hb1, hc1⟩ := rd_some hr1 (by omega)
  obtain ⟨ad2, rfl, hb2, hc2⟩ := rd_some hr2 (by omega)
  have H1 := Lib.hid hc1
  have H2 := Lib.hid hc2
  clear hr1 hr2 hc1 hc2
  go_enter Tryz.func53, Tryz.ntmps53
  go_wp2_with (with_reducible refine at_slot 7 ?_
               refine wpList_make_u8 Go.Proofs.YtcbihjcnnfohmaaGreat.u8 rfl _ _ rfl .i64 .i64 _ _ 16 16 rfl rfl rfl rfl (by omega) (by omega) ?_)
  have hg0 : RowV (w.alloc (.cells (bvs (List.replicate 16 0)).toArray 5)) 5 w.heap.size (bvs (upto 0 (lay a b) Z16)) := heap_alloc_new w _
  have hw0 : Below w.heap.size w (w.alloc (.cells (bvs (List.replicate 16 0)).toArray 5)) := (Below.refl _ _).alloc (Nat.le_refl _) _
  go_loopw [6] (fun i wr => ∃ t : Nat, t ≤ 16 ∧ i = .int .i64 (t : Int) ∧ RowV wr 5 w.heap.size (bvs (upto t (lay a b) Z16)) ∧ Below w.heap.size w wr) (fun i _ => 16 - (intOf i).toNat)
  case atStart => exact ⟨0, by omega, rfl, hg0, hw0⟩
  case round =>
    obtain ⟨t, ht, rfl, hgr, hwr⟩ := hrel
    clear hg0 hw0
    by_cases hlt : t < 16
    · have c0 := hgr.cell (upto_get hll Z16_len hlt)
      have f0 := hgr.frozen t
      have c1 := (hwr.cell (p := ad1.add t) (by rw [add_block]; exact hb1)).trans (H1.out t (by omega))
      have c2 := (hwr.cell (p := ad2.add t) (by rw [add_block]; exact hb2)).trans (H2.out t (by omega))
      change wr.cell? (ad1.add t) = some (bv (at_ a t)) at c1
      change wr.cell? (ad2.add t) = some (bv (at_ b t)) at c2
      have hx := u8x (at_ a t) (at_ b t)
      have hset := hgr.set t (bv (at_ (lay a b) t))
      rw [upto_set hll Z16_len hlt] at hset
      rw [← lay_at ha hb hlt] at hx
      rw [bv_int] at c0 c1 c2 hset
      have HSET := Lib.hid hset
      have HWS := Lib.hid (below_setCell_ hwr (p := ⟨w.heap.size, t, none⟩) (Nat.le_refl _) (.int .u8 ((at_ (lay a b) t).toNat : Int)))
      clear hset hgr hwr
      generalize (at_ (lay a b) t).toNat = z at *
      generalize (at_ a t).toNat = x at *
      generalize (at_ b t).toNat = y at *
      generalize (at_ Z16 t).toNat = o at *
      go_wp2_with fail
      refine wp_region_still_tail 12 (by kernel_rfl) (by kernel_rfl) ?_
      change wpStill _ _ (World.drew wr) (fun a' => wpList _ _ _ _ a' (World.drew wr)) _ _
      simp only [List.take_succ_cons, List.take_zero, List.drop_succ_cons, List.drop_zero]
      repeat still_step
      refine wpStill_nil ?_
      go_wp2_with fail
      go_roundw
      case rel => exact ⟨t + 1, by omega, by go_num, HSET.out, HWS.out.drew⟩
      case measure => simp [intOf]; omega
    · have e16 : t = 16 := by omega
      subst e16
      rw [upto_all hll Z16_len] at hgr
      have HG := Lib.hid hgr
      have HW := Lib.hid hwr
      clear hgr hwr
      go_wp2_with fail
      go_ret
      exact ⟨rfl, HG.out, HW.out⟩
/-- each byte mapped -/
def mapL (f : UInt8 → UInt8) (s : Blk) : Blk := s.map f
theorem mapL_at {f : UInt8 → UInt8} {s : Blk} (hs : s.length = 16) {i : Nat} (hi : i < 16) : at_ (mapL f s) i = f (at_ s i) := by
  unfold mapL at_; simp [List.getD_eq_getElem?_getD, List.getElem?_eq_getElem (show i < s.length by omega)]
theorem mapL_length {f : UInt8 → UInt8} {s : Blk} (hs : s.length = 16) : (mapL f s).length = 16 := by simp [mapL, hs]
set_option maxRecDepth 100000 in
set_option maxHeartbeats 1000000 in
theorem refswap_any (A1 A2 : Option Addr) (c1 c2 : Nat) (f : UInt8 → UInt8) (s : Blk) (tb : List UInt8) (hs : s.length = 16) (htl : tb.length = 256) (htb : ∀ x : UInt8, tb.getD x.toNat 0 = f x) (w : World) (hr1 : Rd w w.heap.size A1 s) (hr2 : Rd w w.heap.size A2 tb) :
    Calls Tryz.prog 55 #[.slice A1 16 c1, .slice A2 256 c2] w fun e w' => e = .returned (.slice (some ⟨w.heap.size, 0, none⟩) 16 16) ∧ RowV w' 5 w.heap.size (bvs (mapL f s)) ∧ Below w.heap.size w w' := by
  have hll := mapL_length (f := f) hs
  obtain ⟨ad1, rfl, hb1, hc1⟩ := rd_some hr1 (by omega)
  obtain ⟨ad2, rfl, hb2, hc2⟩ := rd_some hr2 (by omega)
  have H1 := Lib.hid hc1
  have H2 := Lib.hid hc2
  have HT := Lib.hid htb
  clear hr1 hr2 hc1 hc2 htb
  go_enter Tryz.func55, Tryz.ntmps55
  go_wp2_with (with_reducible refine at_slot 7 ?_
               refine wpList_make_u8 Go.Proofs.YtcbihjcnnfohmaaGreat.u8 rfl _ _ rfl .i64 .i64 _ _ 16 16 rfl rfl rfl rfl (by omega) (by omega) ?_)
  have hg0 : RowV (w.alloc (.cells (bvs (List.replicate 16 0)).toArray 5)) 5 w.heap.size (bvs (upto 0 (mapL f s) Z16)) := heap_alloc_new w _
  have hw0 : Below w.heap.size w (w.alloc (.cells (bvs (List.replicate 16 0)).toArray 5)) := (Below.refl _ _).alloc (Nat.le_refl _) _
  go_loopw [6] (fun i wr => ∃ t : Nat, t ≤ 16 ∧ i = .int .i64 (t : Int) ∧ RowV wr 5 w.heap.size (bvs (upto t (mapL f s) Z16)) ∧ Below w.heap.size w wr) (fun i _ => 16 - (intOf i).toNat)
  case atStart => exact ⟨0, by omega, rfl, hg0, hw0⟩
  case round =>
    obtain ⟨t, ht, rfl, hgr, hwr⟩ := hrel
    clear hg0 hw0
    by_cases hlt : t < 16
    · have c0 := hgr.cell (upto_get hll Z16_len hlt)
      have f0 := hgr.frozen t
      have c1 := (hwr.cell (p := ad1.add t) (by rw [add_block]; exact hb1)).trans (H1.out t (by omega))
      change wr.cell? (ad1.add t) = some (bv (at_ s t)) at c1
      have hxl := (at_ s t).toNat_lt
      have c2 := (hwr.cell (p := ad2.add (at_ s t).toNat) (by rw [add_block]; exact hb2)).trans (H2.out (at_ s t).toNat (by omega))
      rw [HT.out] at c2
      have hset := hgr.set t (bv (at_ (mapL f s) t))
      rw [upto_set hll Z16_len hlt, mapL_at hs hlt] at hset
      rw [bv_int] at c0 c1 c2 hset
      have hx256 : ((at_ s t).toNat : Int) < 256 := by omega
      have HSET := Lib.hid hset
      have HWS := Lib.hid (below_setCell_ hwr (p := ⟨w.heap.size, t, none⟩) (Nat.le_refl _) (.int .u8 ((f (at_ s t)).toNat : Int)))
      clear hset hgr hwr hxl
      generalize (f (at_ s t)).toNat = z at *
      generalize (at_ s t).toNat = x at *
      generalize (at_ Z16 t).toNat = o at *
      go_wp2_with fail
      go_roundw
      case rel => exact ⟨t + 1, by omega, by go_num, HSET.out, HWS.out⟩
      case measure => simp [intOf]; omega
    · have e16 : t = 16 := by omega
      subst e16
      rw [upto_all hll Z16_len] at hgr
      have HG := Lib.hid hgr
      have HW := Lib.hid hwr
      clear hgr hwr
      go_wp2_with fail
      go_ret
      exact ⟨rfl, HG.out, HW.out⟩
def shiftL (m : Nat) (s : Blk) : Blk := (List.range 16).map fun i => at_ s ((i + 4 * (i % 4) * m) % 16)
theorem shiftL_length (m : Nat) (s : Blk) : (shiftL m s).length = 16 := by simp [shiftL]
theorem shiftL_at {m : Nat} {s : Blk} {i : Nat} (hi : i < 16) : at_ (shiftL m s) i = at_ s ((i + 4 * (i % 4) * m) % 16) := by
  have : (shiftL m s)[i]? = some (at_ s ((i + 4 * (i % 4) * m) % 16)) := by
    unfold shiftL; rw [List.getElem?_map, List.getElem?_range hi]; rfl
  show (shiftL m s).getD i 0 = _
  rw [List.getD_eq_getElem?_getD, this]; rfl
theorem shift_idx {m c q r p : Nat} (hm : m = 1 ∨ m = 3) (hq : q = 4 * c) (hp : p = q + r) (hc : c < 4) (hr : r < 4) : ∃ i a b d : Nat, i = (p + 4 * (p % 4) * m) % 16 ∧ i < 16 ∧ a ≤ 12 ∧ b ≤ 36 ∧ d ≤ 60 ∧ q ≤ 12 ∧ Hid (4 * (c : Int) = (q : Int) ∧ (q : Int) + (r : Int) = (p : Int) ∧ 4 * (r : Int) = (a : Int) ∧ (a : Int) * (m : Int) = (b : Int) ∧ (p : Int) + (b : Int) = (d : Int) ∧ (d : Int) % 16 = (i : Int)) := by
  have e : p % 4 = r := by omega
  rw [e]
  have hb : 4 * r * m ≤ 36 := by rcases hm with rfl | rfl <;> omega
  exact ⟨_, 4 * r, 4 * r * m, p + 4 * r * m, rfl, Nat.mod_lt _ (by omega), by omega, hb, by omega, by omega, Lib.hid ⟨by omega, by omega, by push_cast; rfl, by push_cast; rfl, by push_cast; rfl, by push_cast; rfl⟩⟩
set_option maxRecDepth 100000 in
set_option maxHeartbeats 1000000 in
theorem refshift_any (A1 : Option Addr) (c1 m : Nat) (hm : m = 1 ∨ m = 3) (s : Blk) (hs : s.length = 16) (w : World) (hr1 : Rd w w.heap.size A1 s) :
    Calls Tryz.prog 54 #[.slice A1 16 c1, .int .i64 (m : Int)] w fun e w' => e = .returned (.slice (some ⟨w.heap.size, 0, none⟩) 16 16) ∧ RowV w' 5 w.heap.size (bvs (shiftL m s)) ∧ Below w.heap.size w w' := by
  have hll := shiftL_length m s
  obtain ⟨ad1, rfl, hb1, hc1⟩ := rd_some hr1 (by omega)
  have H1 := Lib.hid hc1
  have HM := Lib.hid hm
  have m3 : m ≤ 3 := by omega
  clear hr1 hc1 hm
  go_enter Tryz.func54, Tryz.ntmps54
  go_wp2_with (with_reducible refine at_slot 8 ?_
               refine wpList_make_u8 Go.Proofs.YtcbihjcnnfohmaaGreat.u8 rfl _ _ rfl .i64 .i64 _ _ 16 16 rfl rfl rfl rfl (by omega) (by omega) ?_)
  have hg0 : RowV (w.alloc (.cells (bvs (List.replicate 16 0)).toArray 5)) 5 w.heap.size (bvs (upto 0 (shiftL m s) Z16)) := heap_alloc_new w _
  have hw0 : Below w.heap.size w (w.alloc (.cells (bvs (List.replicate 16 0)).toArray 5)) := (Below.refl _ _).alloc (Nat.le_refl _) _
  go_loopw [6] (fun i wr => ∃ c q : Nat, q = 4 * c ∧ c ≤ 4 ∧ i = .int .i64 (c : Int) ∧ RowV wr 5 w.heap.size (bvs (upto q (shiftL m s) Z16)) ∧ Below w.heap.size w wr) (fun i _ => 4 - (intOf i).toNat)
  case atStart => exact ⟨0, 0, rfl, by omega, rfl, hg0, hw0⟩
  case round =>
    obtain ⟨c, q, hq, hc4, rfl, hgr, hwr⟩ := hrel
    clear hg0 hw0
    have HG := Lib.hid hgr
    have HW := Lib.hid hwr
    have HQ := Lib.hid hq
    clear hgr hwr
    by_cases hlt : c < 4
    · clear hq
      go_wp2_with fail
      obtain ⟨wo, hwo⟩ : ∃ wo : World, wo = wr := ⟨_, rfl⟩
      subst hwo
      go_loopw [7] (fun i wi => ∃ r p : Nat, p = q + r ∧ r ≤ 4 ∧ i = .int .i64 (r : Int) ∧ RowV wi 5 w.heap.size (bvs (upto p (shiftL m s) Z16)) ∧ Below w.heap.size w wi) (fun i _ => 4 - (intOf i).toNat)
      case atStart => exact ⟨0, q, rfl, by omega, rfl, HG.out, HW.out⟩
      case round =>
        obtain ⟨r, p, hp, hr4, rfl, hgr, hwr⟩ := hrel
        clear HG HW
        by_cases hltr : r < 4
        · have hp16 : p < 16 := by have := HQ.out; omega
          obtain ⟨i, a, b, d, hi, hi16, ha, hb, hd, hq12, HE⟩ := shift_idx HM.out HQ.out hp hlt hltr
          have c0 := hgr.cell (upto_get hll Z16_len hp16)
          have f0 := hgr.frozen p
          have c1 := (hwr.cell (p := ad1.add i) (by rw [add_block]; exact hb1)).trans (H1.out i (by omega))
          change wr.cell? (ad1.add i) = some (bv (at_ s i)) at c1
          have hset := hgr.set p (bv (at_ (shiftL m s) p))
          rw [upto_set hll Z16_len hp16, shiftL_at hp16, ← hi] at hset
          rw [bv_int] at c0 c1 hset
          have HSET := Lib.hid hset
          have HWS := Lib.hid (below_setCell_ hwr (p := ⟨w.heap.size, p, none⟩) (Nat.le_refl _) (.int .u8 ((at_ s i).toNat : Int)))
          have HP := Lib.hid hp
          have i16 : (i : Int) < 16 := by omega
          have p16 : (p : Int) < 16 := by omega
          have r4i : (r : Int) < 4 := by omega
          clear hset hgr hwr hi hp
          generalize (at_ s i).toNat = z at *
          generalize (at_ Z16 p).toNat = o at *
          obtain ⟨e1, e2, e3, e4, e5, e6⟩ := HE.out
          go_wp2_with fail
          clear e1 e2 e3 e4 e5 e6
          go_roundw
          case rel => exact ⟨r + 1, p + 1, (by have := HP.out; omega), by omega, by go_num, HSET.out, HWS.out⟩
          case measure => simp [intOf] <;> omega
        · have e4 : r = 4 := by omega
          subst e4
          have HG := Lib.hid hgr
          have HW := Lib.hid hwr
          have HP := Lib.hid hp
          clear hgr hwr hp
          go_wp2_with fail
          go_roundw
          case rel => exact ⟨c + 1, p, (by have := HP.out; have := HQ.out; omega), by omega, by go_num, HG.out, HW.out⟩
          case measure => simp [intOf] <;> omega
    · have e4 : c = 4 := by omega
      have e16 : q = 16 := by omega
      subst e4
      subst e16
      have hg := HG.out
      rw [upto_all hll Z16_len] at hg
      have HG2 := Lib.hid hg
      clear hg hq HG
      go_wp2_with fail
      go_ret
      exact ⟨rfl, HG2.out, HW.out⟩
end Go.Proofs.YtcbihjcnnfohmaaGreat.Aes

/- The document's mixing, and its byte maps: contracts. -/
namespace Go.Proofs.YtcbihjcnnfohmaaGreat.Aes
open Go Go.ChangeShapes Go.WideShapes Go.ChangeAt Go.RowKit Go.Proofs.YtcbihjcnnfohmaaGreat.Fld
set_option linter.unusedVariables false
set_option linter.unusedSimpArgs false

def acc (F : Nat → Nat) (s : Blk) (i : Nat) : Nat → UInt8
  | 0 => 0
  | k+1 => acc F s i k ^^^ tm (F k) (at_ s (i / 4 * 4 + (i + k) % 4))
def mixF (F : Nat → Nat) (s : Blk) : Blk := (List.range 16).map fun i => acc F s i 4
theorem mixF_length (F s) : (mixF F s).length = 16 := by simp [mixF]
theorem mixF_at {F : Nat → Nat} {s : Blk} {i : Nat} (hi : i < 16) : at_ (mixF F s) i = acc F s i 4 := by
  have : (mixF F s)[i]? = some (acc F s i 4) := by
    unfold mixF; rw [List.getElem?_map, List.getElem?_range hi]; rfl
  show (mixF F s).getD i 0 = _
  rw [List.getD_eq_getElem?_getD, this]; rfl
theorem self_at (i : Nat) : i / 4 * 4 + (i + 0) % 4 = i := by omega
theorem mixF_mix {F : Nat → Nat} (h0 : F 0 = 2) (h1 : F 1 = 3) (h2 : F 2 = 1) (h3 : F 3 = 1) (s : Blk) : mixF F s = mixL s := by
  unfold mixF mixL colL
  apply List.map_congr_left
  intro i _
  rw [← m_ref]
  show (((0 ^^^ tm (F 0) (at_ s (i / 4 * 4 + (i + 0) % 4))) ^^^ tm (F 1) (at_ s (i / 4 * 4 + (i + 1) % 4))) ^^^ tm (F 2) (at_ s (i / 4 * 4 + (i + 2) % 4))) ^^^ tm (F 3) (at_ s (i / 4 * 4 + (i + 3) % 4)) = _
  rw [h0, h1, h2, h3, self_at, UInt8.zero_xor]; ac_rfl
theorem mixF_unmix {F : Nat → Nat} (h0 : F 0 = 14) (h1 : F 1 = 11) (h2 : F 2 = 13) (h3 : F 3 = 9) (s : Blk) : mixF F s = unmixL s := by
  unfold mixF unmixL colL
  apply List.map_congr_left
  intro i _
  show (((0 ^^^ tm (F 0) (at_ s (i / 4 * 4 + (i + 0) % 4))) ^^^ tm (F 1) (at_ s (i / 4 * 4 + (i + 1) % 4))) ^^^ tm (F 2) (at_ s (i / 4 * 4 + (i + 2) % 4))) ^^^ tm (F 3) (at_ s (i / 4 * 4 + (i + 3) % 4)) = m3 _ _ _ _
  unfold m3
  rw [h0, h1, h2, h3, self_at, UInt8.zero_xor]; ac_rfl
theorem mix_idx {c q r p k : Nat} (hq : q = 4 * c) (hp : p = q + r) (hc : c < 4) (hr : r < 4) (hk : k < 4) : ∃ u v j : Nat, j = p / 4 * 4 + (p + k) % 4 ∧ j < 16 ∧ Hid (IntKind.i64.wrap (4 * (c : Int)) = (q : Int) ∧ IntKind.i64.wrap ((r : Int) + (k : Int)) = (u : Int) ∧ ((u : Int).tmod 4 = (v : Int)) ∧ IntKind.i64.wrap ((q : Int) + (v : Int)) = (j : Int)) := by
  refine ⟨r + k, (r + k) % 4, q + (r + k) % 4, by omega, by omega, Lib.hid ⟨?_, ?_, ?_, ?_⟩⟩
  · rw [IntWalk.i64_in _ (by omega)]; omega
  · rw [IntWalk.i64_in _ (by omega)]; push_cast; rfl
  · rw [Int.tmod_eq_emod_of_nonneg (by omega)]; push_cast; rfl
  · rw [IntWalk.i64_in _ (by omega)]; push_cast; rfl
set_option maxRecDepth 100000 in
set_option maxHeartbeats 2000000 in
theorem refmix_any (A1 : Option Addr) (ad2 : Addr) (c1 c2 : Nat) (F : Nat → Nat) (hF : ∀ k, k < 4 → F k < 16) (s : Blk) (hs : s.length = 16) (w : World) (hr1 : Rd w w.heap.size A1 s) (hb2 : ad2.block < w.heap.size) (hc2 : ∀ k, k < 4 → w.cell? (ad2.add k) = some (.int .i64 (F k : Int))) :
    Calls Tryz.prog 56 #[.slice A1 16 c1, .slice (some ad2) 4 c2] w fun e w' => e = .returned (.slice (some ⟨w.heap.size, 0, none⟩) 16 16) ∧ RowV w' 5 w.heap.size (bvs (mixF F s)) ∧ Below w.heap.size w w' := by
  have hll := mixF_length F s
  obtain ⟨ad1, rfl, hb1, hc1⟩ := rd_some hr1 (by omega)
  have H1 := Lib.hid hc1
  have H2 := Lib.hid hc2
  have HF := Lib.hid hF
  clear hr1 hc1 hc2 hF
  go_enter Tryz.func56, Tryz.ntmps56
  go_wp2_with (with_reducible refine at_slot 10 ?_
               refine wpList_make_u8 Go.Proofs.YtcbihjcnnfohmaaGreat.u8 rfl _ _ rfl .i64 .i64 _ _ 16 16 rfl rfl rfl rfl (by omega) (by omega) ?_)
  have hg0 : RowV (w.alloc (.cells (bvs (List.replicate 16 0)).toArray 5)) 5 w.heap.size (bvs (upto 0 (mixF F s) Z16)) := heap_alloc_new w _
  have hw0 : Below w.heap.size w (w.alloc (.cells (bvs (List.replicate 16 0)).toArray 5)) := (Below.refl _ _).alloc (Nat.le_refl _) _
  go_loopw [6] (fun i wr => ∃ c q : Nat, q = 4 * c ∧ c ≤ 4 ∧ i = .int .i64 (c : Int) ∧ RowV wr 5 w.heap.size (bvs (upto q (mixF F s) Z16)) ∧ Below w.heap.size w wr) (fun i _ => 4 - (intOf i).toNat)
  case atStart => exact ⟨0, 0, rfl, by omega, rfl, hg0, hw0⟩
  case round =>
    obtain ⟨c, q, hq, hc4, rfl, hgr, hwr⟩ := hrel
    clear hg0 hw0
    have HG := Lib.hid hgr
    have HW := Lib.hid hwr
    have HQ := Lib.hid hq
    clear hgr hwr
    by_cases hlt : c < 4
    · clear hq
      have hlti : (c : Int) < 4 := by omega
      go_wp2_with fail
      obtain ⟨wo, hwo⟩ : ∃ wo : World, wo = wr := ⟨_, rfl⟩
      subst hwo
      go_loopw [7] (fun i wi => ∃ r p : Nat, p = q + r ∧ r ≤ 4 ∧ i = .int .i64 (r : Int) ∧ RowV wi 5 w.heap.size (bvs (upto p (mixF F s) Z16)) ∧ Below w.heap.size w wi) (fun i _ => 4 - (intOf i).toNat)
      case atStart => exact ⟨0, q, rfl, by omega, rfl, HG.out, HW.out⟩
      case round =>
        obtain ⟨r, p, hp, hr4, rfl, hgr, hwr⟩ := hrel
        clear HG HW
        have HG := Lib.hid hgr
        have HW := Lib.hid hwr
        have HP := Lib.hid hp
        clear hgr hwr
        by_cases hltr : r < 4
        · have hp16 : p < 16 := by have := HQ.out; omega
          have hq12 : q ≤ 12 := by have := HQ.out; omega
          have hltri : (r : Int) < 4 := by omega
          clear hp
          go_wp2_with fail
          obtain ⟨wo2, hwo2⟩ : ∃ wo2 : World, wo2 = wr := ⟨_, rfl⟩
          subst hwo2
          go_loopw [8, 9] (fun x i wi => ∃ k : Nat, k ≤ 4 ∧ i = .int .i64 (k : Int) ∧ x = .int .u8 ((acc F s p k).toNat : Int) ∧ RowV wi 5 w.heap.size (bvs (upto p (mixF F s) Z16)) ∧ Below w.heap.size w wi) (fun _ i _ => 4 - (intOf i).toNat)
          case atStart => exact ⟨0, by omega, rfl, rfl, HG.out, HW.out⟩
          case round =>
            obtain ⟨k, hk4, rfl, rfl, hgr, hwr⟩ := hrel
            clear HG HW
            by_cases hltk : k < 4
            · obtain ⟨u, v, j, hj, hj16, HE⟩ := mix_idx HQ.out HP.out hlt hltr hltk
              have c1' := (hwr.cell (p := ad1.add j) (by rw [add_block]; exact hb1)).trans (H1.out j (by omega))
              change wr.cell? (ad1.add j) = some (bv (at_ s j)) at c1'
              have c2' := (hwr.cell (p := ad2.add k) (by rw [add_block]; exact hb2)).trans (H2.out k hltk)
              have htm : ∀ w : World, Calls Tryz.prog 72 #[.int .i64 (F k : Int), .int .u8 ((at_ s j).toNat : Int)] w fun e w' => e = .returned (.int .u8 ((tm (F k) (at_ s j)).toNat : Int)) ∧ w' = w := fun w => (times_any (F k) (HF.out k hltk) (at_ s j) w).mono (fun _ _ h => ⟨h.1, h.2.symm⟩)
              have hx := u8x (acc F s p k) (tm (F k) (at_ s j))
              rw [show acc F s p k ^^^ tm (F k) (at_ s j) = acc F s p (k+1) by rw [acc, hj]] at hx
              rw [bv_int] at c1'
              have HTM := Lib.hid htm
              have HG := Lib.hid hgr
              have HW := Lib.hid hwr
              have j16 : (j : Int) < 16 := by omega
              have k4 : (k : Int) < 4 := by omega
              clear htm hgr hwr hj
              obtain ⟨z1, hz1⟩ : ∃ z1, (acc F s p (k+1)).toNat = z1 := ⟨_, rfl⟩
              rw [hz1] at hx
              have HZ1 := Lib.hid hz1
              clear hz1
              generalize (acc F s p k).toNat = z0 at *
              generalize (tm (F k) (at_ s j)).toNat = z2 at *
              generalize (at_ s j).toNat = z3 at *
              generalize F k = f at *
              obtain ⟨e1, e2, e3, e4⟩ := HE.out
              go_wp2_with fail
              go_quiet ((with_reducible exact Calls.quiet_of_same (HTM.out _)))
              clear e1 e2 e3 e4 hx c1' c2'
              go_wp2_with fail
              go_roundw
              case rel => exact ⟨k + 1, by omega, by go_num, by rw [HZ1.out], HG.out, HW.out.trans (below_drewN _ _ _)⟩
              case measure => simp [intOf]; omega
            · have e4 : k = 4 := by omega
              subst e4
              have c0 := hgr.cell (upto_get hll Z16_len hp16)
              have f0 := hgr.frozen p
              have hset := hgr.set p (bv (at_ (mixF F s) p))
              rw [upto_set hll Z16_len hp16, mixF_at hp16] at hset
              rw [bv_int] at c0 hset
              have HSET := Lib.hid hset
              have HWS := Lib.hid (below_setCell_ hwr (p := ⟨w.heap.size, p, none⟩) (Nat.le_refl _) (.int .u8 ((acc F s p 4).toNat : Int)))
              have p16 : (p : Int) < 16 := by omega
              have s1 : 4 * (c : Int) = (q : Int) := by have := HQ.out; omega
              have s2 : (q : Int) + (r : Int) = (p : Int) := by have := HP.out; omega
              clear hset hgr hwr
              generalize (acc F s p 4).toNat = z at *
              generalize (at_ Z16 p).toNat = o at *
              go_wp2_with fail
              clear s1 s2
              go_roundw
              case rel => exact ⟨r + 1, p + 1, (by have := HP.out; omega), by omega, by go_num, HSET.out, HWS.out⟩
              case measure => simp [intOf] <;> omega
        · have e4 : r = 4 := by omega
          subst e4
          clear hp
          go_wp2_with fail
          go_roundw
          case rel => exact ⟨c + 1, p, (by have := HP.out; have := HQ.out; omega), by omega, by go_num, HG.out, HW.out⟩
          case measure => simp [intOf] <;> omega
    · have e4 : c = 4 := by omega
      have e16 : q = 16 := by omega
      subst e4
      subst e16
      have hg := HG.out
      rw [upto_all hll Z16_len] at hg
      have HG2 := Lib.hid hg
      clear hg hq HG
      go_wp2_with fail
      go_ret
      exact ⟨rfl, HG2.out, HW.out⟩

/-! ### the byte maps -/
def Z256 : List UInt8 := List.replicate 256 0
theorem Z256_len : Z256.length = 256 := List.length_replicate
theorem rowv_own {w : World} {g : Nat} {l : List UInt8} (h : RowV w 5 g (bvs l)) (hl : l.length ≤ 4096) : Own w 5 g (.slice (some ⟨g, 0, none⟩) l.length l.length) l := by
  have h' : Row w 5 g (l ++ []) := by rw [List.append_nil]; exact h
  exact h'.toOwn (Nat.le_refl _) rfl (by simp) (by omega)
set_option maxRecDepth 100000 in
set_option maxHeartbeats 1000000 in
theorem back_any (A1 : Option Addr) (c1 : Nat) (w : World) (hr1 : Rd w w.heap.size A1 sbs) :
    Calls Tryz.prog 44 #[.slice A1 256 c1] w fun e w' => e = .returned (.slice (some ⟨w.heap.size, 0, none⟩) 256 256) ∧ RowV w' 5 w.heap.size (bvs uss) ∧ Below w.heap.size w w' := by
  obtain ⟨ad1, rfl, hb1, hc1⟩ := rd_some hr1 (by rw [sbs_length]; omega)
  have H1 := Lib.hid hc1
  clear hr1 hc1
  go_enter Tryz.func44, Tryz.ntmps44
  obtain ⟨Z, hZ⟩ : ∃ Z, List.replicate 256 (0 : UInt8) = Z := ⟨_, rfl⟩
  go_wp2_with (with_reducible refine at_slot 5 ?_
               refine wpList_make_u8 Go.Proofs.YtcbihjcnnfohmaaGreat.u8 rfl _ _ rfl .i64 .i64 _ _ 256 256 rfl rfl rfl rfl (by omega) (by omega) ?_
               rw [hZ])
  have hg0 : RowV (w.alloc (.cells (bvs Z).toArray 5)) 5 w.heap.size (bvs (ux 0)) := by
    have : ux 0 = Z := hZ
    rw [this]; exact heap_alloc_new w _
  have hw0 : Below w.heap.size w (w.alloc (.cells (bvs Z).toArray 5)) := (Below.refl _ _).alloc (Nat.le_refl _) _
  go_loopw [4] (fun i wr => ∃ t : Nat, t ≤ 256 ∧ i = .int .i64 (t : Int) ∧ RowV wr 5 w.heap.size (bvs (ux t)) ∧ Below w.heap.size w wr) (fun i _ => 256 - (intOf i).toNat)
  case atStart => exact ⟨0, by omega, rfl, hg0, hw0⟩
  case round =>
    obtain ⟨t, ht, rfl, hgr, hwr⟩ := hrel
    clear hg0 hw0
    by_cases hlt : t < 256
    · have hbl := box_lt t hlt
      have c1 := (hwr.cell (p := ad1.add t) (by rw [add_block]; exact hb1)).trans (H1.out t (by rw [sbs_length]; exact hlt))
      rw [show sbs.getD t 0 = UInt8.ofNat (box t) by unfold sbs; simp [List.getD_eq_getElem?_getD, hlt]] at c1
      obtain ⟨x, hx⟩ := at256 (ux_length t) hbl
      have c0 := hgr.cell (i := box t) (v := bv x) (by unfold bvs; rw [List.getElem?_map, hx]; rfl)
      have f0 := hgr.frozen (box t)
      have hset := hgr.set (box t) (bv (UInt8.ofNat t))
      rw [bvs_set, show (ux t).set (box t) (UInt8.ofNat t) = ux (t+1) from rfl] at hset
      rw [bv_int, nat8 hbl] at c1
      rw [bv_int, nat8 hlt] at hset
      rw [bv_int] at c0
      have tw : IntKind.u8.wrap (t : Int) = (t : Int) := IntWalk.u8_in _ (by omega)
      have hq : ((box t : Nat) : Int) < 256 := by omega
      have t256 : (t : Int) < 256 := by omega
      have HSET := Lib.hid hset
      have HWS := Lib.hid (below_setCell_ hwr (p := ⟨w.heap.size, box t, none⟩) (Nat.le_refl _) (.int .u8 (t : Int)))
      clear hset hgr hwr hx
      generalize box t = q at *
      generalize x.toNat = y at *
      go_wp2_with fail
      go_roundw
      case rel => exact ⟨t + 1, by omega, by go_num, HSET.out, HWS.out⟩
      case measure => simp [intOf]; omega
    · have e16 : t = 256 := by omega
      subst e16
      rw [ux_all] at hgr
      have HG := Lib.hid hgr
      have HW := Lib.hid hwr
      clear hgr hwr
      go_wp2_with fail
      go_ret
      exact ⟨rfl, HG.out, HW.out⟩
end Go.Proofs.YtcbihjcnnfohmaaGreat.Aes

/- The document's map of all bytes, along the powers of 3: contract. -/
namespace Go.Proofs.YtcbihjcnnfohmaaGreat.Aes
open Go Go.ChangeShapes Go.WideShapes Go.ChangeAt Go.RowKit Go.Proofs.YtcbihjcnnfohmaaGreat.Fld
set_option linter.unusedVariables false
set_option linter.unusedSimpArgs false
def tab8 (k : Nat) : List UInt8 := (tab k).1.map UInt8.ofNat
theorem tab8_length (k : Nat) : (tab8 k).length = 256 := by unfold tab8; rw [List.length_map, (tab_size k).1]
theorem tab8_succ (k : Nat) : tab8 (k+1) = (tab8 k).set (tab k).2.1 (UInt8.ofNat (refaff (tab k).2.2)) := by
  unfold tab8; rw [tab, List.map_set]
theorem refaff_lt (i : Nat) (h : i < 256) : refaff i < 256 := by rw [refaff_eq i h]; exact aff_lt i h
theorem lftc (i n : Nat) (hi : i < 256) (hn : n < 8) (w : World) : Calls Tryz.prog 58 #[.int .u8 (i : Int), .int .i64 (n : Int)] w fun e w' => e = .returned (.int .u8 ((lft n i 8 : Nat) : Int)) ∧ w = w' :=
  (left_any (i : Int) (n : Int) (by omega) (by omega) (by omega) (by omega) w).mono (fun _ _ h => ⟨by rw [h.1]; simp only [Int.toNat_natCast], h.2⟩)
theorem mulc (a b : Nat) (ha : a < 256) (hb : b < 256) (w : World) : Calls Tryz.prog 59 #[.int .u8 (a : Int), .int .u8 (b : Int)] w fun e w' => e = .returned (.int .u8 ((gm a b : Nat) : Int)) ∧ w = w' :=
  (refmul_any (a : Int) (b : Int) (by omega) (by omega) (by omega) (by omega) w).mono (fun _ _ h => ⟨by rw [h.1]; simp only [Int.toNat_natCast], h.2⟩)
set_option maxRecDepth 100000 in
set_option maxHeartbeats 2000000 in
theorem boxes_any (w : World) :
    Calls Tryz.prog 42 #[] w fun e w' => e = .returned (.slice (some ⟨w.heap.size, 0, none⟩) 256 256) ∧ RowV w' 5 w.heap.size (bvs sbs) ∧ Below w.heap.size w w' := by
  go_enter Tryz.func42, Tryz.ntmps42
  obtain ⟨Z, hZ⟩ : ∃ Z, List.replicate 256 (0 : UInt8) = Z := ⟨_, rfl⟩
  have hZl : Z.length = 256 := by rw [← hZ]; exact List.length_replicate
  have hgz : RowV (w.alloc (.cells (bvs Z).toArray 5)) 5 w.heap.size (bvs Z) := heap_alloc_new w _
  obtain ⟨z0, hz0⟩ := at256 hZl (show 0 < 256 by omega)
  have c00 := hgz.cell (i := 0) (v := bv z0) (by unfold bvs; rw [List.getElem?_map, hz0]; rfl)
  have f00 := hgz.frozen 0
  have hg0 : RowV (w.alloc (.cells ((bvs Z).set 0 (.int .u8 99)).toArray 5)) 5 w.heap.size (bvs (tab8 0)) := by
    have : bvs (tab8 0) = (bvs Z).set 0 (.int .u8 99) := by rw [show tab8 0 = Z.set 0 99 by rw [← hZ]; rfl, ← bvs_set]; rfl
    rw [this]; exact heap_alloc_new w _
  have hw0 : Below w.heap.size w (w.alloc (.cells ((bvs Z).set 0 (.int .u8 99)).toArray 5)) := (Below.refl _ _).alloc (Nat.le_refl _) _
  have HG0 := Lib.hid hg0
  have HW0 := Lib.hid hw0
  have HZ := Lib.hid hZ
  rw [bv_int] at c00
  generalize z0.toNat = y0 at *
  clear hg0 hw0 hgz hz0 hZl hZ
  go_wp2_with (with_reducible refine at_slot 5 ?_
               refine wpList_make_u8 Go.Proofs.YtcbihjcnnfohmaaGreat.u8 rfl _ _ rfl .i64 .i64 _ _ 256 256 rfl rfl rfl rfl (by omega) (by omega) ?_
               rw [HZ.out])
  clear c00 f00
  go_loopw [2, 3, 4] (fun xv iv k wr => ∃ (t x i : Nat), (tab t).2.1 = x ∧ (tab t).2.2 = i ∧ t ≤ 255 ∧ k = .int .i64 (t : Int) ∧ xv = .int .u8 (x : Int) ∧ iv = .int .u8 (i : Int) ∧ RowV wr 5 w.heap.size (bvs (tab8 t)) ∧ Below w.heap.size w wr) (fun _ _ k _ => 255 - (intOf k).toNat)
  case atStart => exact ⟨0, 1, 1, rfl, rfl, by omega, rfl, rfl, rfl, HG0.out, HW0.out⟩
  case round =>
    obtain ⟨t, x, i, hxt, hit, ht, rfl, rfl, rfl, hgr, hwr⟩ := hrel
    clear HG0 HW0
    by_cases hlt : t < 255
    · have hx : x < 256 := by rw [← hxt]; exact (tab_size t).2.1
      have hi : i < 256 := by rw [← hit]; exact (tab_size t).2.2
      have l1 := lft_lt 1 i 8
      have l2 := lft_lt 2 i 8
      have l3 := lft_lt 3 i 8
      have l4 := lft_lt 4 i 8
      have x1 := u8_xor_nat _ _ hi l1
      have x2 := u8_xor_nat _ _ (xor_lt hi l1) l2
      have x3 := u8_xor_nat _ _ (xor_lt (xor_lt hi l1) l2) l3
      have x4 := u8_xor_nat _ _ (xor_lt (xor_lt (xor_lt hi l1) l2) l3) l4
      have x5 : bits BinOp.xor IntKind.u8 ((i ^^^ lft 1 i 8 ^^^ lft 2 i 8 ^^^ lft 3 i 8 ^^^ lft 4 i 8 : Nat) : Int) 99 = ((i ^^^ lft 1 i 8 ^^^ lft 2 i 8 ^^^ lft 3 i 8 ^^^ lft 4 i 8 ^^^ 99 : Nat) : Int) := u8_xor_nat _ 99 (xor_lt (xor_lt (xor_lt (xor_lt hi l1) l2) l3) l4) (by omega)
      have hra := refaff_lt i hi
      obtain ⟨ra, hre⟩ : ∃ ra, refaff i = ra := ⟨_, rfl⟩
      rw [show i ^^^ lft 1 i 8 ^^^ lft 2 i 8 ^^^ lft 3 i 8 ^^^ lft 4 i 8 ^^^ 99 = ra from hre] at x5
      rw [hre] at hra
      obtain ⟨z0, hz0⟩ := at256 (tab8_length t) hx
      have c0 := hgr.cell (i := x) (v := bv z0) (by unfold bvs; rw [List.getElem?_map, hz0]; rfl)
      have f0 := hgr.frozen x
      have hset := hgr.set x (bv (UInt8.ofNat ra))
      rw [bvs_set, show (tab8 t).set x (UInt8.ofNat ra) = tab8 (t+1) by rw [tab8_succ, hxt, hit, hre]] at hset
      rw [bv_int, nat8 hra] at hset
      rw [bv_int] at c0
      have h1 := fun w => lftc i 1 hi (by omega) w
      have h2 := fun w => lftc i 2 hi (by omega) w
      have h3 := fun w => lftc i 3 hi (by omega) w
      have h4 := fun w => lftc i 4 hi (by omega) w
      have m3 := fun w => mulc x 3 hx (by omega) w
      have m246 := fun w => mulc i 246 hi (by omega) w
      have hxn : (tab (t+1)).2.1 = gm x 3 := by rw [← hxt]; rfl
      have hin : (tab (t+1)).2.2 = gm i 246 := by rw [← hit]; rfl
      have x256 : (x : Int) < 256 := by omega
      have HSET := Lib.hid hset
      have HWS := Lib.hid (below_setCell_ hwr (p := ⟨w.heap.size, x, none⟩) (Nat.le_refl _) (.int .u8 (ra : Int)))
      have H1 := Lib.hid h1
      have H2 := Lib.hid h2
      have H3 := Lib.hid h3
      have H4 := Lib.hid h4
      have M3 := Lib.hid m3
      have M246 := Lib.hid m246
      have HXN := Lib.hid hxn
      have HIN := Lib.hid hin
      clear hset hgr hwr hz0 h1 h2 h3 h4 m3 m246 hxn hin hxt hit hre l1 l2 l3 l4
      generalize i ^^^ lft 1 i 8 ^^^ lft 2 i 8 ^^^ lft 3 i 8 ^^^ lft 4 i 8 = y4 at *
      generalize i ^^^ lft 1 i 8 ^^^ lft 2 i 8 ^^^ lft 3 i 8 = y3 at *
      generalize i ^^^ lft 1 i 8 ^^^ lft 2 i 8 = y2 at *
      generalize i ^^^ lft 1 i 8 = y1 at *
      generalize lft 1 i 8 = k1 at *
      generalize lft 2 i 8 = k2 at *
      generalize lft 3 i 8 = k3 at *
      generalize lft 4 i 8 = k4 at *
      generalize gm x 3 = nx at *
      generalize gm i 246 = ni at *
      generalize z0.toNat = o at *
      go_wp2_with fail
      refine (H1.out _).mono ?_
      rintro e w1 ⟨rfl, rfl⟩
      go_wp2_with fail
      refine (H2.out _).mono ?_
      rintro e w1 ⟨rfl, rfl⟩
      go_wp2_with fail
      refine (H3.out _).mono ?_
      rintro e w1 ⟨rfl, rfl⟩
      go_wp2_with fail
      refine (H4.out _).mono ?_
      rintro e w1 ⟨rfl, rfl⟩
      go_wp2_with fail
      refine (M3.out _).mono ?_
      rintro e w1 ⟨rfl, rfl⟩
      go_wp2_with fail
      refine (M246.out _).mono ?_
      rintro e w1 ⟨rfl, rfl⟩
      go_wp2_with fail
      go_roundw
      case rel => exact ⟨t + 1, nx, ni, HXN.out, HIN.out, by omega, by go_num, rfl, rfl, HSET.out, HWS.out⟩
      case measure => simp [intOf]; omega
    · have e16 : t = 255 := by omega
      subst e16
      rw [show tab8 255 = sbs from tab_all] at hgr
      have HG := Lib.hid hgr
      have HW := Lib.hid hwr
      clear hgr hwr hxt hit
      go_wp2_with fail
      go_ret
      exact ⟨rfl, HG.out, HW.out⟩
end Go.Proofs.YtcbihjcnnfohmaaGreat.Aes

/- The document's round keys: the words, the rows that hold them. -/
namespace Go.Proofs.YtcbihjcnnfohmaaGreat.Aes
open Go Go.ChangeShapes Go.WideShapes Go.ChangeAt Go.RowKit Go.Proofs.YtcbihjcnnfohmaaGreat.Fld
set_option linter.unusedVariables false
set_option linter.unusedSimpArgs false
/-! ### plain -/
theorem words_take (n : Nat) (key : Blk) (k : Nat) : ∀ m, (words n key (k + m)).take (n + k) = words n key k
  | 0 => by rw [Nat.add_zero]; exact List.take_of_length_le (by rw [words_length]; exact Nat.le_refl _)
  | m+1 => by
    show (words n key (k + m) ++ [nextW n (words n key (k + m))]).take (n + k) = _
    rw [List.take_append_of_le_length (by rw [words_length]; omega), words_take n key k m]
def allW (n : Nat) (key : Blk) : List Blk := words n key (more n)
theorem allW_length {n : Nat} (hn : n = 4 ∨ n = 8) (key : Blk) : (allW n key).length = 4 * (n + 7) := by unfold allW; rw [words_length]; unfold more; omega
theorem allW_take {n : Nat} (hn : n = 4 ∨ n = 8) (key : Blk) {k : Nat} (hk : n + k ≤ 4 * (n + 7)) : (allW n key).take (n + k) = words n key k := by
  unfold allW
  have : more n = k + (more n - k) := by unfold more; omega
  rw [this]; exact words_take n key k _
theorem rkey_take {R : List Blk} {i j : Nat} (h : j < i) : rkey (R.take i) j = rkey R j := by
  unfold rkey; rw [List.getD_eq_getElem?_getD, List.getD_eq_getElem?_getD, List.getElem?_take, if_pos h]
theorem allW_next {n : Nat} (hn : n = 4 ∨ n = 8) (key : Blk) {i : Nat} (hi : n ≤ i) (hl : i < 4 * (n + 7)) : (allW n key).take (i + 1) = (allW n key).take i ++ [lay (turnW n i (rkey (allW n key) (i - 1))) (rkey (allW n key) (i - n))] := by
  obtain ⟨k, rfl⟩ := Nat.exists_eq_add_of_le hi
  have h0 := allW_take hn key (k := k) (by omega)
  have h1 := allW_take hn key (k := k + 1) (by omega)
  rw [← Nat.add_assoc] at h1
  rw [h1, words, nextW, words_length, ← h0, rkey_take (by omega), rkey_take (by omega)]
theorem allW_first {n : Nat} (hn : n = 4 ∨ n = 8) (key : Blk) {i : Nat} (hi : i < n) : (allW n key).take (i + 1) = (allW n key).take i ++ [(key.drop (4 * i)).take 4] := by
  have h0 := allW_take hn key (k := 0) (by omega)
  have e : ∀ j, j ≤ n → (allW n key).take j = (words n key 0).take j := fun j hj => by
    rw [← h0, List.take_take]; congr 1; omega
  rw [e _ (by omega), e _ (by omega)]
  have hl : i < (words n key 0).length := by rw [words_length]; omega
  rw [List.take_succ_eq_append_getElem hl]
  simp [words]
theorem allW_four {n : Nat} (hn : n = 4 ∨ n = 8) {key : Blk} (hk : key.length = 4 * n) : Four (allW n key) := words_four hk (by omega) _
theorem lay4_length {a b : Blk} (ha : a.length = 4) (hb : b.length = 4) : (lay a b).length = 4 := by unfold lay; rw [List.length_zipWith, ha, hb]; rfl
theorem lay_at4 {a b : Blk} {i : Nat} (ha : i < a.length) (hb : i < b.length) : at_ (lay a b) i = at_ a i ^^^ at_ b i := by
  unfold lay at_
  simp [List.getD_eq_getElem?_getD, List.getElem?_zipWith, List.getElem?_eq_getElem ha, List.getElem?_eq_getElem hb]
theorem take_rk {R : List Blk} {i : Nat} (h : i < R.length) : R.take (i + 1) = R.take i ++ [rkey R i] := take_round h
/-- four words on -/
theorem rounds_next {n : Nat} (key : Blk) {r : Nat} (hr : r < n + 7) : (rounds n key).take (r + 1) = (rounds n key).take r ++ [(((allW n key).drop (4 * r)).take 4).flatten] := by
  rw [take_round (by rw [rounds_length]; exact hr), rounds_at hr]; rfl
theorem cut_next {W : List Blk} {p j : Nat} (h : p + j < W.length) : ((W.drop p).take (j + 1)).flatten = ((W.drop p).take j).flatten ++ rkey W (p + j) := by
  rw [List.take_succ_eq_append_getElem (by rw [List.length_drop]; omega), List.flatten_append]
  simp [rkey, List.getD_eq_getElem?_getD, h]
/-! ### rows -/
theorem rd_now_ {w w' : World} {A : Option Addr} {l : List UInt8} (hr : Rd w w.heap.size A l) (hb : Below w.heap.size w w') : Rd w' w'.heap.size A l := (hr.below hb).more hb.size
section
variable {w w2 w4 : World} {tb e : TypeId} {base : Nat} {v v4 x : Value} {vs : List Value} {ls : List (List UInt8)} {l : List UInt8}
theorem rws_own (hR : Rws w tb e base v vs ls) (hb : Below w.heap.size w w2) (o : Obj) : OwnV (w2.alloc o) tb base v vs := (hR.own.below_ hb).alloc o
theorem rws_app (hR : Rws w tb e base v vs ls) (hbase : base ≤ w.heap.size) (hb : Below w.heap.size w w2) {b2 : Nat} (hx : Own w2 e b2 x l) (h2 : w.heap.size ≤ b2) (o : Obj) (hO : OwnV w4 tb base v4 (vs ++ [x]))
    (hg : (w2.alloc o).grownBy w4 v.ownBlock) (hat : v4.ownBlock = v.ownBlock ∨ v4.ownBlock = some (w2.alloc o).heap.size) : Rws w4 tb e base v4 (vs ++ [x]) (ls ++ [l]) ∧ Frame (fun k => k < w.heap.size ∧ v.ownBlock ≠ some k) w w4 := by
  have hs := hb.size
  have hF4 : Frame (fun b => b < w.heap.size ∧ v.ownBlock ≠ some b) w w4 := Frame.trans (Frame.of_below hb (S := fun b => b < w.heap.size ∧ v.ownBlock ≠ some b) (fun b h => h.1))
    (Frame.trans ((Frame.refl (fun b => b < w.heap.size ∧ v.ownBlock ≠ some b) w2).alloc (fun b h => Nat.lt_of_lt_of_le h.1 hs) o)
      (Frame.of_grown (S := fun b => b < w.heap.size ∧ v.ownBlock ≠ some b) hg (fun b h => ⟨by have := h.1; simp; omega, fun e => h.2 e.symm⟩)) (fun b h => h)) (fun b h => h)
  have hx4 : Own w4 e base x l := Own.mono (roww_keep (w := w2) hx (fun b e => (hg.block b (by have := (hx.lt b e).2; simp; omega) (fun e2 => by have h1 := (hx.lt b e).1; have h3 := (hR.own.lt b e2.symm).2; omega)).trans (heap_alloc_old w2 _ (hx.lt b e).2))) (by omega)
  refine ⟨hR.push hF4 hO ?_ hx4 (fun k hk => ⟨by have := (hx.lt k hk).1; omega, fun e2 => ?_⟩), hF4⟩
  · rcases hat with h | h
    · exact .inl h
    · exact .inr ⟨_, h, by simp; omega⟩
  · rcases hat with h | h
    · rw [h] at e2; have h1 := (hx.lt k hk).1; have h3 := (hR.own.lt k e2).2; omega
    · rw [h] at e2; injection e2 with e2; have h1 := (hx.lt k hk).2; simp at e2; omega
theorem rws_below (hR : Rws w tb e base v vs ls) (hbase : base ≤ w.heap.size) (hF : Frame (fun k => k < w.heap.size ∧ v.ownBlock ≠ some k) w w4) : Below base w w4 := hF.toBelow fun k hk => ⟨by omega, fun e => by have := (hR.own.lt k e).1; omega⟩
theorem rws_ptr {Ao : Option Addr} {i co : Nat} (hR : Rws w tb e base (.slice Ao i co) vs ls) (h0 : 0 < vs.length) : ∃ ad, Ao = some ad ∧ ad.block < w.heap.size ∧ base ≤ ad.block ∧ ∀ (j : Nat) (l : List UInt8), ls[j]? = some l → ∃ A c, w.cell? (ad.add j) = some (.slice A l.length c) ∧ Rd w w.heap.size A l ∧ l.length ≤ c := by
  obtain ⟨g, off, c, hv, hgb, hgl, _⟩ := hR.own.at_ h0
  injection hv with h1 h2 h3
  refine ⟨⟨g, off, none⟩, h1, hgl, hgb, fun j l hl => ?_⟩
  obtain ⟨A, c', hA, hr, hc⟩ := hR.at_ hl
  have hj := (List.getElem?_eq_some_iff.1 hA).1
  obtain ⟨g2, off2, c2, hv2, _, _, hcell, _⟩ := hR.own.at_ hj
  injection hv2 with h4 h5 h6
  have h7 := h1.symm.trans h4
  injection h7 with h7
  refine ⟨A, c', ?_, hr, hc⟩
  rw [h7, addr_add, hcell, ← hA, List.getElem?_eq_getElem hj]
theorem rws_mono {base' : Nat} (hR : Rws w tb e base v vs ls) (h : base' ≤ base) : Rws w tb e base' v vs ls :=
  ⟨hR.own.mono fun k hk => Nat.le_trans h (hR.own.lt k hk).1, hR.len, fun i x l hx hl => (hR.row i x l hx hl).mono h, hR.off, hR.ord⟩
end
theorem take_at_rk {R : List Blk} {i p : Nat} (h : p < i) (hi : i ≤ R.length) : (R.take i)[p]? = some (rkey R p) := by
  rw [List.getElem?_take, if_pos h]
  simp [rkey, List.getD_eq_getElem?_getD, List.getElem?_eq_getElem (show p < R.length by omega)]
theorem upto_at4 {N : Nat} {new old : Blk} {i : Nat} (hn : new.length = N) (ho : old.length = N) (hi : i < N) (h : i < (upto i new old).length) : bv (upto i new old)[i] = bv (at_ old i) := by
  have h1 := uptoN_get hn ho hi
  rw [bvs_get h] at h1
  injection h1
theorem upto_set4 {N : Nat} {new old : Blk} {i : Nat} (hn : new.length = N) (ho : old.length = N) (hi : i < N) : (upto i new old).set i (at_ new i) = upto (i + 1) new old := by
  have h1 := uptoN_set hn ho hi
  unfold bvs at h1
  rw [← List.map_set] at h1
  have hinj : Function.Injective bv := fun a b h => by
    have := congrArg (fun v => match v with | .int _ n => n.toNat | _ => 0) h
    simp [bv] at this
    exact UInt8.toNat_inj.1 this
  exact (List.map_inj_right hinj).1 h1
theorem upto_len4 {N : Nat} {new old : Blk} {i : Nat} (hn : new.length = N) (ho : old.length = N) (hi : i ≤ N) : (upto i new old).length = N := by unfold upto; simp; omega
theorem own_at4 {w : World} {e : TypeId} {base g n c : Nat} {l : List UInt8} (h : Own w e base (.slice (some ⟨g, 0, none⟩) n c) l) {i : Nat} (hi : i < l.length) : w.cell? ⟨g, i, none⟩ = some (bv (at_ l i)) := by
  rw [(h.at_g hi).2.2.1]
  simp [at_, List.getD_eq_getElem?_getD, List.getElem?_eq_getElem hi]
theorem own_four {w : World} {base : Nat} (hb : base ≤ w.heap.size) (a b c d : UInt8) : Own (w.alloc (.cells #[.int .u8 ((a.toNat : Nat) : Int), .int .u8 ((b.toNat : Nat) : Int), .int .u8 ((c.toNat : Nat) : Int), .int .u8 ((d.toNat : Nat) : Int)] 5)) 5 base (.slice (some ⟨w.heap.size, 0, none⟩) 4 4) [a, b, c, d] :=
  Own.mono (rowv_own (l := [a, b, c, d]) (heap_alloc_new w _) (by simp)) hb
theorem cell_new {w : World} {a : Addr} {v : Value} (o : Obj) (h : w.cell? a = some v) : (w.alloc o).cell? a = some v := by
  have hlt : a.block < w.heap.size := by
    rcases Nat.lt_or_ge a.block w.heap.size with h' | h'
    · exact h'
    · simp [World.cell?, Array.getElem?_eq_none h'] at h
  exact (((Below.refl w.heap.size w).alloc (Nat.le_refl _) o).cell hlt).trans h
theorem src_row (w : World) (x : Value) (T : TypeId) : 0 < 1 → ∃ ad, (some ⟨w.heap.size, 0, none⟩ : Option Addr) = some ad ∧ ∀ j u, ([x] : List Value)[j]? = some u → (w.alloc (.cells #[x] T)).cell? (ad.add j) = some u := src1 w x T
theorem rd_slice {w : World} {B : Nat} {A : Option Addr} {L c lo m : Nat} {l : List UInt8} (hr : Rd w B A l) (hl : l.length = L) (hlo : lo + m ≤ L) (hm : 0 < m) (hc : L ≤ c) (hi lo' : Int) (e1 : hi = ((lo + m : Nat) : Int)) (e2 : lo' = (lo : Int)) :
    ∃ A', (∀ w' : World, (Instr.slice 22 (.slice A L c) (some (.int .i64 lo')) (some (.int .i64 hi)) none).run Tryz.prog w' = .ok (.slice A' m (c - lo)) w') ∧ Rd w B A' ((l.drop lo).take m) := by
  subst e1 e2
  have hu : Tryz.prog.underlying 22 = some (.slice (Tryz.prog.elem 22)) := by kernel_rfl
  have hz : ∀ w, (sizeOf (Tryz.prog.elem 22)).run Tryz.prog w = .ok 1 w := fun w => by kernel_rfl
  refine ⟨if c = lo then A else A.map (·.add lo), fun w' => ?_, (hr.drop lo (cap := c) (by omega)).take m⟩
  rw [run_slice_lh w' _ _ _ _ hu .i64 .i64 (lo : Int) ((lo + m : Nat) : Int) (by omega) (by omega) (by omega), hz, Result.andThen_ok, sliced]
  simp
  omega
end Go.Proofs.YtcbihjcnnfohmaaGreat.Aes
