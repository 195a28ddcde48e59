/- Sealed bytes: numbers in bytes, the comparing of tags, keys, sizes: contracts. -/
import Derived.Test.YtcbihjcnnfohmaaMacB
import Derived.Test.YtcbihjcnnfohmaaStrLaw
namespace Go.Proofs.Ytcbihjcnnfohmaa.Box
open Go Go.ChangeShapes Go.WideShapes Go.ChangeAt Go.RowKit Go.Proofs.Ytcbihjcnnfohmaa.Aes Go.Proofs.Ytcbihjcnnfohmaa.Str Go.Proofs.Ytcbihjcnnfohmaa.Mac
set_option linter.unusedVariables false
set_option linter.unusedSimpArgs false
def e8 (n : Nat) : Nat → List UInt8
  | 0 => List.replicate 8 0
  | t+1 => (e8 n t).set t (b8 n t)
theorem e8_length (n : Nat) : ∀ t, (e8 n t).length = 8
  | 0 => rfl
  | t+1 => by rw [e8, List.length_set, e8_length n t]
theorem e8_all (n : Nat) : e8 n 8 = be8 n := rfl
theorem b8_len (n : Nat) : (be8 n).length = 8 := by simp [be8]
set_option maxRecDepth 100000 in
set_option maxHeartbeats 2000000 in
theorem boxeight_any (n : Nat) (w : World) :
    Calls Try.prog 58 #[.int .i64 (n : Int)] w fun e w' => e = .returned (.slice (some ⟨w.heap.size, 0, none⟩) 8 8) ∧ Aes.RowV w' 5 w.heap.size (bvs (be8 n)) ∧ Below w.heap.size w w' := by
  go_enter Try.func58, Try.ntmps58
  go_wp2_with (with_reducible refine at_slot 5 ?_
               refine wpList_make_u8 Go.Proofs.Ytcbihjcnnfohmaa.u8 rfl _ _ rfl .i64 .i64 _ _ 8 8 rfl rfl rfl rfl (by omega) (by omega) ?_)
  have hg0 : Aes.RowV (w.alloc (.cells (bvs (List.replicate 8 0)).toArray 5)) 5 w.heap.size (bvs (e8 n 0)) := heap_alloc_new w _
  have hw0 : Below w.heap.size w (w.alloc (.cells (bvs (List.replicate 8 0)).toArray 5)) := (Below.refl _ _).alloc (Nat.le_refl _) _
  go_loopw [8] (fun i wr => ∃ t : Nat, t ≤ 8 ∧ i = .int .i64 (t : Int) ∧ Aes.RowV wr 5 w.heap.size (bvs (e8 n t)) ∧ Below w.heap.size w wr) (fun i _ => 8 - (intOf i).toNat)
  case atStart => exact ⟨0, by omega, rfl, hg0, hw0⟩
  case round =>
    obtain ⟨t, ht, rfl, hgr, hwr⟩ := hrel
    clear hg0 hw0
    by_cases hlt : t < 8
    · have hlen := e8_length n t
      obtain ⟨x0, hx0⟩ : ∃ x, (bvs (e8 n t))[t]? = some (bv x) := ⟨_, bvs_get (by rw [hlen]; exact hlt)⟩
      have c0 := hgr.cell hx0
      have f0 := hgr.frozen t
      have hs1 := hgr.set t (bv (b8 n t))
      rw [Aes.bvs_set, show (e8 n t).set t (b8 n t) = e8 n (t+1) from rfl] at hs1
      have hw2 := below_setCell_ hwr (p := ⟨w.heap.size, t, none⟩) (Nat.le_refl _) (.int .u8 ((b8 n t).toNat : Int))
      obtain ⟨m, hm⟩ : ∃ m, 8 * t = m := ⟨_, rfl⟩
      obtain ⟨s, hs⟩ : ∃ s, 56 - m = s := ⟨_, rfl⟩
      obtain ⟨q, hq⟩ : ∃ q, n / 2 ^ s = q := ⟨_, rfl⟩
      have a1 : 8 * (t : Int) = (m : Int) := by omega
      have a2 : 56 - (m : Int) = (s : Int) := by omega
      have a3 : (n : Int) / 2 ^ s = (q : Int) := by rw [← hq]; push_cast; rfl
      have hs56 : s ≤ 56 := by omega
      have hm56 : m ≤ 56 := by omega
      have hwb : IntKind.u8.wrap (q : Int) = ((b8 n t).toNat : Int) := b8_wrap (by rw [← hq, ← hs, ← hm])
      simp only [Aes.bv_int] at c0 hs1
      have HS2 := Lib.hid hs1
      have HW2 := Lib.hid hw2
      have t8i : (t : Int) < 8 := by omega
      clear hs1 hw2 hgr hwr hx0 hq hs hm hlen
      generalize (b8 n t).toNat = ya at *
      generalize x0.toNat = z0 at *
      go_wp2_with fail
      go_roundw
      case rel => exact ⟨t + 1, by omega, by go_num, HS2.out, HW2.out⟩
      case measure => simp [intOf] <;> omega
    · have ht8 : t = 8 := by omega
      subst ht8
      have HG := Lib.hid hgr
      have HW := Lib.hid hwr
      clear hgr hwr
      go_wp2_with fail
      go_ret
      exact ⟨rfl, HG.out, HW.out⟩
theorem or_zero (a b : UInt8) : a ||| b = 0 ↔ a = 0 ∧ b = 0 := by
  constructor
  · intro h
    have h1 := congrArg UInt8.toNat h
    rw [UInt8.toNat_or] at h1
    have h2 : a.toNat ||| b.toNat = 0 := h1
    have h3 : a.toNat = 0 := by have := Nat.left_le_or (n := a.toNat) (m := b.toNat); omega
    have h4 : b.toNat = 0 := by have := Nat.right_le_or (n := a.toNat) (m := b.toNat); omega
    exact ⟨UInt8.toNat_inj.1 h3, UInt8.toNat_inj.1 h4⟩
  · rintro ⟨rfl, rfl⟩; rfl
theorem u8o (a b : UInt8) : bits BinOp.or IntKind.u8 ((a.toNat : Nat) : Int) ((b.toNat : Nat) : Int) = (((a ||| b).toNat : Nat) : Int) := by
  rw [UInt8.toNat_or]
  exact u8_or_nat _ _ a.toNat_lt b.toNat_lt
set_option maxRecDepth 100000 in
set_option maxHeartbeats 2000000 in
theorem same_any (A1 A2 : Option Addr) (n c1 c2 : Nat) (l1 l2 : List UInt8) (w : World) (h1 : l1.length = n) (h2 : l2.length = n) (hn : n ≤ 1048576) (hr1 : Rd w w.heap.size A1 l1) (hr2 : Rd w w.heap.size A2 l2) :
    Calls Try.prog 62 #[.slice A1 n c1, .slice A2 n c2] w fun e w' => e = .returned (.bool (decide (l1 = l2))) ∧ Below w.heap.size w w' := by
  have HL1 := Lib.hid h1
  have HL2 := Lib.hid h2
  have HR1 := Lib.hid hr1
  have HR2 := Lib.hid hr2
  clear h1 h2 hr1 hr2
  go_enter Try.func62, Try.ntmps62
  go_wp2_with fail
  go_loopw [14, 5] (fun i ov wr => ∃ (t : Nat) (o : UInt8), t ≤ n ∧ i = .int .i64 (t : Int) ∧ ov = .int .u8 ((o.toNat : Nat) : Int) ∧ (o = 0 ↔ l1.take t = l2.take t) ∧ Below w.heap.size w wr) (fun i _ _ => 2000000 - (intOf i).toNat)
  case atStart => exact ⟨0, 0, by omega, rfl, rfl, by simp, Below.refl _ _⟩
  case round =>
    obtain ⟨t, o, ht, rfl, rfl, ho, hb⟩ := hrel
    have HB := Lib.hid hb
    have HO := Lib.hid ho
    clear hb ho
    by_cases hlt : t < n
    · obtain ⟨ad1, hA1, hab1, hc1⟩ := rd_some2 HR1.out (by rw [HL1.out]; omega)
      obtain ⟨ad2, hA2, hab2, hc2⟩ := rd_some2 HR2.out (by rw [HL2.out]; omega)
      subst hA1 hA2
      have x1 := (HB.out.cell (p := ad1.add t) (by rw [add_block]; exact hab1)).trans (hc1 t (by rw [HL1.out]; exact hlt))
      have x2 := (HB.out.cell (p := ad2.add t) (by rw [add_block]; exact hab2)).trans (hc2 t (by rw [HL2.out]; exact hlt))
      have hst : (o ||| (l1.getD t 0 ^^^ l2.getD t 0) = 0) ↔ l1.take (t + 1) = l2.take (t + 1) := by
        have g1 : l1[t]? = some (l1.getD t 0) := by rw [List.getD_eq_getElem?_getD, List.getElem?_eq_getElem (by rw [HL1.out]; exact hlt)]; rfl
        have g2 : l2[t]? = some (l2.getD t 0) := by rw [List.getD_eq_getElem?_getD, List.getElem?_eq_getElem (by rw [HL2.out]; exact hlt)]; rfl
        rw [or_zero, HO.out, UInt8.xor_eq_zero_iff, List.take_add_one, List.take_add_one, g1, g2]
        constructor
        · rintro ⟨e1, e2⟩; rw [e1, e2]
        · intro h
          have := List.append_inj' h rfl
          exact ⟨this.1, by simpa using this.2⟩
      have hx := Aes.u8x (l1.getD t 0) (l2.getD t 0)
      have ho2 := u8o o (l1.getD t 0 ^^^ l2.getD t 0)
      obtain ⟨o', ho'⟩ : ∃ o', o ||| (l1.getD t 0 ^^^ l2.getD t 0) = o' := ⟨_, rfl⟩
      rw [ho'] at hst ho2
      have HST := Lib.hid hst
      rw [Aes.bv_int] at x1 x2
      generalize (l1.getD t 0 ^^^ l2.getD t 0).toNat = z3 at *
      generalize (l1.getD t 0).toNat = z1 at *
      generalize (l2.getD t 0).toNat = z2 at *
      have hti : (t : Int) < (n : Int) := by omega
      clear hst ho' hc1 hc2
      go_wp2_with fail
      go_quiet (fail)
      go_wp2_with fail
      go_roundw
      case rel => exact ⟨t + 1, o', by omega, by go_num, rfl, HST.out, HB.out.trans (below_drewN _ _ _)⟩
      case measure => simp [intOf] <;> omega
    · have htn : t = n := by omega
      subst htn
      have ho := HO.out
      rw [List.take_of_length_le (by rw [HL1.out]; exact Nat.le_refl _), List.take_of_length_le (by rw [HL2.out]; exact Nat.le_refl _)] at ho
      have hd : (((o.toNat : Nat) : Int) == 0) = decide (l1 = l2) := by
        rw [Bool.eq_iff_iff, decide_eq_true_eq, ← ho, beq_iff_eq]
        constructor
        · intro h; exact UInt8.toNat_inj.1 (by have : o.toNat = 0 := by omega
                                               exact this)
        · rintro rfl; rfl
      have HD := Lib.hid hd
      clear ho hd HO
      go_wp2_with fail
      go_ret
      exact ⟨by rw [← HD.out]; rfl, HB.out⟩
set_option maxRecDepth 100000 in
theorem key_yes (A : Option Addr) (n c : Nat) (l : List UInt8) (w : World) (Bd : Nat) (hB : Bd ≤ w.heap.size) (hn : l.length = n) (hr : Rd w Bd A l) (hk : KeyOk l) :
    Calls Try.prog 61 #[.slice A n c] w fun e w' => e = .returned (.bool true) ∧ Below w.heap.size w w' := by
  have HN := Lib.hid hn
  have HR := Lib.hid hr
  have HK := Lib.hid hk
  clear hn hr hk
  go_enter Try.func61, Try.ntmps61
  go_wp2_with fail
  refine (Aes.new_any A n c l w Bd hB HN.out HR.out HK.out).mono ?_
  rintro e w1 ⟨g, B1, rfl, hK, hb⟩
  have HB := Lib.hid hb
  clear hb hK
  go_wp2_with fail
  go_ret
  exact ⟨rfl, HB.out⟩
set_option maxRecDepth 100000 in
theorem key_no (A : Option Addr) (n c : Nat) (l : List UInt8) (w : World) (hn : l.length = n) (hk : ¬ KeyOk l) :
    Calls Try.prog 61 #[.slice A n c] w fun e w' => e = .returned (.bool false) ∧ w = w' := by
  have HN := Lib.hid hn
  have HK := Lib.hid hk
  clear hn hk
  go_enter Try.func61, Try.ntmps61
  go_wp2_with fail
  refine (Aes.new_no A n c l w HN.out HK.out).mono ?_
  rintro e w1 ⟨rfl, rfl⟩
  go_wp2_with fail
  go_ret
  exact ⟨rfl, rfl⟩
def sizeI (n : Int) : Int := if n < 0 ∨ 65536 < n then 0 else 24 + n
theorem size_any (n : Int) (h0 : -9223372036854775808 ≤ n) (h1 : n ≤ 9223372036854775807) (w : World) :
    Calls Try.prog 37 #[.int .i64 n] w fun e w' => e = .returned (.int .i64 (sizeI n)) ∧ w = w' := by
  by_cases hb : n < 0
  · have d1 : decide (n < 0) = true := decide_eq_true hb
    have hs : sizeI n = 0 := if_pos (.inl hb)
    have HS := Lib.hid hs
    clear hs hb h0 h1
    go_enter Try.func37, Try.ntmps37
    go_wp2_with fail
    go_ret
    exact ⟨by rw [HS.out]; rfl, rfl⟩
  · have d1 : decide (n < 0) = false := decide_eq_false hb
    by_cases hb2 : 65536 < n
    · have d2 : decide (65536 < n) = true := decide_eq_true hb2
      have hs : sizeI n = 0 := if_pos (.inr hb2)
      have HS := Lib.hid hs
      clear hs hb hb2 h0 h1
      go_enter Try.func37, Try.ntmps37
      go_wp2_with fail
      go_ret
      exact ⟨by rw [HS.out]; rfl, rfl⟩
    · have d2 : decide (65536 < n) = false := decide_eq_false hb2
      obtain ⟨k, rfl⟩ := Int.eq_ofNat_of_zero_le (show 0 ≤ n by omega)
      have hs : sizeI (k : Int) = (k : Int) + 24 := by unfold sizeI; rw [if_neg (by omega)]; omega
      have HS := Lib.hid hs
      have hk : k ≤ 65536 := by omega
      clear hs hb hb2 h0 h1
      go_enter Try.func37, Try.ntmps37
      go_wp2_with fail
      go_ret
      exact ⟨by rw [HS.out]; rfl, rfl⟩
end Go.Proofs.Ytcbihjcnnfohmaa.Box
