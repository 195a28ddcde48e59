/- Sealed bytes: numbers in bytes, the comparing of tags, keys, sizes: contracts. -/
import Derived.Test.YtcbihjcnnfohmaaGreatMacB
import Derived.Test.YtcbihjcnnfohmaaGreatStrAll
import Derived.Lib.MakeNoZero
import Derived.Laws.Externs
import Derived.Deep.Draws
import Derived.Laws.BitsAllLaws
namespace Go.Proofs.YtcbihjcnnfohmaaGreat.Box
open Go Go.ChangeShapes Go.WideShapes Go.ChangeAt Go.RowKit Go.Proofs.YtcbihjcnnfohmaaGreat.Aes Go.Proofs.YtcbihjcnnfohmaaGreat.Str Go.Proofs.YtcbihjcnnfohmaaGreat.Mac
set_option linter.unusedVariables false
set_option linter.unusedSimpArgs false
def e8 (n : Nat) : Nat → List UInt8
  | 0 => List.replicate 8 0
  | t+1 => (e8 n t).set t (b8 n t)
theorem e8_length (n : Nat) : ∀ t, (e8 n t).length = 8
  | 0 => rfl
  | t+1 => by rw [e8, List.length_set, e8_length n t]
theorem e8_all (n : Nat) : e8 n 8 = be8 n := rfl
theorem b8_len (n : Nat) : (be8 n).length = 8 := by simp [be8]
set_option maxRecDepth 100000 in
set_option maxHeartbeats 2000000 in
theorem boxeight_any (n : Nat) (w : World) :
    Calls Tryz.prog 23 #[.int .i64 (n : Int)] w fun e w' => e = .returned (.slice (some ⟨w.heap.size, 0, none⟩) 8 8) ∧ Aes.RowV w' 5 w.heap.size (bvs (be8 n)) ∧ Below w.heap.size w w' := by
  go_enter Tryz.func23, Tryz.ntmps23
  go_wp2_with (with_reducible refine at_slot 5 ?_
               refine wpList_make_u8 Go.Proofs.YtcbihjcnnfohmaaGreat.u8 rfl _ _ rfl .i64 .i64 _ _ 8 8 rfl rfl rfl rfl (by omega) (by omega) ?_)
  have hg0 : Aes.RowV (w.alloc (.cells (bvs (List.replicate 8 0)).toArray 5)) 5 w.heap.size (bvs (e8 n 0)) := heap_alloc_new w _
  have hw0 : Below w.heap.size w (w.alloc (.cells (bvs (List.replicate 8 0)).toArray 5)) := (Below.refl _ _).alloc (Nat.le_refl _) _
  go_loopw [8] (fun i wr => ∃ t : Nat, t ≤ 8 ∧ i = .int .i64 (t : Int) ∧ Aes.RowV wr 5 w.heap.size (bvs (e8 n t)) ∧ Below w.heap.size w wr) (fun i _ => 8 - (intOf i).toNat)
  case atStart => exact ⟨0, by omega, rfl, hg0, hw0⟩
  case round =>
    obtain ⟨t, ht, rfl, hgr, hwr⟩ := hrel
    clear hg0 hw0
    by_cases hlt : t < 8
    · have hlen := e8_length n t
      obtain ⟨x0, hx0⟩ : ∃ x, (bvs (e8 n t))[t]? = some (bv x) := ⟨_, bvs_get (by rw [hlen]; exact hlt)⟩
      have c0 := hgr.cell hx0
      have f0 := hgr.frozen t
      have hs1 := hgr.set t (bv (b8 n t))
      rw [Aes.bvs_set, show (e8 n t).set t (b8 n t) = e8 n (t+1) from rfl] at hs1
      have hw2 := below_setCell_ hwr (p := ⟨w.heap.size, t, none⟩) (Nat.le_refl _) (.int .u8 ((b8 n t).toNat : Int))
      obtain ⟨m, hm⟩ : ∃ m, 8 * t = m := ⟨_, rfl⟩
      obtain ⟨s, hs⟩ : ∃ s, 56 - m = s := ⟨_, rfl⟩
      obtain ⟨q, hq⟩ : ∃ q, n / 2 ^ s = q := ⟨_, rfl⟩
      have a1 : 8 * (t : Int) = (m : Int) := by omega
      have a2 : 56 - (m : Int) = (s : Int) := by omega
      have a3 : (n : Int) / 2 ^ s = (q : Int) := by rw [← hq]; push_cast; rfl
      have hs56 : s ≤ 56 := by omega
      have hm56 : m ≤ 56 := by omega
      have hwb : IntKind.u8.wrap (q : Int) = ((b8 n t).toNat : Int) := b8_wrap (by rw [← hq, ← hs, ← hm])
      simp only [Aes.bv_int] at c0 hs1
      have HS2 := Lib.hid hs1
      have HW2 := Lib.hid hw2
      have t8i : (t : Int) < 8 := by omega
      clear hs1 hw2 hgr hwr hx0 hq hs hm hlen
      generalize (b8 n t).toNat = ya at *
      generalize x0.toNat = z0 at *
      go_wp2_with fail
      go_roundw
      case rel => exact ⟨t + 1, by omega, by go_num, HS2.out, HW2.out⟩
      case measure => simp [intOf] <;> omega
    · have ht8 : t = 8 := by omega
      subst ht8
      have HG := Lib.hid hgr
      have HW := Lib.hid hwr
      clear hgr hwr
      go_wp2_with fail
      go_ret
      exact ⟨rfl, HG.out, HW.out⟩
theorem or_zero (a b : UInt8) : a ||| b = 0 ↔ a = 0 ∧ b = 0 := by
  constructor
  · intro h
    have h1 := congrArg UInt8.toNat h
    rw [UInt8.toNat_or] at h1
    have h2 : a.toNat ||| b.toNat = 0 := h1
    have h3 : a.toNat = 0 := by have := Nat.left_le_or (n := a.toNat) (m := b.toNat); omega
    have h4 : b.toNat = 0 := by have := Nat.right_le_or (n := a.toNat) (m := b.toNat); omega
    exact ⟨UInt8.toNat_inj.1 h3, UInt8.toNat_inj.1 h4⟩
  · rintro ⟨rfl, rfl⟩; rfl
theorem u8o (a b : UInt8) : bits BinOp.or IntKind.u8 ((a.toNat : Nat) : Int) ((b.toNat : Nat) : Int) = (((a ||| b).toNat : Nat) : Int) := by
  rw [UInt8.toNat_or]
  exact u8_or_nat _ _ a.toNat_lt b.toNat_lt
set_option maxRecDepth 100000 in
set_option maxHeartbeats 2000000 in
theorem same_any (A1 A2 : Option Addr) (n c1 c2 : Nat) (l1 l2 : List UInt8) (w : World) (h1 : l1.length = n) (h2 : l2.length = n) (hn : n ≤ 1048576) (hr1 : Rd w w.heap.size A1 l1) (hr2 : Rd w w.heap.size A2 l2) :
    Calls Tryz.prog 30 #[.slice A1 n c1, .slice A2 n c2] w fun e w' => e = .returned (.bool (decide (l1 = l2))) ∧ Below w.heap.size w w' := by
  have HL1 := Lib.hid h1
  have HL2 := Lib.hid h2
  have HR1 := Lib.hid hr1
  have HR2 := Lib.hid hr2
  clear h1 h2 hr1 hr2
  go_enter Tryz.func30, Tryz.ntmps30
  go_wp2_with fail
  go_loopw [14, 5] (fun i ov wr => ∃ (t : Nat) (o : UInt8), t ≤ n ∧ i = .int .i64 (t : Int) ∧ ov = .int .u8 ((o.toNat : Nat) : Int) ∧ (o = 0 ↔ l1.take t = l2.take t) ∧ Below w.heap.size w wr) (fun i _ _ => 2000000 - (intOf i).toNat)
  case atStart => exact ⟨0, 0, by omega, rfl, rfl, by simp, Below.refl _ _⟩
  case round =>
    obtain ⟨t, o, ht, rfl, rfl, ho, hb⟩ := hrel
    have HB := Lib.hid hb
    have HO := Lib.hid ho
    clear hb ho
    by_cases hlt : t < n
    · obtain ⟨ad1, hA1, hab1, hc1⟩ := rd_some2 HR1.out (by rw [HL1.out]; omega)
      obtain ⟨ad2, hA2, hab2, hc2⟩ := rd_some2 HR2.out (by rw [HL2.out]; omega)
      subst hA1 hA2
      have x1 := (HB.out.cell (p := ad1.add t) (by rw [add_block]; exact hab1)).trans (hc1 t (by rw [HL1.out]; exact hlt))
      have x2 := (HB.out.cell (p := ad2.add t) (by rw [add_block]; exact hab2)).trans (hc2 t (by rw [HL2.out]; exact hlt))
      have hst : (o ||| (l1.getD t 0 ^^^ l2.getD t 0) = 0) ↔ l1.take (t + 1) = l2.take (t + 1) := by
        have g1 : l1[t]? = some (l1.getD t 0) := by rw [List.getD_eq_getElem?_getD, List.getElem?_eq_getElem (by rw [HL1.out]; exact hlt)]; rfl
        have g2 : l2[t]? = some (l2.getD t 0) := by rw [List.getD_eq_getElem?_getD, List.getElem?_eq_getElem (by rw [HL2.out]; exact hlt)]; rfl
        rw [or_zero, HO.out, UInt8.xor_eq_zero_iff, List.take_add_one, List.take_add_one, g1, g2]
        constructor
        · rintro ⟨e1, e2⟩; rw [e1, e2]
        · intro h
          have := List.append_inj' h rfl
          exact ⟨this.1, by simpa using this.2⟩
      have hx := Aes.u8x (l1.getD t 0) (l2.getD t 0)
      have ho2 := u8o o (l1.getD t 0 ^^^ l2.getD t 0)
      obtain ⟨o', ho'⟩ : ∃ o', o ||| (l1.getD t 0 ^^^ l2.getD t 0) = o' := ⟨_, rfl⟩
      rw [ho'] at hst ho2
      have HST := Lib.hid hst
      rw [Aes.bv_int] at x1 x2
      generalize (l1.getD t 0 ^^^ l2.getD t 0).toNat = z3 at *
      generalize (l1.getD t 0).toNat = z1 at *
      generalize (l2.getD t 0).toNat = z2 at *
      have hti : (t : Int) < (n : Int) := by omega
      clear hst ho' hc1 hc2
      go_wp2_with fail
      go_quiet (fail)
      go_wp2_with fail
      go_roundw
      case rel => exact ⟨t + 1, o', by omega, by go_num, rfl, HST.out, HB.out.trans (below_drewN _ _ _)⟩
      case measure => simp [intOf] <;> omega
    · have htn : t = n := by omega
      subst htn
      have ho := HO.out
      rw [List.take_of_length_le (by rw [HL1.out]; exact Nat.le_refl _), List.take_of_length_le (by rw [HL2.out]; exact Nat.le_refl _)] at ho
      have hd : (((o.toNat : Nat) : Int) == 0) = decide (l1 = l2) := by
        rw [Bool.eq_iff_iff, decide_eq_true_eq, ← ho, beq_iff_eq]
        constructor
        · intro h; exact UInt8.toNat_inj.1 (by have : o.toNat = 0 := by omega
                                               exact this)
        · rintro rfl; rfl
      have HD := Lib.hid hd
      clear ho hd HO
      go_wp2_with fail
      go_ret
      exact ⟨by rw [← HD.out]; rfl, HB.out⟩
set_option maxRecDepth 100000 in
theorem key_yes (A : Option Addr) (n c : Nat) (l : List UInt8) (w : World) (Bd : Nat) (hB : Bd ≤ w.heap.size) (hn : l.length = n) (hr : Rd w Bd A l) (hk : KeyOk l) :
    Calls Tryz.prog 29 #[.slice A n c] w fun e w' => e = .returned (.bool true) ∧ Below w.heap.size w w' := by
  have HN := Lib.hid hn
  have HR := Lib.hid hr
  have HK := Lib.hid hk
  clear hn hr hk
  go_enter Tryz.func29, Tryz.ntmps29
  go_wp2_with fail
  refine (Aes.new_any A n c l w Bd hB HN.out HR.out HK.out).mono ?_
  rintro e w1 ⟨g, B1, rfl, hK, hb⟩
  have HB := Lib.hid hb
  clear hb hK
  go_wp2_with fail
  go_ret
  exact ⟨rfl, HB.out⟩
set_option maxRecDepth 100000 in
theorem key_no (A : Option Addr) (n c : Nat) (l : List UInt8) (w : World) (hn : l.length = n) (hk : ¬ KeyOk l) :
    Calls Tryz.prog 29 #[.slice A n c] w fun e w' => e = .returned (.bool false) ∧ w = w' := by
  have HN := Lib.hid hn
  have HK := Lib.hid hk
  clear hn hk
  go_enter Tryz.func29, Tryz.ntmps29
  go_wp2_with fail
  refine (Aes.new_no A n c l w HN.out HK.out).mono ?_
  rintro e w1 ⟨rfl, rfl⟩
  go_wp2_with fail
  go_ret
  exact ⟨rfl, rfl⟩
def sizeI (n : Int) : Int := if n < 0 ∨ 65536 < n then 0 else 24 + n
theorem size_any (n : Int) (h0 : -9223372036854775808 ≤ n) (h1 : n ≤ 9223372036854775807) (w : World) :
    Calls Tryz.prog 13 #[.int .i64 n] w fun e w' => e = .returned (.int .i64 (sizeI n)) ∧ w = w' := by
  by_cases hb : n < 0
  · have d1 : decide (n < 0) = true := decide_eq_true hb
    have hs : sizeI n = 0 := if_pos (.inl hb)
    have HS := Lib.hid hs
    clear hs hb h0 h1
    go_enter Tryz.func13, Tryz.ntmps13
    go_wp2_with fail
    go_ret
    exact ⟨by rw [HS.out]; rfl, rfl⟩
  · have d1 : decide (n < 0) = false := decide_eq_false hb
    by_cases hb2 : 65536 < n
    · have d2 : decide (65536 < n) = true := decide_eq_true hb2
      have hs : sizeI n = 0 := if_pos (.inr hb2)
      have HS := Lib.hid hs
      clear hs hb hb2 h0 h1
      go_enter Tryz.func13, Tryz.ntmps13
      go_wp2_with fail
      go_ret
      exact ⟨by rw [HS.out]; rfl, rfl⟩
    · have d2 : decide (65536 < n) = false := decide_eq_false hb2
      obtain ⟨k, rfl⟩ := Int.eq_ofNat_of_zero_le (show 0 ≤ n by omega)
      have hs : sizeI (k : Int) = (k : Int) + 24 := by unfold sizeI; rw [if_neg (by omega)]; omega
      have HS := Lib.hid hs
      have hk : k ≤ 65536 := by omega
      clear hs hb hb2 h0 h1
      go_enter Tryz.func13, Tryz.ntmps13
      go_wp2_with fail
      go_ret
      exact ⟨by rw [HS.out]; rfl, rfl⟩
end Go.Proofs.YtcbihjcnnfohmaaGreat.Box

/- bytes.Join of two parts or more, without a separator; the last part is not empty: contract. -/
namespace Go.Proofs.YtcbihjcnnfohmaaGreat.Box
open Go Go.ChangeShapes Go.WideShapes Go.ChangeAt Go.RowKit Go.Proofs.YtcbihjcnnfohmaaGreat.Aes Go.Proofs.YtcbihjcnnfohmaaGreat.Str Go.Proofs.YtcbihjcnnfohmaaGreat.Mac
set_option linter.unusedVariables false
set_option linter.unusedSimpArgs false
theorem rows_from (b n c k : Nat) (ho : 1 + k = n) (hk : 0 < k) (hL : n ≤ c) (w : World) : (Instr.slice 25 (.slice (some ⟨b, 0, none⟩) n c) (some (.int .i64 1)) none none).run Tryz.prog w = .ok (.slice (some ⟨b, 1, none⟩) k (c - 1)) w := by
  have hu : Tryz.prog.underlying 25 = some (.slice (Tryz.prog.elem 25)) := by kernel_rfl
  have hz : (sizeOf (Tryz.prog.elem 25)).run Tryz.prog w = .ok 1 w := by kernel_rfl
  rw [run_slice_l w _ _ _ _ hu .i64 _ (by omega) (by omega), hz, Result.andThen_ok]
  simp [sliced, show ¬ c = 1 by omega, show n - 1 = k by omega, add_plain]
theorem bytesOf_len_step {ps : List Part} {k : Nat} (h : k < ps.length) : (bytesOf (ps.take (k+1))).length = (bytesOf (ps.take k)).length + ps[k].l.length := by
  rw [bytesOf_step ps k h, List.length_append]
theorem bytesOf_take_le (ps : List Part) (k : Nat) : (bytesOf (ps.take k)).length ≤ (bytesOf ps).length := Sha.bytes_le ps k
theorem row_copied {acc l : List UInt8} {rest : List Value} : (bvs acc ++ rest).take acc.length ++ bvs l ++ (bvs acc ++ rest).drop (acc.length + l.length) = bvs (acc ++ l) ++ rest.drop l.length := by
  rw [List.take_left' (bvs_length acc), List.drop_append, List.drop_eq_nil_of_le (by rw [bvs_length]; omega), List.nil_append, bvs_length, show acc.length + l.length - acc.length = l.length by omega, bvs_append]
set_option maxRecDepth 100000 in
set_option maxHeartbeats 4000000 in
theorem join_any (b n c : Nat) (ps : List Part) (w : World) (h2 : 2 ≤ n) (hpn : ps.length = n) (hnc : n ≤ c) (hcm : c ≤ 1048576) (hps : PartsS w (fun k => k < w.heap.size) (some ⟨b, 0, none⟩) ps) (hsz : (bytesOf ps).length ≤ 1073741824) (hlast : ∀ k, k < n → (bytesOf (ps.take k)).length < (bytesOf ps).length) :
    Calls Tryz.prog 24 #[.slice (some ⟨b, 0, none⟩) n c, .slice none 0 0] w fun e w' => ∃ g m, e = .returned (.slice (some ⟨g, 0, none⟩) m m) ∧ m = (bytesOf ps).length ∧ OwnB w' 5 w.heap.size (.slice (some ⟨g, 0, none⟩) m m) (bytesOf ps) ∧ Below w.heap.size w w' := by
  obtain ⟨N, hN⟩ : ∃ N, (bytesOf ps).length = N := ⟨_, rfl⟩
  have hcell : ∀ j (hj : j < ps.length), b < w.heap.size ∧ w.cell? ⟨b, j, none⟩ = some ps[j].val := fun j hj => by
    obtain ⟨ad, e, hb, hc⟩ := hps.at_ (by omega)
    injection e with e
    subst e
    have := hc j hj
    rw [addr_add, Nat.zero_add] at this
    exact ⟨hb, this⟩
  have HPS := Lib.hid hps
  have HC := Lib.hid hcell
  have HN := Lib.hid hN
  have HPN := Lib.hid hpn
  have HLAST := Lib.hid hlast
  have hN30 : N ≤ 1073741824 := by omega
  have hbl := (hcell 0 (by omega)).1
  have t0 : ((n : Int) == 0) = false := beq_eq_false_iff_ne.2 (by omega)
  have t1 : ((n : Int) == 1) = false := beq_eq_false_iff_ne.2 (by omega)
  obtain ⟨k1, hk1⟩ : ∃ k1, 1 + k1 = n := ⟨n - 1, by omega⟩
  have hsl := rows_from b n c k1 hk1 (by omega) hnc
  have HK1 := Lib.hid hk1
  clear hps hcell hN hpn hlast hsz hk1
  go_enter Tryz.func24, Tryz.ntmps24
  go_wp2_with fail
  clear t0 t1
  go_loop [44, 5] (fun iv sv => ∃ (i s : Nat), i ≤ n ∧ iv = .int .i64 (i : Int) ∧ sv = .int .i64 (s : Int) ∧ s = (bytesOf (ps.take i)).length) (fun iv _ => 2000000 - (intOf iv).toNat)
  case atStart => exact ⟨0, 0, by omega, rfl, rfl, by simp [bytesOf]⟩
  case round =>
    obtain ⟨i, s, hi, rfl, rfl, hs⟩ := hrel
    have HS := Lib.hid hs
    have hs30 : s ≤ 1073741824 := by have := bytesOf_take_le ps i; have := HN.out; omega
    clear hs
    by_cases hlt : i < n
    · have hip : i < ps.length := by rw [HPN.out]; exact hlt
      have x0 := (HC.out i hip).2
      have hst := bytesOf_len_step hip
      have hle := bytesOf_take_le ps (i + 1)
      obtain ⟨p1, p2, p3, _⟩ := HPS.out.part ps[i] (List.getElem_mem hip)
      rw [p1, ← HS.out] at hst
      rw [hst, HN.out] at hle
      generalize ps[i] = p at *
      obtain ⟨pA, pn, pc, pl⟩ := p
      simp only [Part.val] at x0 hst hle p1 p2 p3
      have hb : ¬ (9223372036854775807 - (s : Int) < (pn : Int)) := by omega
      have hii : (i : Int) < (n : Int) := by omega
      have HST := Lib.hid hst
      clear hst p1 p3
      go_wp2_with fail
      go_round
      case rel => exact ⟨i + 1, s + pn, by omega, by go_num, by go_num, HST.out.symm⟩
      case measure => simp [intOf] <;> omega
    · have hin : i = n := by omega
      subst hin
      have hsN : s = N := by rw [HS.out, List.take_of_length_le (by rw [HPN.out]; exact Nat.le_refl _)]; exact HN.out
      subst hsN
      obtain ⟨wo, rfl⟩ : ∃ wo : World, wo = w := ⟨_, rfl⟩
      obtain ⟨cs, hrunM, hle, _⟩ := Lib.run_makeNoZero (P := Tryz.prog) wo #[3] 22 5 Tryz.underlying22 s (by omega)
      have hcall : (callFunc 37 #[.int .i64 (s : Int)]).run Tryz.prog wo = .ok (.value (.slice (some ⟨wo.heap.size, 0, none⟩) s cs.size)) ((wo.alloc (.cells cs 5)).drewN 2) := by
        rw [run_callFunc_extern Tryz.func37 (by kernel_rfl) (by kernel_rfl) (by kernel_rfl) (e := Extern.BytealgMakeNoZero.makeNoZero #[3] #[22]) (by kernel_rfl), hrunM]
        rfl
      clear hrunM
      obtain ⟨M, hM⟩ : ∃ M, cs.size = M := ⟨_, rfl⟩
      rw [hM] at hcall hle
      have i0 : (0 : Int) ≤ (s : Int) := by omega
      have i1 : (s : Int) ≤ (M : Int) := by omega
      have hg0 : Aes.RowV ((wo.alloc (.cells cs 5)).drewN 2) 5 wo.heap.size (bvs [] ++ cs.toList) := heap_alloc_new wo _
      have hb0 : Below wo.heap.size wo ((wo.alloc (.cells cs 5)).drewN 2) := ((Below.refl _ _).alloc (Nat.le_refl _) _).trans (below_drewN _ _ _)
      generalize hW : (wo.alloc (.cells cs 5)).drewN 2 = w0 at *
      have HM := Lib.hid (show cs.toList.length = M by simpa using hM)
      have hip : 0 < ps.length := by rw [HPN.out]; omega
      have x0 := (hb0.cell (p := ⟨b, 0, none⟩) hbl).trans (HC.out 0 hip).2
      have hst := bytesOf_step ps 0 hip
      rw [List.take_zero, show bytesOf ([] : List Part) = [] from rfl, List.nil_append] at hst
      have hle0 := bytesOf_take_le ps 1
      rw [hst, HN.out] at hle0
      obtain ⟨p1, p2, p3, p4⟩ := HPS.out.part ps[0] (List.getElem_mem hip)
      generalize ps[0] = p at *
      obtain ⟨pA, pn, pc, pl⟩ := p
      simp only [Part.val] at x0 hst hle0 p1 p2 p3 p4
      have HST0 := Lib.hid hst
      have HP0 := Lib.hid ((p4.rd (B := wo.heap.size) (fun k hk => hk)).below hb0)
      have HPL0 := Lib.hid p1
      have hpn0 : pn ≤ s := by omega
      have HG0 := Lib.hid hg0
      have HB0 := Lib.hid hb0
      have hz0 := hb0.size
      clear hM hW hst p1 p3 p4 hg0 hb0 hle0
      go_wp2_with (with_reducible refine at_slot 68 ?_
                   refine wpList_copy_rd Go.Proofs.YtcbihjcnnfohmaaGreat.u8 rfl (.tmp 64) (.tmp 67) rfl wo.heap.size 0 s s pA pn pc 5 (bvs [] ++ cs.toList) pl _ rfl rfl HG0.out HP0.out HPL0.out hpn0 (by rw [List.length_append, HM.out]; simp [bvs]; omega) ?_
                   intro w1 h1 hg1
                   have h1' := (show Aes.RowV w1 5 wo.heap.size (bvs ([] ++ pl) ++ cs.toList.drop pl.length) by rw [← row_copied]; exact h1)
                   rw [List.nil_append] at h1'
                   have hb1 := HB0.out.grown hg1 hz0 (fun x hx => by injection hx with hx; omega)
                   have HG1 := Lib.hid (show Aes.RowV w1 5 wo.heap.size (bvs (bytesOf (ps.take (0 + 1))) ++ cs.toList.drop pl.length) by rw [HST0.out]; exact h1')
                   have HB1 := Lib.hid hb1
                   have hz1 := HB1.out.size
                   clear h1 hg1 h1' hb1)
      go_loopw [72, 9] (fun jv av wr => ∃ (j a : Nat) (rest : List Value), j ≤ k1 ∧ jv = .int .i64 (j : Int) ∧ av = .int .i64 (a : Int) ∧ a = (bytesOf (ps.take (j + 1))).length ∧ Aes.RowV wr 5 wo.heap.size (bvs (bytesOf (ps.take (j + 1))) ++ rest) ∧ a + rest.length = M ∧ Below wo.heap.size wo wr) (fun jv _ _ => 2000000 - (intOf jv).toNat)
      case atStart => exact ⟨0, pl.length, cs.toList.drop pl.length, by omega, rfl, rfl, by rw [HST0.out], HG1.out, by rw [List.length_drop, HM.out]; have := HPL0.out; omega, HB1.out⟩
      case round =>
        obtain ⟨j, a, rest, hj, rfl, rfl, ha, hg, hrest, hb⟩ := hrel
        clear HG1 HB1
        have HG := Lib.hid hg
        have HB := Lib.hid hb
        have HA := Lib.hid ha
        have HRE := Lib.hid hrest
        clear hg hb ha hrest
        by_cases hjk : j < k1
        · have hjp : 1 + j < ps.length := by rw [HPN.out]; have := HK1.out; omega
          have x1 := (HB.out.cell (p := ⟨b, 1 + j, none⟩) hbl).trans (HC.out (1 + j) hjp).2
          have hst := bytesOf_step ps (1 + j) hjp
          have hlt := HLAST.out (j + 1) (by have := HK1.out; omega)
          rw [HN.out, ← HA.out] at hlt
          have hle2 := bytesOf_take_le ps (1 + j + 1)
          obtain ⟨p1, p2', p3, p4⟩ := HPS.out.part ps[1 + j] (List.getElem_mem hjp)
          have ha' : (bytesOf (ps.take (1 + j))).length = a := by rw [show 1 + j = j + 1 by omega]; exact HA.out.symm
          rw [hst, List.length_append, HN.out, ha'] at hle2
          generalize hq : ps[1 + j] = p at *
          obtain ⟨qA, qn, qc, ql⟩ := p
          simp only [Part.val] at x1 hst hle2 p1 p2' p3 p4
          have HST := Lib.hid (show bytesOf (ps.take (j + 1 + 1)) = bytesOf (ps.take (j + 1)) ++ ql by rw [show j + 1 + 1 = 1 + j + 1 by omega, hst, show 1 + j = j + 1 by omega])
          have HQ := Lib.hid (p4.rd (B := wo.heap.size) (fun k hk => hk))
          have HQL := Lib.hid p1
          obtain ⟨k2, hk2⟩ : ∃ k2, a + k2 = s := ⟨s - a, by omega⟩
          have hsl1 := slice_from wo.heap.size s s a k2 hk2 (by omega) (Nat.le_refl _)
          have hqn : qn ≤ k2 := by omega
          have hji : (j : Int) < (k1 : Int) := by omega
          have HK2 := Lib.hid hk2
          have ha30 : a ≤ 1073741824 := by omega
          have haq : a + ql.length ≤ 1073741824 := by rw [p1]; omega
          have hk20 : k1 ≤ 1048576 := by have := HK1.out; omega
          have hzr := HB.out.size
          have hgr := (Aes.RowV.lt HG.out)
          clear hst hlt hle2 p1 p3 p4 hq hk2 ha'
          go_wp2_with (first
            | (with_reducible refine at_slot 81 ?_
               refine wpList_copy_rd Go.Proofs.YtcbihjcnnfohmaaGreat.u8 rfl (.tmp 79) (.tmp 80) rfl wo.heap.size a k2 (s - a) none 0 0 5 (bvs (bytesOf (ps.take (j + 1))) ++ rest) [] 0 rfl rfl HG.out (fun h => absurd h (by simp)) rfl (by omega) (by rw [List.length_append, bvs_length, ← HA.out]; omega) ?_
               intro w5 h5 hg5
               have h5' : Aes.RowV w5 5 wo.heap.size (bvs (bytesOf (ps.take (j + 1))) ++ rest) := by
                 have : (bvs (bytesOf (ps.take (j + 1))) ++ rest).take a ++ bvs [] ++ (bvs (bytesOf (ps.take (j + 1))) ++ rest).drop (a + ([] : List UInt8).length) = bvs (bytesOf (ps.take (j + 1))) ++ rest := by
                   rw [show bvs ([] : List UInt8) = [] from rfl, List.append_nil]
                   exact List.take_append_drop a _
                 rw [← this]; exact h5
               have hb5 := HB.out.grown hg5 hzr (fun x hx => by injection hx with hx; omega)
               have HG5 := Lib.hid h5'
               have HB5 := Lib.hid hb5
               have hz5 := hb5.size
               have HQ5 := Lib.hid (HQ.out.below hb5)
               clear h5 hg5 h5' hb5)
            | (with_reducible refine at_slot 88 ?_
               refine wpList_copy_rd Go.Proofs.YtcbihjcnnfohmaaGreat.u8 rfl (.tmp 86) (.tmp 87) rfl wo.heap.size a k2 (s - a) qA qn qc 5 (bvs (bytesOf (ps.take (j + 1))) ++ rest) ql _ rfl rfl HG5.out HQ5.out HQL.out hqn (by rw [List.length_append, bvs_length, ← HA.out]; have := HRE.out; have := HK2.out; omega) ?_
               intro w6 h6 hg6
               have h6' : Aes.RowV w6 5 wo.heap.size (bvs (bytesOf (ps.take (j + 1 + 1))) ++ rest.drop ql.length) := by
                 rw [HST.out, ← row_copied, ← HA.out]; exact h6
               have hb6 := HB5.out.grown hg6 hz5 (fun x hx => by injection hx with hx; omega)
               have HG6 := Lib.hid h6'
               have HB6 := Lib.hid hb6
               clear h6 hg6 h6' hb6))
          go_roundw
          case rel => exact ⟨j + 1, a + ql.length, rest.drop ql.length, by omega, by go_num, by go_num, by rw [HST.out, List.length_append, ← HA.out], HG6.out, by rw [List.length_drop]; have := HRE.out; have := HQL.out; have := HK2.out; omega, HB6.out⟩
          case measure => simp [intOf] <;> omega
        · have hjk1 : j + 1 = i := by have := HK1.out; omega
          have hall : bytesOf (ps.take (j + 1)) = bytesOf ps := by rw [List.take_of_length_le (by rw [HPN.out, hjk1]; exact Nat.le_refl _)]
          have hgf := HG.out
          rw [hall] at hgf
          have HGF := Lib.hid hgf
          have hji : ¬ (j : Int) < (k1 : Int) := by omega
          clear hgf hall hjk1
          go_wp2_with fail
          go_ret
          refine ⟨_, _, rfl, HN.out.symm, .inr ⟨wo.heap.size, 0, s, _, by rw [bvs_length, HN.out], Nat.le_refl _, HGF.out, by rw [bvs_length, HN.out]; exact Nat.le_refl _, by unfold maxLen; omega, ?_, ?_⟩, HB.out⟩
          · simp [bvs_length, HN.out]
          · simp
end Go.Proofs.YtcbihjcnnfohmaaGreat.Box

/- The tag of what is sealed so far: contract. -/
namespace Go.Proofs.YtcbihjcnnfohmaaGreat.Box
open Go Go.ChangeShapes Go.WideShapes Go.ChangeAt Go.RowKit Go.Proofs.YtcbihjcnnfohmaaGreat.Aes Go.Proofs.YtcbihjcnnfohmaaGreat.Str Go.Proofs.YtcbihjcnnfohmaaGreat.Mac
set_option linter.unusedVariables false
set_option linter.unusedSimpArgs false
/-- the tag -/
def tagL (tag about b : List UInt8) : List UInt8 := (macL tag (be8 about.length ++ (about ++ b))).take 16
theorem tagL_len (tag about b : List UInt8) : (tagL tag about b).length = 16 := by unfold tagL; rw [List.length_take, macL_len]; rfl
theorem ownv_row {w : World} {e : TypeId} {base g : Nat} {xs : List Value} (h : Aes.RowV w e g xs) (hb : base ≤ g) {n : Nat} (hn : xs.length = n) (hm : n ≤ 9223372036854775807) : OwnV w e base (.slice (some ⟨g, 0, none⟩) n n) xs := by
  subst hn
  exact .inr ⟨g, 0, xs.length, xs.toArray, rfl, hb, h, Nat.le_refl _, by simp only [maxLen]; omega, by simp, by simp⟩
set_option maxRecDepth 100000 in
set_option maxHeartbeats 4000000 in
theorem tagged_any (At : Option Addr) (nt ct : Nat) (tag : List UInt8) (Aa : Option Addr) (na ca : Nat) (about : List UInt8) (Ap : Option Addr) (np cp : Nat) (ps : List Part) (w : World)
    (htl : tag.length = nt) (ht30 : nt ≤ 1073741824) (htr : Rd w w.heap.size At tag) (hal : about.length = na) (ha30 : na ≤ 1073741824) (hac : na ≤ ca) (ham : ca ≤ 9223372036854775807) (har : Rd w w.heap.size Aa about)
    (hps : PartsS w (fun k => k < w.heap.size) Ap ps) (hpn : ps.length = np) (hp20 : np ≤ 1048576) (hsz : (bytesOf ps).length ≤ 1073741824) :
    Calls Tryz.prog 25 #[.slice At nt ct, .slice Aa na ca, .slice Ap np cp] w fun e w' => ∃ g c, e = .returned (.slice (some ⟨g, 0, none⟩) 16 c) ∧ Rd w' w'.heap.size (some ⟨g, 0, none⟩) (tagL tag about (bytesOf ps)) ∧ 16 ≤ c ∧ c ≤ 9223372036854775807 ∧ w.heap.size ≤ g ∧ Below w.heap.size w w' := by
  have HTL := Lib.hid htl
  have HTR := Lib.hid htr
  have HAL := Lib.hid hal
  have HAR := Lib.hid har
  have HPS := Lib.hid hps
  have HPN := Lib.hid hpn
  have HSZ := Lib.hid hsz
  have HAM := Lib.hid ham
  clear htl htr hal har hps hpn hsz ham
  go_enter Tryz.func25, Tryz.ntmps25
  go_wp2_with fail
  refine (boxeight_any na w).mono ?_
  rintro e w1 ⟨rfl, hg1, hb1⟩
  have hz1 : w.heap.size + 1 ≤ w1.heap.size := Aes.RowV.lt hg1
  have hO := ownv_row (w := w1.alloc (.cells #[.slice (some ⟨w.heap.size, 0, none⟩) 8 8, .slice Aa na ca] 22)) (base := w1.heap.size) (xs := [.slice (some ⟨w.heap.size, 0, none⟩) 8 8, .slice Aa na ca]) (heap_alloc_new w1 _) (Nat.le_refl _) (n := 2) rfl (by omega)
  have hba : Below w1.heap.size w1 (w1.alloc (.cells #[.slice (some ⟨w.heap.size, 0, none⟩) 8 8, .slice Aa na ca] 22)) := (Below.refl _ _).alloc (Nat.le_refl _) _
  have hpsa := HPS.out.frame (Frame.of_below (hb1.trans (hba.mono hb1.size)) (fun k hk => hk))
  have hsrc : 0 < np → ∃ ad, Ap = some ad ∧ ∀ j u, (ps.map Part.val)[j]? = some u → (w1.alloc (.cells #[.slice (some ⟨w.heap.size, 0, none⟩) 8 8, .slice Aa na ca] 22)).cell? (ad.add j) = some u := fun h0 => by
    obtain ⟨ad, e, _, hc⟩ := hpsa.at_ (by rw [HPN.out]; exact h0)
    refine ⟨ad, e, fun j u hj => ?_⟩
    rw [List.getElem?_map] at hj
    obtain ⟨p, hp, rfl⟩ := Option.map_eq_some_iff.1 hj
    obtain ⟨hlt, rfl⟩ := List.getElem?_eq_some_iff.1 hp
    exact hc j hlt
  have h1 : ∀ u ∈ ps.map Part.val, u.oneCell' = true := fun u hu => by
    obtain ⟨p, _, rfl⟩ := List.mem_map.1 hu
    exact Aes.slice_one _ _ _
  have HO := Lib.hid hO
  have HSRC := Lib.hid hsrc
  have H1 := Lib.hid h1
  have HG1 := Lib.hid hg1
  have HB1 := Lib.hid hb1
  have HBA := Lib.hid hba
  have HML := Lib.hid (show (ps.map Part.val).length = np by rw [List.length_map]; exact HPN.out)
  clear hO hsrc h1 hg1 hb1 hba hpsa
  go_wp2_with (with_reducible refine at_slot 14 ?_
               refine wpList_append_v Aes.eqv rfl (.tmp 12) (.tmp 13) rfl w1.heap.size _ [.slice (some ⟨w.heap.size, 0, none⟩) 8 8, .slice Aa na ca] _ np cp (ps.map Part.val) rfl rfl HO.out HML.out HSRC.out H1.out (by show (2 + np) * 24 ≤ _; omega) (by show 2 + np ≤ _; omega) (by simp) ?_
               intro v4 w4 hO4 hg4 hat4
               have hb14 : Below w1.heap.size w1 w4 := HBA.out.grown hg4 (by simp) (fun x hx => (HO.out.lt x hx).1)
               obtain ⟨A4, c4, hv4, hc4⟩ : ∃ A c, v4 = .slice A (2 + np) c ∧ 2 + np ≤ c := by
                 obtain ⟨A, c, e, h, _, _⟩ := hO4.len
                 rw [List.length_append, HML.out] at e h
                 exact ⟨A, c, e, h⟩
               subst hv4
               have HO4 := Lib.hid hO4
               have HB14 := Lib.hid hb14
               have hz4 := hb14.size
               clear hO4 hg4 hat4 hb14)
  have hbw4 := HB1.out.trans (HB14.out.mono HB1.out.size)
  have hq : PartsS w4 (fun k => k < w4.heap.size) A4 ((⟨some ⟨w.heap.size, 0, none⟩, 8, 8, be8 na⟩ : Part) :: ⟨Aa, na, ca, about⟩ :: ps) := by
    refine own_parts (e := 22) (base := w1.heap.size) (n := 2 + np) (c := c4) HO4.out (fun k _ h => h) (fun p hp => ?_)
    simp only [List.mem_cons] at hp
    rcases hp with rfl | rfl | hp
    · exact ⟨b8_len na, Nat.le_refl _, (by show 8 ≤ 9223372036854775807; omega), ((Aes.row_rd HG1.out).below HB14.out).s (fun k hk => by omega)⟩
    · exact ⟨HAL.out, hac, HAM.out, (HAR.out.below hbw4).s (fun k hk => by omega)⟩
    · obtain ⟨p1, p2, p3, p4⟩ := HPS.out.part p hp
      exact ⟨p1, p2, p3, (p4.frame (Frame.of_below hbw4 (fun k hk => hk))).mono (fun k hk => by omega)⟩
  have hbo : bytesOf ((⟨some ⟨w.heap.size, 0, none⟩, 8, 8, be8 na⟩ : Part) :: ⟨Aa, na, ca, about⟩ :: ps) = be8 na ++ (about ++ bytesOf ps) := by simp [bytesOf]
  refine (mac_any At nt ct tag w4 HTL.out (by omega) (rd_now HTR.out hbw4) A4 (2 + np) c4 _ hq (by simp only [List.length_cons]; rw [HPN.out]; omega) (by omega) (by rw [hbo, List.length_append, List.length_append, b8_len, HAL.out]; have := HSZ.out; omega)).mono ?_
  rw [hbo]
  rintro e w5 ⟨v5, rfl, hO5, hb5⟩
  obtain ⟨g, c5, hv5, hcn, hgb, _⟩ := own_g hO5 (macL_len _ _) (by omega)
  subst hv5
  obtain ⟨_, _, hcm⟩ := Sha.own_len hO5
  have hr5 := (own_rd hO5).take 16
  have hsl := slice_to g 0 32 c5 16 (by omega) (by omega)
  have HR5 := Lib.hid (show Rd w5 w5.heap.size (some ⟨g, 0, none⟩) (tagL tag about (bytesOf ps)) by unfold tagL; rw [HAL.out]; exact hr5)
  have HB5 := Lib.hid (hbw4.trans (hb5.mono hbw4.size))
  have HC5 := Lib.hid (And.intro hcn hcm)
  have hgw : w.heap.size ≤ g := by have := hbw4.size; omega
  clear hO5 hr5 hb5 hbw4 hq hbo hcn hcm
  go_wp2_with fail
  go_ret
  exact ⟨g, c5, rfl, HR5.out, by have := HC5.out.1; omega, HC5.out.2, hgw, HB5.out⟩
end Go.Proofs.YtcbihjcnnfohmaaGreat.Box

/- Sealing: contracts. -/
namespace Go.Proofs.YtcbihjcnnfohmaaGreat.Box
open Go Go.ChangeShapes Go.WideShapes Go.ChangeAt Go.RowKit Go.Proofs.YtcbihjcnnfohmaaGreat.Aes Go.Proofs.YtcbihjcnnfohmaaGreat.Str Go.Proofs.YtcbihjcnnfohmaaGreat.Mac
set_option linter.unusedVariables false
set_option linter.unusedSimpArgs false
/-- sealed bytes -/
def sealL (enc tag : List UInt8) (nonce : Nat) (about p : List UInt8) : List UInt8 :=
  be8 nonce ++ (xorS enc nonce 0 p ++ tagL tag about (be8 nonce ++ xorS enc nonce 0 p))
theorem sealL_len (enc tag : List UInt8) (nonce : Nat) (about p : List UInt8) : (sealL enc tag nonce about p).length = 24 + p.length := by
  unfold sealL
  rw [List.length_append, List.length_append, b8_len, xorS_length, tagL_len]; omega
set_option maxRecDepth 100000 in
set_option maxHeartbeats 4000000 in
theorem seal_yes (Ae : Option Addr) (ne ce : Nat) (enc : List UInt8) (At : Option Addr) (nt ct : Nat) (tag : List UInt8) (nonce : Nat) (Aa : Option Addr) (na ca : Nat) (about : List UInt8) (Ap : Option Addr) (np cp : Nat) (p : List UInt8) (w : World)
    (hel : enc.length = ne) (her : Rd w w.heap.size Ae enc) (hk : KeyOk enc) (htl : tag.length = nt) (ht30 : nt ≤ 1073741824) (htr : Rd w w.heap.size At tag) (hnc : nonce < 9223372036854775808)
    (hal : about.length = na) (ha30 : na ≤ 1073741824) (hac : na ≤ ca) (ham : ca ≤ 9223372036854775807) (har : Rd w w.heap.size Aa about) (hpl : p.length = np) (hp6 : np ≤ 65536) (hpr : Rd w w.heap.size Ap p) :
    Calls Tryz.prog 9 #[.slice Ae ne ce, .slice At nt ct, .int .i64 (nonce : Int), .slice Aa na ca, .slice Ap np cp] w fun e w' => ∃ g m, e = .returned (.tuple #[.slice (some ⟨g, 0, none⟩) m m, .int .i64 0]) ∧ m = 24 + np ∧ OwnB w' 5 w.heap.size (.slice (some ⟨g, 0, none⟩) m m) (sealL enc tag nonce about p) ∧ Below w.heap.size w w' := by
  have HEL := Lib.hid hel
  have HER := Lib.hid her
  have HK := Lib.hid hk
  have HTL := Lib.hid htl
  have HTR := Lib.hid htr
  have HNC := Lib.hid hnc
  have HAL := Lib.hid hal
  have HAR := Lib.hid har
  have HPL := Lib.hid hpl
  have HPR := Lib.hid hpr
  have HAM := Lib.hid ham
  clear hel her hk htl htr hnc hal har hpl hpr ham
  go_enter Tryz.func9, Tryz.ntmps9
  go_wp2_with fail
  refine (xor_yes Ae ne ce enc Ap np cp p nonce 0 HNC.out (by omega) w HEL.out HER.out HK.out HPL.out hp6 HPR.out).mono ?_
  rintro e w1 ⟨v1, rfl, hO1, hb1⟩
  obtain ⟨A1, c1, hv1, hr1, hc1⟩ := hO1.form
  obtain ⟨_, _, hcm1⟩ := Sha.own_len (show Own w1 5 w.heap.size (.slice A1 (xorS enc nonce 0 p).length c1) (xorS enc nonce 0 p) by rw [← hv1]; exact hO1)
  rw [xorS_length, HPL.out] at hv1 hc1
  subst hv1
  have hz1 := hb1.size
  have HB1 := Lib.hid hb1
  have HR1 := Lib.hid hr1
  obtain ⟨C, hC⟩ : ∃ C, xorS enc nonce 0 p = C := ⟨_, rfl⟩
  have HCE := Lib.hid hC
  have HCL := Lib.hid (show C.length = np by rw [← hC, xorS_length]; exact HPL.out)
  rw [hC] at HR1
  clear hO1 hb1 hr1 hC
  go_wp2_with fail
  refine (boxeight_any nonce w1).mono ?_
  rintro e w2 ⟨rfl, hg2, hb2⟩
  have hz2 : w1.heap.size + 1 ≤ w2.heap.size := Aes.RowV.lt hg2
  have HG2 := Lib.hid (Aes.row_rd hg2)
  have HR2 := Lib.hid (HR1.out.below hb2)
  have HB2 := Lib.hid (HB1.out.trans (hb2.mono hz1))
  have HCM := Lib.hid hcm1
  clear hg2 hb2 hcm1
  go_wp2_with fail
  have hq3 := parts_new (w := w2) (S := fun k => k < w2.heap.size) (T' := fun x => x < (w2.alloc (.cells #[.slice (some ⟨w1.heap.size, 0, none⟩) 8 8, .slice A1 np c1] 22)).heap.size) 22 [(⟨some ⟨w1.heap.size, 0, none⟩, 8, 8, be8 nonce⟩ : Part), ⟨A1, np, c1, C⟩]
    (by
      intro q hq
      simp only [List.mem_cons, List.not_mem_nil, or_false] at hq
      rcases hq with rfl | rfl
      · exact ⟨b8_len _, Nat.le_refl _, (by show 8 ≤ 9223372036854775807; omega), HG2.out.s (fun _ h => h)⟩
      · exact ⟨HCL.out, hc1, HCM.out, HR2.out.s (fun k hk => by omega)⟩) (fun _ h => h) (by simp) (fun x hx => by simp; omega)
  have hba : Below w2.heap.size w2 (w2.alloc (.cells #[.slice (some ⟨w1.heap.size, 0, none⟩) 8 8, .slice A1 np c1] 22)) := (Below.refl _ _).alloc (Nat.le_refl _) _
  have hbwa := HB2.out.trans (hba.mono HB2.out.size)
  have hboc : bytesOf [(⟨some ⟨w1.heap.size, 0, none⟩, 8, 8, be8 nonce⟩ : Part), ⟨A1, np, c1, C⟩] = be8 nonce ++ C := by simp [bytesOf]
  refine (tagged_any At nt ct tag Aa na ca about _ 2 2 _ _ HTL.out ht30 (rd_now HTR.out hbwa) HAL.out ha30 hac HAM.out (rd_now HAR.out hbwa) hq3 rfl (by omega) (by rw [hboc, List.length_append, b8_len, HCL.out]; omega)).mono ?_
  rw [hboc]
  rintro e w3 ⟨g3, c3, rfl, hr3, hcn3, hcm3, hgb3, hb3⟩
  have hz3 : w2.heap.size + 1 ≤ w3.heap.size := by have := hb3.size; simpa using this
  have hb23 : Below w2.heap.size w2 w3 := hba.trans (hb3.mono (by simp))
  have HB3 := Lib.hid (HB2.out.trans (hb23.mono HB2.out.size))
  have HG3 := Lib.hid ((HG2.out.below hb23).more (by omega : w2.heap.size ≤ w3.heap.size))
  have HC3 := Lib.hid ((HR2.out.below (hb23.mono (by omega : w1.heap.size ≤ w2.heap.size))).more (by omega : w1.heap.size ≤ w3.heap.size))
  have HR3 := Lib.hid hr3
  have HN3 := Lib.hid (And.intro hcn3 hcm3)
  clear hq3 hba hbwa hboc hr3 hcn3 hcm3 hb3 hb23
  go_wp2_with fail
  obtain ⟨TG, hTG⟩ : ∃ TG, tagL tag about (be8 nonce ++ C) = TG := ⟨_, rfl⟩
  have HTG := Lib.hid hTG
  have HTGL := Lib.hid (show TG.length = 16 by rw [← hTG]; exact tagL_len _ _ _)
  rw [hTG] at HR3
  have hq4 := parts_new (w := w3) (S := fun k => k < w3.heap.size) (T' := fun x => x < (w3.alloc (.cells #[.slice (some ⟨w1.heap.size, 0, none⟩) 8 8, .slice A1 np c1, .slice (some ⟨g3, 0, none⟩) 16 c3] 22)).heap.size) 22 [(⟨some ⟨w1.heap.size, 0, none⟩, 8, 8, be8 nonce⟩ : Part), ⟨A1, np, c1, C⟩, ⟨some ⟨g3, 0, none⟩, 16, c3, TG⟩]
    (by
      intro q hq
      simp only [List.mem_cons, List.not_mem_nil, or_false] at hq
      rcases hq with rfl | rfl | rfl
      · exact ⟨b8_len _, Nat.le_refl _, (by show 8 ≤ 9223372036854775807; omega), HG3.out.s (fun _ h => h)⟩
      · exact ⟨HCL.out, hc1, HCM.out, HC3.out.s (fun _ h => h)⟩
      · exact ⟨HTGL.out, HN3.out.1, HN3.out.2, HR3.out.s (fun _ h => h)⟩) (fun _ h => h) (by simp) (fun x hx => by simp; omega)
  have hboj : bytesOf [(⟨some ⟨w1.heap.size, 0, none⟩, 8, 8, be8 nonce⟩ : Part), ⟨A1, np, c1, C⟩, ⟨some ⟨g3, 0, none⟩, 16, c3, TG⟩] = be8 nonce ++ (C ++ TG) := by simp [bytesOf]
  have htot : (be8 nonce ++ (C ++ TG)).length = 24 + np := by rw [List.length_append, List.length_append, b8_len, HCL.out, HTGL.out]; omega
  refine (join_any w3.heap.size 3 3 _ _ (by omega) rfl (Nat.le_refl _) (by omega) hq4 (by rw [hboj, htot]; omega) (fun k hk => by
    rw [hboj, htot]
    have : k = 0 ∨ k = 1 ∨ k = 2 := by omega
    rcases this with rfl | rfl | rfl
    · simp [bytesOf] <;> omega
    · simp [bytesOf, b8_len] <;> omega
    · simp [bytesOf, b8_len, HCL.out] <;> omega)).mono ?_
  rw [hboj, htot]
  rintro e w4 ⟨g4, m4, rfl, hm4, hO4, hb4⟩
  subst hm4
  have hb34 : Below w3.heap.size w3 w4 := ((Below.refl _ _).alloc (Nat.le_refl _) _).trans (hb4.mono (by simp))
  have HB4 := Lib.hid (HB3.out.trans (hb34.mono HB3.out.size))
  have HO4 := Lib.hid (show OwnB w4 5 w.heap.size (.slice (some ⟨g4, 0, none⟩) (24 + np) (24 + np)) (sealL enc tag nonce about p) by
    unfold sealL
    rw [HCE.out, HTG.out]
    exact OwnV.mono hO4 (fun k hk => Nat.le_trans (Nat.le_trans HB3.out.size (by simp)) (OwnV.lt hO4 k hk).1))
  clear hq4 hboj htot hO4 hb4 hb34
  go_wp2_with fail
  go_ret2
  exact ⟨g4, _, rfl, rfl, HO4.out, HB4.out⟩
set_option maxRecDepth 100000 in
set_option maxHeartbeats 1000000 in
theorem seal_no1 (Ae : Option Addr) (ne ce : Nat) (enc : List UInt8) (At : Option Addr) (nt ct : Nat) (nonce : Int) (Aa : Option Addr) (na ca : Nat) (Ap : Option Addr) (np cp : Nat) (w : World)
    (hel : enc.length = ne) (her : Rd w w.heap.size Ae enc) (hnm : nonce < 9223372036854775808) (h : ¬ KeyOk enc ∨ nonce < 0) :
    Calls Tryz.prog 9 #[.slice Ae ne ce, .slice At nt ct, .int .i64 nonce, .slice Aa na ca, .slice Ap np cp] w fun e w' => e = .returned (.tuple #[.slice none 0 0, .int .i64 1]) ∧ Below w.heap.size w w' := by
  have HEL := Lib.hid hel
  have HER := Lib.hid her
  have H := Lib.hid (show ¬ KeyOk enc ∨ nonce < 0 ∨ (0 : Int) < 0 from h.imp id .inl)
  have HNM := Lib.hid hnm
  clear hel her h hnm
  go_enter Tryz.func9, Tryz.ntmps9
  go_wp2_with fail
  refine (xor_no1 Ae ne ce enc Ap np cp nonce 0 w HEL.out HER.out HNM.out H.out).mono ?_
  rintro e w1 ⟨rfl, hb1⟩
  have HB1 := Lib.hid hb1
  clear hb1
  go_wp2_with fail
  go_ret2
  exact ⟨rfl, HB1.out⟩
set_option maxRecDepth 100000 in
set_option maxHeartbeats 1000000 in
theorem seal_no2 (Ae : Option Addr) (ne ce : Nat) (enc : List UInt8) (At : Option Addr) (nt ct : Nat) (nonce : Nat) (Aa : Option Addr) (na ca : Nat) (Ap : Option Addr) (np cp : Nat) (w : World)
    (hel : enc.length = ne) (her : Rd w w.heap.size Ae enc) (hk : KeyOk enc) (hnm : nonce < 9223372036854775808) (h : 65536 < np) :
    Calls Tryz.prog 9 #[.slice Ae ne ce, .slice At nt ct, .int .i64 (nonce : Int), .slice Aa na ca, .slice Ap np cp] w fun e w' => e = .returned (.tuple #[.slice none 0 0, .int .i64 2]) ∧ Below w.heap.size w w' := by
  have HEL := Lib.hid hel
  have HER := Lib.hid her
  have HK := Lib.hid hk
  have HNM := Lib.hid hnm
  have H := Lib.hid h
  clear hel her h hnm hk
  go_enter Tryz.func9, Tryz.ntmps9
  go_wp2_with fail
  refine (xor_no2 Ae ne ce enc Ap np cp nonce 0 w HEL.out HER.out HK.out (by have := HNM.out; omega) (.inl H.out)).mono ?_
  rintro e w1 ⟨rfl, hb1⟩
  have HB1 := Lib.hid hb1
  clear hb1
  go_wp2_with fail
  go_ret2
  exact ⟨rfl, HB1.out⟩
end Go.Proofs.YtcbihjcnnfohmaaGreat.Box

/- Numbers in eight bytes and back; what is sealed is opened: plain. -/
namespace Go.Proofs.YtcbihjcnnfohmaaGreat.Box
open Go Go.ChangeShapes Go.WideShapes Go.ChangeAt Go.RowKit Go.Proofs.YtcbihjcnnfohmaaGreat.Aes Go.Proofs.YtcbihjcnnfohmaaGreat.Str Go.Proofs.YtcbihjcnnfohmaaGreat.Mac
set_option linter.unusedVariables false
set_option linter.unusedSimpArgs false
def num (l : List UInt8) : Nat := l.foldl (fun a c => 256 * a + c.toNat) 0
theorem num_step {l : List UInt8} {i : Nat} (h : i < l.length) : num (l.take (i + 1)) = 256 * num (l.take i) + (l.getD i 0).toNat := by
  unfold num
  rw [List.take_succ_eq_append_getElem h, List.foldl_append, List.getD_eq_getElem?_getD, List.getElem?_eq_getElem h]
  rfl
theorem num_lt (l : List UInt8) : ∀ i, i ≤ l.length → num (l.take i) < 256 ^ i
  | 0, _ => by simp [num]
  | i+1, h => by
    rw [num_step (by omega), Nat.pow_succ]
    have := num_lt l i (by omega)
    have h2 := (l.getD i 0).toNat_lt
    have h3 : 256 * num (l.take i) + 256 ≤ 256 * 256 ^ i := by
      have : 256 * (num (l.take i) + 1) ≤ 256 * 256 ^ i := Nat.mul_le_mul_left 256 this
      omega
    omega
theorem num_of (a b c d e f g h : UInt8) : num [a, b, c, d, e, f, g, h] = ((((((a.toNat * 256 + b.toNat) * 256 + c.toNat) * 256 + d.toNat) * 256 + e.toNat) * 256 + f.toNat) * 256 + g.toNat) * 256 + h.toNat := by
  unfold num
  simp only [List.foldl]
  omega
theorem be8_list (n : Nat) : be8 n = [UInt8.ofNat (n / 72057594037927936), UInt8.ofNat (n / 281474976710656), UInt8.ofNat (n / 1099511627776), UInt8.ofNat (n / 4294967296), UInt8.ofNat (n / 16777216), UInt8.ofNat (n / 65536), UInt8.ofNat (n / 256), UInt8.ofNat n] := by
  simp [be8, b8, List.range_succ]
theorem num_be8 {n : Nat} (h : n < 18446744073709551616) : num (be8 n) = n := by
  rw [be8_list, num_of]
  simp only [UInt8.toNat_ofNat']
  omega
theorem be8_num {l : List UInt8} (h : l.length = 8) : be8 (num l) = l := by
  obtain ⟨a, b, c, d, e, f, g, x, rfl⟩ : ∃ a b c d e f g x, l = [a, b, c, d, e, f, g, x] := by
    match l, h with
    | [a, b, c, d, e, f, g, x], _ => exact ⟨a, b, c, d, e, f, g, x, rfl⟩
  rw [be8_list, num_of]
  have ha := a.toNat_lt
  have hb := b.toNat_lt
  have hc := c.toNat_lt
  have hd := d.toNat_lt
  have he := e.toNat_lt
  have hf := f.toNat_lt
  have hg := g.toNat_lt
  have hx := x.toNat_lt
  have key : ∀ (m : Nat) (y : UInt8), m % 256 = y.toNat → UInt8.ofNat m = y := fun m y h => UInt8.toNat_inj.1 (by rw [UInt8.toNat_ofNat']; exact h)
  rw [key _ a (by omega), key _ b (by omega), key _ c (by omega), key _ d (by omega), key _ e (by omega), key _ f (by omega), key _ g (by omega), key _ x (by omega)]
theorem or_step (a c : Nat) (ha : a < 72057594037927936) (hc : c < 256) : bits BinOp.or IntKind.u64 ((256 * a : Nat) : Int) ((c : Nat) : Int) = ((256 * a + c : Nat) : Int) := by
  rw [u64_or_nat _ _ (by omega) (by omega)]
  congr 1
  exact (Nat.two_pow_add_eq_or_of_lt (i := 8) (show c < 2 ^ 8 by omega) a).symm
/-- what opens: the body, the tag's place, the nonce's bytes -/
def bodyL (b : List UInt8) : List UInt8 := b.take (b.length - 16)
def endL (b : List UInt8) : List UInt8 := b.drop (b.length - 16)
def Opens (tag about b : List UInt8) : Prop := tagL tag about (bodyL b) = endL b ∧ num ((bodyL b).take 8) ≤ 9223372036854775807
theorem body_seal (enc tag : List UInt8) (nonce : Nat) (about p : List UInt8) : bodyL (sealL enc tag nonce about p) = be8 nonce ++ xorS enc nonce 0 p ∧ endL (sealL enc tag nonce about p) = tagL tag about (be8 nonce ++ xorS enc nonce 0 p) := by
  unfold bodyL endL
  rw [sealL_len, show 24 + p.length - 16 = (be8 nonce ++ xorS enc nonce 0 p).length by rw [List.length_append, b8_len, xorS_length]; omega]
  unfold sealL
  rw [← List.append_assoc]
  exact ⟨List.take_left, List.drop_left⟩
theorem num_seal {enc tag : List UInt8} {nonce : Nat} {about p : List UInt8} (h : nonce < 9223372036854775808) : num ((bodyL (sealL enc tag nonce about p)).take 8) = nonce ∧ (bodyL (sealL enc tag nonce about p)).drop 8 = xorS enc nonce 0 p := by
  rw [(body_seal enc tag nonce about p).1, List.take_left' (b8_len nonce), List.drop_left' (b8_len nonce)]
  exact ⟨num_be8 (by omega), rfl⟩
/-- what was sealed opens -/
theorem opens_seal {enc tag : List UInt8} {nonce : Nat} {about p : List UInt8} (h : nonce < 9223372036854775808) : Opens tag about (sealL enc tag nonce about p) := by
  refine ⟨?_, ?_⟩
  · rw [(body_seal enc tag nonce about p).1, (body_seal enc tag nonce about p).2]
  · rw [(num_seal h).1]; omega
/-- what opens was sealed so -/
theorem seal_opens {enc tag about b : List UInt8} (h : Opens tag about b) (hl : 24 ≤ b.length) : sealL enc tag (num ((bodyL b).take 8)) about (xorS enc (num ((bodyL b).take 8)) 0 ((bodyL b).drop 8)) = b := by
  have hb : (bodyL b).length = b.length - 16 := by unfold bodyL; rw [List.length_take]; omega
  unfold sealL
  rw [xorS_twice, be8_num (by rw [List.length_take]; omega), List.take_append_drop, h.1, ← List.append_assoc, List.take_append_drop]
  exact List.take_append_drop _ _
end Go.Proofs.YtcbihjcnnfohmaaGreat.Box
