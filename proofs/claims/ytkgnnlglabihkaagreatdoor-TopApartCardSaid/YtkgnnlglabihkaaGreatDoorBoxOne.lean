/- Sealed bytes: numbers in bytes, the comparing of tags, keys, sizes: contracts. -/
import Derived.Test.YtkgnnlglabihkaaGreatDoorMacB
import Derived.Test.YtkgnnlglabihkaaGreatDoorStrAll
import Derived.Lib.MakeNoZero
import Derived.Laws.Externs
import Derived.Deep.Draws
namespace Go.Proofs.YtkgnnlglabihkaaGreatDoor.Box
open Go Go.ChangeShapes Go.WideShapes Go.ChangeAt Go.RowKit Go.Proofs.YtkgnnlglabihkaaGreatDoor.Aes Go.Proofs.YtkgnnlglabihkaaGreatDoor.Str Go.Proofs.YtkgnnlglabihkaaGreatDoor.Mac
set_option linter.unusedVariables false
set_option linter.unusedSimpArgs false
def e8 (n : Nat) : Nat → List UInt8
  | 0 => List.replicate 8 0
  | t+1 => (e8 n t).set t (b8 n t)
theorem e8_length (n : Nat) : ∀ t, (e8 n t).length = 8
  | 0 => rfl
  | t+1 => by rw [e8, List.length_set, e8_length n t]
theorem e8_all (n : Nat) : e8 n 8 = be8 n := rfl
theorem b8_len (n : Nat) : (be8 n).length = 8 := by simp [be8]
theorem or_zero (a b : UInt8) : a ||| b = 0 ↔ a = 0 ∧ b = 0 := by
  constructor
  · intro h
    have h1 := congrArg UInt8.toNat h
    rw [UInt8.toNat_or] at h1
    have h2 : a.toNat ||| b.toNat = 0 := h1
    have h3 : a.toNat = 0 := by have := Nat.left_le_or (n := a.toNat) (m := b.toNat); omega
    have h4 : b.toNat = 0 := by have := Nat.right_le_or (n := a.toNat) (m := b.toNat); omega
    exact ⟨UInt8.toNat_inj.1 h3, UInt8.toNat_inj.1 h4⟩
  · rintro ⟨rfl, rfl⟩; rfl
theorem u8o (a b : UInt8) : bits BinOp.or IntKind.u8 ((a.toNat : Nat) : Int) ((b.toNat : Nat) : Int) = (((a ||| b).toNat : Nat) : Int) := by
  rw [UInt8.toNat_or]
  exact u8_or_nat _ _ a.toNat_lt b.toNat_lt
def sizeI (n : Int) : Int := if n < 0 ∨ 65536 < n then 0 else 24 + n
end Go.Proofs.YtkgnnlglabihkaaGreatDoor.Box

/- bytes.Join of two parts or more, without a separator; the last part is not empty: contract. -/
namespace Go.Proofs.YtkgnnlglabihkaaGreatDoor.Box
open Go Go.ChangeShapes Go.WideShapes Go.ChangeAt Go.RowKit Go.Proofs.YtkgnnlglabihkaaGreatDoor.Aes Go.Proofs.YtkgnnlglabihkaaGreatDoor.Str Go.Proofs.YtkgnnlglabihkaaGreatDoor.Mac
set_option linter.unusedVariables false
set_option linter.unusedSimpArgs false
theorem rows_from (b n c k : Nat) (ho : 1 + k = n) (hk : 0 < k) (hL : n ≤ c) (w : World) : (Instr.slice 110 (.slice (some ⟨b, 0, none⟩) n c) (some (.int .i64 1)) none none).run Tryz.prog w = .ok (.slice (some ⟨b, 1, none⟩) k (c - 1)) w := by
  have hu : Tryz.prog.underlying 110 = some (.slice (Tryz.prog.elem 110)) := by kernel_rfl
  have hz : (sizeOf (Tryz.prog.elem 110)).run Tryz.prog w = .ok 1 w := by kernel_rfl
  rw [run_slice_l w _ _ _ _ hu .i64 _ (by omega) (by omega), hz, Result.andThen_ok]
  simp [sliced, show ¬ c = 1 by omega, show n - 1 = k by omega, add_plain]
theorem bytesOf_len_step {ps : List Part} {k : Nat} (h : k < ps.length) : (bytesOf (ps.take (k+1))).length = (bytesOf (ps.take k)).length + ps[k].l.length := by
  rw [bytesOf_step ps k h, List.length_append]
theorem bytesOf_take_le (ps : List Part) (k : Nat) : (bytesOf (ps.take k)).length ≤ (bytesOf ps).length := Sha.bytes_le ps k
theorem row_copied {acc l : List UInt8} {rest : List Value} : (bvs acc ++ rest).take acc.length ++ bvs l ++ (bvs acc ++ rest).drop (acc.length + l.length) = bvs (acc ++ l) ++ rest.drop l.length := by
  rw [List.take_left' (bvs_length acc), List.drop_append, List.drop_eq_nil_of_le (by rw [bvs_length]; omega), List.nil_append, bvs_length, show acc.length + l.length - acc.length = l.length by omega, bvs_append]
set_option maxRecDepth 100000 in
set_option maxHeartbeats 4000000 in
theorem join_any (b n c : Nat) (ps : List Part) (w : World) (h2 : 2 ≤ n) (hpn : ps.length = n) (hnc : n ≤ c) (hcm : c ≤ 1048576) (hps : PartsS w (fun k => k < w.heap.size) (some ⟨b, 0, none⟩) ps) (hsz : (bytesOf ps).length ≤ 1073741824) (hlast : ∀ k, k < n → (bytesOf (ps.take k)).length < (bytesOf ps).length) :
    Calls Tryz.prog 54 #[.slice (some ⟨b, 0, none⟩) n c, .slice none 0 0] w fun e w' => ∃ g m, e = .returned (.slice (some ⟨g, 0, none⟩) m m) ∧ m = (bytesOf ps).length ∧ OwnB w' 5 w.heap.size (.slice (some ⟨g, 0, none⟩) m m) (bytesOf ps) ∧ Below w.heap.size w w' := by
  obtain ⟨N, hN⟩ : ∃ N, (bytesOf ps).length = N := ⟨_, rfl⟩
  have hcell : ∀ j (hj : j < ps.length), b < w.heap.size ∧ w.cell? ⟨b, j, none⟩ = some ps[j].val := fun j hj => by
    obtain ⟨ad, e, hb, hc⟩ := hps.at_ (by omega)
    injection e with e
    subst e
    have := hc j hj
    rw [addr_add, Nat.zero_add] at this
    exact ⟨hb, this⟩
  have HPS := Lib.hid hps
  have HC := Lib.hid hcell
  have HN := Lib.hid hN
  have HPN := Lib.hid hpn
  have HLAST := Lib.hid hlast
  have hN30 : N ≤ 1073741824 := by omega
  have hbl := (hcell 0 (by omega)).1
  have t0 : ((n : Int) == 0) = false := beq_eq_false_iff_ne.2 (by omega)
  have t1 : ((n : Int) == 1) = false := beq_eq_false_iff_ne.2 (by omega)
  obtain ⟨k1, hk1⟩ : ∃ k1, 1 + k1 = n := ⟨n - 1, by omega⟩
  have hsl := rows_from b n c k1 hk1 (by omega) hnc
  have HK1 := Lib.hid hk1
  clear hps hcell hN hpn hlast hsz hk1
  go_enter Tryz.func54, Tryz.ntmps54
  go_wp2_with fail
  clear t0 t1
  go_loop [44, 5] (fun iv sv => ∃ (i s : Nat), i ≤ n ∧ iv = .int .i64 (i : Int) ∧ sv = .int .i64 (s : Int) ∧ s = (bytesOf (ps.take i)).length) (fun iv _ => 2000000 - (intOf iv).toNat)
  case atStart => exact ⟨0, 0, by omega, rfl, rfl, by simp [bytesOf]⟩
  case round =>
    obtain ⟨i, s, hi, rfl, rfl, hs⟩ := hrel
    have HS := Lib.hid hs
    have hs30 : s ≤ 1073741824 := by have := bytesOf_take_le ps i; have := HN.out; omega
    clear hs
    by_cases hlt : i < n
    · have hip : i < ps.length := by rw [HPN.out]; exact hlt
      have x0 := (HC.out i hip).2
      have hst := bytesOf_len_step hip
      have hle := bytesOf_take_le ps (i + 1)
      obtain ⟨p1, p2, p3, _⟩ := HPS.out.part ps[i] (List.getElem_mem hip)
      rw [p1, ← HS.out] at hst
      rw [hst, HN.out] at hle
      generalize ps[i] = p at *
      obtain ⟨pA, pn, pc, pl⟩ := p
      simp only [Part.val] at x0 hst hle p1 p2 p3
      have hb : ¬ (9223372036854775807 - (s : Int) < (pn : Int)) := by omega
      have hii : (i : Int) < (n : Int) := by omega
      have HST := Lib.hid hst
      clear hst p1 p3
      go_wp2_with fail
      go_round
      case rel => exact ⟨i + 1, s + pn, by omega, by go_num, by go_num, HST.out.symm⟩
      case measure => simp [intOf] <;> omega
    · have hin : i = n := by omega
      subst hin
      have hsN : s = N := by rw [HS.out, List.take_of_length_le (by rw [HPN.out]; exact Nat.le_refl _)]; exact HN.out
      subst hsN
      obtain ⟨wo, rfl⟩ : ∃ wo : World, wo = w := ⟨_, rfl⟩
      obtain ⟨cs, hrunM, hle, _⟩ := Lib.run_makeNoZero (P := Tryz.prog) wo #[3] 22 5 Tryz.underlying22 s (by omega)
      have hcall : (callFunc 75 #[.int .i64 (s : Int)]).run Tryz.prog wo = .ok (.value (.slice (some ⟨wo.heap.size, 0, none⟩) s cs.size)) ((wo.alloc (.cells cs 5)).drewN 2) := by
        rw [run_callFunc_extern Tryz.func75 (by kernel_rfl) (by kernel_rfl) (by kernel_rfl) (e := Extern.BytealgMakeNoZero.makeNoZero #[3] #[22]) (by kernel_rfl), hrunM]
        rfl
      clear hrunM
      obtain ⟨M, hM⟩ : ∃ M, cs.size = M := ⟨_, rfl⟩
      rw [hM] at hcall hle
      have i0 : (0 : Int) ≤ (s : Int) := by omega
      have i1 : (s : Int) ≤ (M : Int) := by omega
      have hg0 : Aes.RowV ((wo.alloc (.cells cs 5)).drewN 2) 5 wo.heap.size (bvs [] ++ cs.toList) := heap_alloc_new wo _
      have hb0 : Below wo.heap.size wo ((wo.alloc (.cells cs 5)).drewN 2) := ((Below.refl _ _).alloc (Nat.le_refl _) _).trans (below_drewN _ _ _)
      generalize hW : (wo.alloc (.cells cs 5)).drewN 2 = w0 at *
      have HM := Lib.hid (show cs.toList.length = M by simpa using hM)
      have hip : 0 < ps.length := by rw [HPN.out]; omega
      have x0 := (hb0.cell (p := ⟨b, 0, none⟩) hbl).trans (HC.out 0 hip).2
      have hst := bytesOf_step ps 0 hip
      rw [List.take_zero, show bytesOf ([] : List Part) = [] from rfl, List.nil_append] at hst
      have hle0 := bytesOf_take_le ps 1
      rw [hst, HN.out] at hle0
      obtain ⟨p1, p2, p3, p4⟩ := HPS.out.part ps[0] (List.getElem_mem hip)
      generalize ps[0] = p at *
      obtain ⟨pA, pn, pc, pl⟩ := p
      simp only [Part.val] at x0 hst hle0 p1 p2 p3 p4
      have HST0 := Lib.hid hst
      have HP0 := Lib.hid ((p4.rd (B := wo.heap.size) (fun k hk => hk)).below hb0)
      have HPL0 := Lib.hid p1
      have hpn0 : pn ≤ s := by omega
      have HG0 := Lib.hid hg0
      have HB0 := Lib.hid hb0
      have hz0 := hb0.size
      clear hM hW hst p1 p3 p4 hg0 hb0 hle0
      go_wp2_with (with_reducible refine at_slot 68 ?_
                   refine wpList_copy_rd Go.Proofs.YtkgnnlglabihkaaGreatDoor.u8 rfl (.tmp 64) (.tmp 67) rfl wo.heap.size 0 s s pA pn pc 5 (bvs [] ++ cs.toList) pl _ rfl rfl HG0.out HP0.out HPL0.out hpn0 (by rw [List.length_append, HM.out]; simp [bvs]; omega) ?_
                   intro w1 h1 hg1
                   have h1' := (show Aes.RowV w1 5 wo.heap.size (bvs ([] ++ pl) ++ cs.toList.drop pl.length) by rw [← row_copied]; exact h1)
                   rw [List.nil_append] at h1'
                   have hb1 := HB0.out.grown hg1 hz0 (fun x hx => by injection hx with hx; omega)
                   have HG1 := Lib.hid (show Aes.RowV w1 5 wo.heap.size (bvs (bytesOf (ps.take (0 + 1))) ++ cs.toList.drop pl.length) by rw [HST0.out]; exact h1')
                   have HB1 := Lib.hid hb1
                   have hz1 := HB1.out.size
                   clear h1 hg1 h1' hb1)
      go_loopw [72, 9] (fun jv av wr => ∃ (j a : Nat) (rest : List Value), j ≤ k1 ∧ jv = .int .i64 (j : Int) ∧ av = .int .i64 (a : Int) ∧ a = (bytesOf (ps.take (j + 1))).length ∧ Aes.RowV wr 5 wo.heap.size (bvs (bytesOf (ps.take (j + 1))) ++ rest) ∧ a + rest.length = M ∧ Below wo.heap.size wo wr) (fun jv _ _ => 2000000 - (intOf jv).toNat)
      case atStart => exact ⟨0, pl.length, cs.toList.drop pl.length, by omega, rfl, rfl, by rw [HST0.out], HG1.out, by rw [List.length_drop, HM.out]; have := HPL0.out; omega, HB1.out⟩
      case round =>
        obtain ⟨j, a, rest, hj, rfl, rfl, ha, hg, hrest, hb⟩ := hrel
        clear HG1 HB1
        have HG := Lib.hid hg
        have HB := Lib.hid hb
        have HA := Lib.hid ha
        have HRE := Lib.hid hrest
        clear hg hb ha hrest
        by_cases hjk : j < k1
        · have hjp : 1 + j < ps.length := by rw [HPN.out]; have := HK1.out; omega
          have x1 := (HB.out.cell (p := ⟨b, 1 + j, none⟩) hbl).trans (HC.out (1 + j) hjp).2
          have hst := bytesOf_step ps (1 + j) hjp
          have hlt := HLAST.out (j + 1) (by have := HK1.out; omega)
          rw [HN.out, ← HA.out] at hlt
          have hle2 := bytesOf_take_le ps (1 + j + 1)
          obtain ⟨p1, p2', p3, p4⟩ := HPS.out.part ps[1 + j] (List.getElem_mem hjp)
          have ha' : (bytesOf (ps.take (1 + j))).length = a := by rw [show 1 + j = j + 1 by omega]; exact HA.out.symm
          rw [hst, List.length_append, HN.out, ha'] at hle2
          generalize hq : ps[1 + j] = p at *
          obtain ⟨qA, qn, qc, ql⟩ := p
          simp only [Part.val] at x1 hst hle2 p1 p2' p3 p4
          have HST := Lib.hid (show bytesOf (ps.take (j + 1 + 1)) = bytesOf (ps.take (j + 1)) ++ ql by rw [show j + 1 + 1 = 1 + j + 1 by omega, hst, show 1 + j = j + 1 by omega])
          have HQ := Lib.hid (p4.rd (B := wo.heap.size) (fun k hk => hk))
          have HQL := Lib.hid p1
          obtain ⟨k2, hk2⟩ : ∃ k2, a + k2 = s := ⟨s - a, by omega⟩
          have hsl1 := slice_from wo.heap.size s s a k2 hk2 (by omega) (Nat.le_refl _)
          have hqn : qn ≤ k2 := by omega
          have hji : (j : Int) < (k1 : Int) := by omega
          have HK2 := Lib.hid hk2
          have ha30 : a ≤ 1073741824 := by omega
          have haq : a + ql.length ≤ 1073741824 := by rw [p1]; omega
          have hk20 : k1 ≤ 1048576 := by have := HK1.out; omega
          have hzr := HB.out.size
          have hgr := (Aes.RowV.lt HG.out)
          clear hst hlt hle2 p1 p3 p4 hq hk2 ha'
          go_wp2_with (first
            | (with_reducible refine at_slot 81 ?_
               refine wpList_copy_rd Go.Proofs.YtkgnnlglabihkaaGreatDoor.u8 rfl (.tmp 79) (.tmp 80) rfl wo.heap.size a k2 (s - a) none 0 0 5 (bvs (bytesOf (ps.take (j + 1))) ++ rest) [] 0 rfl rfl HG.out (fun h => absurd h (by simp)) rfl (by omega) (by rw [List.length_append, bvs_length, ← HA.out]; omega) ?_
               intro w5 h5 hg5
               have h5' : Aes.RowV w5 5 wo.heap.size (bvs (bytesOf (ps.take (j + 1))) ++ rest) := by
                 have : (bvs (bytesOf (ps.take (j + 1))) ++ rest).take a ++ bvs [] ++ (bvs (bytesOf (ps.take (j + 1))) ++ rest).drop (a + ([] : List UInt8).length) = bvs (bytesOf (ps.take (j + 1))) ++ rest := by
                   rw [show bvs ([] : List UInt8) = [] from rfl, List.append_nil]
                   exact List.take_append_drop a _
                 rw [← this]; exact h5
               have hb5 := HB.out.grown hg5 hzr (fun x hx => by injection hx with hx; omega)
               have HG5 := Lib.hid h5'
               have HB5 := Lib.hid hb5
               have hz5 := hb5.size
               have HQ5 := Lib.hid (HQ.out.below hb5)
               clear h5 hg5 h5' hb5)
            | (with_reducible refine at_slot 88 ?_
               refine wpList_copy_rd Go.Proofs.YtkgnnlglabihkaaGreatDoor.u8 rfl (.tmp 86) (.tmp 87) rfl wo.heap.size a k2 (s - a) qA qn qc 5 (bvs (bytesOf (ps.take (j + 1))) ++ rest) ql _ rfl rfl HG5.out HQ5.out HQL.out hqn (by rw [List.length_append, bvs_length, ← HA.out]; have := HRE.out; have := HK2.out; omega) ?_
               intro w6 h6 hg6
               have h6' : Aes.RowV w6 5 wo.heap.size (bvs (bytesOf (ps.take (j + 1 + 1))) ++ rest.drop ql.length) := by
                 rw [HST.out, ← row_copied, ← HA.out]; exact h6
               have hb6 := HB5.out.grown hg6 hz5 (fun x hx => by injection hx with hx; omega)
               have HG6 := Lib.hid h6'
               have HB6 := Lib.hid hb6
               clear h6 hg6 h6' hb6))
          go_roundw
          case rel => exact ⟨j + 1, a + ql.length, rest.drop ql.length, by omega, by go_num, by go_num, by rw [HST.out, List.length_append, ← HA.out], HG6.out, by rw [List.length_drop]; have := HRE.out; have := HQL.out; have := HK2.out; omega, HB6.out⟩
          case measure => simp [intOf] <;> omega
        · have hjk1 : j + 1 = i := by have := HK1.out; omega
          have hall : bytesOf (ps.take (j + 1)) = bytesOf ps := by rw [List.take_of_length_le (by rw [HPN.out, hjk1]; exact Nat.le_refl _)]
          have hgf := HG.out
          rw [hall] at hgf
          have HGF := Lib.hid hgf
          have hji : ¬ (j : Int) < (k1 : Int) := by omega
          clear hgf hall hjk1
          go_wp2_with fail
          go_ret
          refine ⟨_, _, rfl, HN.out.symm, .inr ⟨wo.heap.size, 0, s, _, by rw [bvs_length, HN.out], Nat.le_refl _, HGF.out, by rw [bvs_length, HN.out]; exact Nat.le_refl _, by unfold maxLen; omega, ?_, ?_⟩, HB.out⟩
          · simp [bvs_length, HN.out]
          · simp
end Go.Proofs.YtkgnnlglabihkaaGreatDoor.Box
