/- The law 'BoxCounts' answers true for every input, and its arguments read afterwards as before; no condition. The frame follows the kit's skeleton; the walk is ours. -/
import Derived.Test.YtcbihjcnnfohmaaGreatRows
import Derived.Test.YtcbihjcnnfohmaaGreatMemAll
import Derived.Test.YtcbihjcnnfohmaaGreatBoxFive
import Derived.WalkKit
import Derived.ProofKit
import Derived.OpenShut
import Derived.ShutString
import Derived.ChangeOld
import Derived.Below
import Derived.SizedLaws
namespace Go.Proofs.YtcbihjcnnfohmaaGreat.boxCounts
open Go.ChangeShapes Go.WideShapes Go.ChangeAt Go.RowKit
set_option linter.unusedVariables false

theorem own : ownKnob Tryz.prog.godebug = none := by kernel_rfl
theorem laidOut : laidOutB Tryz.prog = true := by kernel_rfl

open Aes Str Mac Box Room
set_option linter.unusedSimpArgs false

set_option maxRecDepth 100000 in
set_option maxHeartbeats 4000000 in
theorem walk (a0 : Option Addr) (len0 cap0 : Nat) (l0 : List UInt8) (a1 : Option Addr) (len1 cap1 : Nat) (l1 : List UInt8) (a2 : Int) (a3 : Option Addr) (len3 cap3 : Nat) (ps3 : List Part) (w : World) (w0 : ArgB w a0 len0 cap0 l0) (w1 : ArgB w a1 len1 cap1 l1) (w2 : (Lit.int .i64 a2).wf = true) (w3 : ArgR w a3 len3 cap3 ps3) :
    Calls Tryz.prog 5 #[.slice a0 len0 cap0, .slice a1 len1 cap1, .int .i64 a2, .slice a3 len3 cap3] w fun e w' => e = .returned (.bool true) ∧ Below w.heap.size w w' := by
  obtain ⟨hl0, hf0, hm0, hr0⟩ := w0
  have HL0 := Lib.hid hl0
  have HR0 := Lib.hid hr0
  clear hl0 hr0
  obtain ⟨hl1, hf1, hm1, hr1⟩ := w1
  have HL1 := Lib.hid hl1
  have HR1 := Lib.hid hr1
  clear hl1 hr1
  obtain ⟨hb20, hb21⟩ := bounds_i64 w2
  obtain ⟨hl3, hf3, hm3, hr3⟩ := w3
  have HL3 := Lib.hid hl3
  have HR3 := Lib.hid hr3
  clear hl3 hr3
  by_cases hfit : len0 ≤ 1024 ∧ len1 ≤ 1024
  · have HFIT := Lib.hid hfit
    obtain ⟨F0, F1⟩ := hfit
    by_cases hk : KeyOk l0 ∧ 0 ≤ a2
    · obtain ⟨hk, hn⟩ := hk
      have HK := Lib.hid hk
      obtain ⟨nc, rfl⟩ := Int.eq_ofNat_of_zero_le hn
      have HNC := Lib.hid (show nc < 9223372036854775808 by omega)
      clear hk hn hb20 hb21
      go_enter Tryz.func5, Tryz.ntmps5
      go_wp2_with fail
      refine (Box.small_any _).mono ?_
      rintro e w1 ⟨rfl, hb1⟩
      have hbW := hb1.alloc hb1.size (.cells #[.slice a0 len0 cap0, .slice a1 len1 cap1] 22)
      have hcl : ∀ j (hj : j < ([(⟨a0, len0, cap0, l0⟩ : Part), ⟨a1, len1, cap1, l1⟩] : List Part).length), (w1.alloc (.cells #[.slice a0 len0 cap0, .slice a1 len1 cap1] 22)).cell? ⟨w1.heap.size, j, none⟩ = some ([(⟨a0, len0, cap0, l0⟩ : Part), ⟨a1, len1, cap1, l1⟩] : List Part)[j].val := lits_cell 22 [(⟨a0, len0, cap0, l0⟩ : Part), ⟨a1, len1, cap1, l1⟩]
      have HCL := Lib.hid hcl
      clear hcl
      go_wp2_with fail
      refine (fits_any w1.heap.size 2 2 [(⟨a0, len0, cap0, l0⟩ : Part), ⟨a1, len1, cap1, l1⟩] _ rfl (by omega) HCL.out true (decide_eq_true (by simp only [List.mem_cons, List.not_mem_nil, or_false, forall_eq_or_imp, forall_eq]; exact HFIT.out)).symm).mono ?_
      rintro e w2 ⟨rfl, rfl⟩
      clear HCL
      generalize w1.alloc (.cells #[.slice a0 len0 cap0, .slice a1 len1 cap1] 22) = W1 at hbW ⊢
      have HB1 := Lib.hid hbW
      clear hbW hb1
      go_wp2_with fail
      refine (lent_any a0 len0 cap0 l0 W1 w.heap.size HB1.out.size HL0.out (by omega) (HR0.out.below HB1.out)).mono ?_
      rintro e w2 ⟨rfl, hrow, hb2⟩
      have hz2 := hb2.size
      have hg2 : W1.heap.size < w2.heap.size := hrow.lt
      have HB2 := Lib.hid (HB1.out.trans (hb2.mono HB1.out.size))
      have HW2 := Lib.hid hrow
      clear hrow hb2
      go_wp2_with fail
      refine (snew_yes (some ⟨W1.heap.size, 0, none⟩) len0 (len0 + 1) l0 a1 len1 cap1 l1 nc w2 HL0.out (by omega) HW2.out.rd_take HK.out HL1.out (by omega) (rd_now HR1.out HB2.out) HNC.out).mono ?_
      rintro e w3 ⟨g, rfl, hS3, hb3⟩
      have HS3 := Lib.hid hS3
      clear hS3
      have HB3 := Lib.hid (HB2.out.trans (hb3.mono HB2.out.size))
      have hz3 := hb3.size
      have HK3 := Lib.hid (HW2.out.below hb3 hg2)
      clear hb3 HW2
      go_wp2_with fail
      refine (kept_any a0 len0 cap0 W1.heap.size l0 w3 w.heap.size HL0.out (by omega) (HR0.out.below HB3.out) HK3.out).mono ?_
      rintro e w4 ⟨rfl, rfl⟩
      go_wp2_with fail
      have qk : RowIn w3 ⟨some W1.heap.size, len0, len0 + 1⟩ W1.heap.size (W1.heap.size + 1) := orow_row HK3.out (by omega) (by rw [List.length_append, HL0.out]; rfl) (by omega)
      have hzW := HB1.out.size
      refine (owned1f_any w3 (.slice (some ⟨W1.heap.size, 0, none⟩) len0 (len0 + 1)) ⟨some W1.heap.size, len0, len0 + 1⟩ W1.heap.size (W1.heap.size + 1) rfl qk (by omega)).mono ?_
      rintro e w5 ⟨rfl, hF5⟩
      have hz5 := hF5.size
      have HB5 := Lib.hid (HB3.out.trans (hF5.toBelow (B := w.heap.size) (fun k hk => ⟨by omega, fun e => by injection e with e; omega⟩)))
      have HS5 := Lib.hid (HS3.out.frame hF5 (fun k h1 h2 => ⟨by have := HS3.out.lt; omega, fun e => by injection e with e; omega⟩))
      have hgl := HS3.out.lt
      clear hF5 qk HK3 HS3
      go_wp2_with fail
      refine (rsnew_yes a0 len0 cap0 l0 a1 len1 cap1 l1 nc w5 HL0.out hf0 (by omega) (rd_now HR0.out HB5.out) HK.out HL1.out (by omega) (rd_now HR1.out HB5.out)).mono ?_
      rintro e w6 ⟨h, rfl, hS6, hb6⟩
      have HB6 := Lib.hid (HB5.out.trans (hb6.mono HB5.out.size))
      have hz6 := hb6.size
      have HP6 := Lib.hid (⟨HS5.out.below_ hb6, hS6, by omega⟩ : Pair w6 w2.heap.size g w5.heap.size h l0 l1 nc)
      clear hb6 hS6 HS5
      go_wp2_with fail
      go_loopw [17] (fun iv wr => ∃ (i nx : Nat), i ≤ len3 ∧ i ≤ 20 ∧ iv = .int .i64 (i : Int) ∧ nx ≤ 9223372036854775807 ∧ Pair wr w2.heap.size g w5.heap.size h l0 l1 nx ∧ w5.heap.size ≤ wr.heap.size ∧ Below w.heap.size w wr) (fun iv _ => len3 - (intOf iv).toNat)
      case atStart => exact ⟨0, nc, by omega, by omega, rfl, by have := HNC.out; omega, HP6.out, hz6, HB6.out⟩
      case round =>
        obtain ⟨i, nx, hi, hi20, rfl, hnx, hP, hzr, hbr⟩ := hrel
        clear HP6 HB6
        have HP := Lib.hid hP
        have HBR := Lib.hid hbr
        have HNX := Lib.hid hnx
        clear hP hbr hnx
        by_cases hgo : i < len3 ∧ i < 20
        · obtain ⟨hlt, hlt20⟩ := hgo
          obtain ⟨ad, hA, hSb, hc⟩ := HR3.out.at_ (by rw [HL3.out]; omega)
          subst hA
          have hil : i < ps3.length := by rw [HL3.out]; exact hlt
          have x0 := hc i hil
          obtain ⟨p1, p2, p3, p4⟩ := HR3.out.part ps3[i] (List.getElem_mem hil)
          generalize ps3[i] = q at *
          obtain ⟨qA, qn, qc, ql⟩ := q
          simp only [Part.val] at p1 p2 p3 p4 x0
          have y0 := (HBR.out.cell (p := ad.add i) (by rw [add_block]; exact hSb)).trans x0
          have hrq : Rd wr w2.heap.size qA ql := ((p4.rd (fun k hk => hk)).below HBR.out).more HB2.out.size
          have HQR := Lib.hid hrq
          have HQL := Lib.hid p1
          have ii : (i : Int) < (len3 : Int) := by omega
          have i20 : (i : Int) < 20 := by omega
          clear x0 hc p1 p4 hrq
          by_cases hmid : 1024 < qn ∧ qn ≤ 65536
          · obtain ⟨m1, m2⟩ := hmid
            have e1 : decide ((1024 : Int) < (qn : Int)) = true := decide_eq_true (by omega)
            have e2 : decide ((qn : Int) ≤ 65536) = true := decide_eq_true (by omega)
            go_wp2_with fail
            go_ret
            exact ⟨rfl, HBR.out⟩
          · by_cases hlong : 65536 < qn
            · have e1 : decide ((1024 : Int) < (qn : Int)) = true := decide_eq_true (by omega)
              have e2 : decide ((qn : Int) ≤ 65536) = false := decide_eq_false (by omega)
              go_wp2_with fail
              refine (sseal_long w2.heap.size g nx l0 l1 none 0 0 qA qn qc wr hlong).mono ?_
              rintro e w7 ⟨rfl, rfl⟩
              go_wp2_with fail
              refine (rsseal_long h none 0 0 qA qn qc wr hlong).mono ?_
              rintro e w7 ⟨rfl, rfl⟩
              have sx := nil_str wr
              generalize str [] = ts at *
              go_wp2_with fail
              clear sx
              refine (owned1f_any wr (.slice none 0 0) ⟨none, 0, 0⟩ 0 0 rfl (rowin_nil _ _ _) (by omega)).mono ?_
              rintro e w9 ⟨rfl, hF9⟩
              have hz9 := hF9.size
              have HP9 := Lib.hid (HP.out.frame hF9 (fun k h1 h2 => ⟨h2, fun e => by cases e⟩))
              have HB9 := Lib.hid (HBR.out.trans (hF9.toBelow (B := w.heap.size) (fun k hk => ⟨by have := HBR.out.size; omega, fun e => by cases e⟩)))
              clear hF9 HP
              go_wp2_with fail
              have y2 := HP9.out.d.slot
              refine wp_region_held_drew (S := fun w' => w'.cell? ⟨h, 2, none⟩ = some (.int .i64 (nx : Int))) (by kernel_rfl) (y2) (fun hHeld => ?_)
              refine wpAnyH_take (i := 0) (v := ?_) rfl (by kernel_rfl) (by kernel_rfl) (by kernel_rfl) (fun _ _ _ h => h) (Or.inl ⟨by kernel_rfl, ?_⟩) (by assumption) ?_
              rotate_left
              · (intro w hSw; (try dsimp only at hSw); go_simp; first | done | with_reducible rfl)
              (try simp only [Act.put, List.setIfInBounds_toArray, List.set_cons_zero, List.set_cons_succ, List.getElem_toArray, List.getElem_cons_zero, List.getElem_cons_succ])
              refine wpAnyH_take (i := 1) (v := ?_) rfl (by kernel_rfl) (by kernel_rfl) (by kernel_rfl) (fun _ _ _ h => h) (Or.inl ⟨by kernel_rfl, ?_⟩) (by assumption) ?_
              rotate_left
              · (intro w hSw; (try dsimp only at hSw); go_simp; first | done | with_reducible rfl)
              (try simp only [Act.put, List.setIfInBounds_toArray, List.set_cons_zero, List.set_cons_succ, List.getElem_toArray, List.getElem_cons_zero, List.getElem_cons_succ])
              refine wpAnyH_take (i := 2) (v := ?_) rfl (by kernel_rfl) (by kernel_rfl) (by kernel_rfl) (fun _ _ _ h => h) (Or.inl ⟨by kernel_rfl, ?_⟩) (by assumption) ?_
              rotate_left
              · (intro w hSw; (try dsimp only at hSw); go_simp; first | done | with_reducible rfl)
              (try simp only [Act.put, List.setIfInBounds_toArray, List.set_cons_zero, List.set_cons_succ, List.getElem_toArray, List.getElem_cons_zero, List.getElem_cons_succ])
              refine wpAnyH_take (i := 3) (v := ?_) rfl (by kernel_rfl) (by kernel_rfl) (by kernel_rfl) (fun _ _ _ h => h) (Or.inl ⟨by kernel_rfl, ?_⟩) (by assumption) ?_
              rotate_left
              · (intro w hSw; (try dsimp only at hSw); go_simp; first | done | with_reducible rfl)
              (try simp only [Act.put, List.setIfInBounds_toArray, List.set_cons_zero, List.set_cons_succ, List.getElem_toArray, List.getElem_cons_zero, List.getElem_cons_succ])
              refine wpAnyH_take (i := 4) (v := ?_) rfl (by kernel_rfl) (by kernel_rfl) (by kernel_rfl) (fun _ _ _ h => h) (Or.inl ⟨by kernel_rfl, ?_⟩) (by assumption) ?_
              rotate_left
              · (intro w hSw; (try dsimp only at hSw); go_simp; first | done | with_reducible rfl)
              (try simp only [Act.put, List.setIfInBounds_toArray, List.set_cons_zero, List.set_cons_succ, List.getElem_toArray, List.getElem_cons_zero, List.getElem_cons_succ])
              refine wpAnyH_take (i := 5) (v := ?_) rfl (by kernel_rfl) (by kernel_rfl) (by kernel_rfl) (fun _ _ _ h => h) (Or.inl ⟨by kernel_rfl, ?_⟩) (by assumption) ?_
              rotate_left
              · (intro w hSw; (try dsimp only at hSw); go_simp; first | done | with_reducible rfl)
              (try simp only [Act.put, List.setIfInBounds_toArray, List.set_cons_zero, List.set_cons_succ, List.getElem_toArray, List.getElem_cons_zero, List.getElem_cons_succ])
              refine wpAnyH_take (i := 6) (v := ?_) rfl (by kernel_rfl) (by kernel_rfl) (by kernel_rfl) (fun _ _ _ h => h) (Or.inl ⟨by kernel_rfl, ?_⟩) (by assumption) ?_
              rotate_left
              · (intro w hSw; (try dsimp only at hSw); go_simp; first | done | with_reducible rfl)
              (try simp only [Act.put, List.setIfInBounds_toArray, List.set_cons_zero, List.set_cons_succ, List.getElem_toArray, List.getElem_cons_zero, List.getElem_cons_succ])
              refine wpAnyH_take (i := 7) (v := ?_) rfl (by kernel_rfl) (by kernel_rfl) (by kernel_rfl) (fun _ _ _ h => h) (Or.inl ⟨by kernel_rfl, ?_⟩) (by assumption) ?_
              rotate_left
              · (intro w hSw; (try dsimp only at hSw); go_simp; first | done | with_reducible rfl)
              (try simp only [Act.put, List.setIfInBounds_toArray, List.set_cons_zero, List.set_cons_succ, List.getElem_toArray, List.getElem_cons_zero, List.getElem_cons_succ])
              refine wpAnyH_take (i := 8) (v := ?_) rfl (by kernel_rfl) (by kernel_rfl) (by kernel_rfl) (fun _ _ _ h => h) (Or.inl ⟨by kernel_rfl, ?_⟩) (by assumption) ?_
              rotate_left
              · (intro w hSw; (try dsimp only at hSw); go_simp; first | done | with_reducible rfl)
              (try simp only [Act.put, List.setIfInBounds_toArray, List.set_cons_zero, List.set_cons_succ, List.getElem_toArray, List.getElem_cons_zero, List.getElem_cons_succ])
              refine wpAnyH_take (i := 10) (v := ?_) rfl (by kernel_rfl) (by kernel_rfl) (by kernel_rfl) (fun _ _ _ h => h) (Or.inl ⟨by kernel_rfl, ?_⟩) (by assumption) ?_
              rotate_left
              · (intro w hSw; (try dsimp only at hSw); go_simp; first | done | with_reducible rfl)
              (try simp only [Act.put, List.setIfInBounds_toArray, List.set_cons_zero, List.set_cons_succ, List.getElem_toArray, List.getElem_cons_zero, List.getElem_cons_succ])
              refine wpAnyH_take (i := 11) (v := ?_) rfl (by kernel_rfl) (by kernel_rfl) (by kernel_rfl) (fun _ _ _ h => h) (Or.inl ⟨by kernel_rfl, ?_⟩) (by assumption) ?_
              rotate_left
              · (intro w hSw; (try dsimp only at hSw); go_simp; first | done | with_reducible rfl)
              (try simp only [Act.put, List.setIfInBounds_toArray, List.set_cons_zero, List.set_cons_succ, List.getElem_toArray, List.getElem_cons_zero, List.getElem_cons_succ])
              refine wpAnyH_take (i := 12) (v := ?_) rfl (by kernel_rfl) (by kernel_rfl) (by kernel_rfl) (fun _ _ _ h => h) (Or.inl ⟨by kernel_rfl, ?_⟩) (by assumption) ?_
              rotate_left
              · (intro w hSw; (try dsimp only at hSw); go_simp; first | done | with_reducible rfl)
              (try simp only [Act.put, List.setIfInBounds_toArray, List.set_cons_zero, List.set_cons_succ, List.getElem_toArray, List.getElem_cons_zero, List.getElem_cons_succ])
              refine wpAnyH_take (i := 13) (v := ?_) rfl (by kernel_rfl) (by kernel_rfl) (by kernel_rfl) (fun _ _ _ h => h) (Or.inl ⟨by kernel_rfl, ?_⟩) (by assumption) ?_
              rotate_left
              · (intro w hSw; (try dsimp only at hSw); go_simp; first | done | with_reducible rfl)
              (try simp only [Act.put, List.setIfInBounds_toArray, List.set_cons_zero, List.set_cons_succ, List.getElem_toArray, List.getElem_cons_zero, List.getElem_cons_succ])
              refine wpAnyH_ready (rs := [9]) (by kernel_rfl) (by simp) ?_
              refine AllReadyH.cons rfl (fun KK hKK => ?_) AllReadyH.nil
              go_simp
              refine (snext_any w2.heap.size g nx l0 l1 _ (HP9.out.p.below_ (Below.refl _ _).drew)).mono ?_
              rintro e w' ⟨rfl, rfl⟩
              go_wp2_with fail
              refine hKK.out _ _ ?_ (fun hHeld => ?_)
              · (exact y2)
              clear hKK KK
              (try simp only [Act.put, List.setIfInBounds_toArray, List.set_cons_zero, List.set_cons_succ, List.getElem_toArray, List.getElem_cons_zero, List.getElem_cons_succ])
              refine wpAnyH_take (i := 14) (v := ?_) rfl (by kernel_rfl) (by kernel_rfl) (by kernel_rfl) (fun _ _ _ h => h) (Or.inl ⟨by kernel_rfl, ?_⟩) (by assumption) ?_
              rotate_left
              · (intro w hSw; (try dsimp only at hSw); go_simp; first | done | with_reducible rfl)
              (try simp only [Act.put, List.setIfInBounds_toArray, List.set_cons_zero, List.set_cons_succ, List.getElem_toArray, List.getElem_cons_zero, List.getElem_cons_succ])
              refine wpAnyH_take (i := 15) (v := ?_) rfl (by kernel_rfl) (by kernel_rfl) (by kernel_rfl) (fun _ _ _ h => h) (Or.inl ⟨by kernel_rfl, ?_⟩) (by assumption) ?_
              rotate_left
              · (intro w hSw; (try dsimp only at hSw); go_simp; first | done | with_reducible rfl)
              (try simp only [Act.put, List.setIfInBounds_toArray, List.set_cons_zero, List.set_cons_succ, List.getElem_toArray, List.getElem_cons_zero, List.getElem_cons_succ])
              refine wpAnyH_done (by kernel_rfl) ?_ _
              go_wp2_with fail
              go_roundw
              case rel => exact ⟨i + 1, nx, by omega, by omega, by go_num, (by have := HNX.out; omega), HP9.out.below_ (Below.refl _ _).drew, (show w5.heap.size ≤ w9.heap.size from by omega), HB9.out.drew⟩
              case measure => simp [intOf] <;> omega
            · have hq24 : qn ≤ 1024 := by omega
              have e1 : decide ((1024 : Int) < (qn : Int)) = false := decide_eq_false (by omega)
              have HYC := Lib.hid (fun (W : World) (hb : Below w.heap.size w W) => (hb.cell (p := ad.add i) (by rw [add_block]; exact hSb)).trans ((HBR.out.cell (p := ad.add i) (by rw [add_block]; exact hSb)).symm.trans y0))
              by_cases hend : nx = 9223372036854775807
              · subst hend
                have HND := Lib.hid (show (((9223372036854775807 : Nat)) : Int) = 9223372036854775807 from rfl)
                go_wp2_with fail
                refine (sseal_end w2.heap.size g l0 l1 none 0 0 qA qn qc wr (by omega) HP.out.p).mono ?_
                rintro e w7 ⟨rfl, rfl⟩
                go_wp2_with fail
                refine (rsseal_end w5.heap.size h l0 l1 none 0 0 qA qn qc wr (by omega) HP.out.d).mono ?_
                rintro e w7 ⟨rfl, rfl⟩
                have sx := nil_str wr
                generalize str [] = ts at *
                go_wp2_with fail
                clear sx
                refine (owned1f_any wr (.slice none 0 0) ⟨none, 0, 0⟩ 0 0 rfl (rowin_nil _ _ _) (by omega)).mono ?_
                rintro e w9 ⟨rfl, hF9⟩
                have hz9 := hF9.size
                have HP9 := Lib.hid (HP.out.frame hF9 (fun k h1 h2 => ⟨h2, fun e => by cases e⟩))
                have HB9 := Lib.hid (HBR.out.trans (hF9.toBelow (B := w.heap.size) (fun k hk => ⟨by have := HBR.out.size; omega, fun e => by cases e⟩)))
                clear hF9 HP
                go_wp2_with fail
                have y2 := HP9.out.d.slot
                refine wp_region_held_drew (S := fun w' => w'.cell? ⟨h, 2, none⟩ = some (.int .i64 (9223372036854775807 : Int))) (by kernel_rfl) (y2) (fun hHeld => ?_)
                refine wpAnyH_take (i := 0) (v := ?_) rfl (by kernel_rfl) (by kernel_rfl) (by kernel_rfl) (fun _ _ _ h => h) (Or.inl ⟨by kernel_rfl, ?_⟩) (by assumption) ?_
                rotate_left
                · (intro w hSw; (try dsimp only at hSw); go_simp; first | done | with_reducible rfl)
                (try simp only [Act.put, List.setIfInBounds_toArray, List.set_cons_zero, List.set_cons_succ, List.getElem_toArray, List.getElem_cons_zero, List.getElem_cons_succ])
                refine wpAnyH_take (i := 1) (v := ?_) rfl (by kernel_rfl) (by kernel_rfl) (by kernel_rfl) (fun _ _ _ h => h) (Or.inl ⟨by kernel_rfl, ?_⟩) (by assumption) ?_
                rotate_left
                · (intro w hSw; (try dsimp only at hSw); go_simp; first | done | with_reducible rfl)
                (try simp only [Act.put, List.setIfInBounds_toArray, List.set_cons_zero, List.set_cons_succ, List.getElem_toArray, List.getElem_cons_zero, List.getElem_cons_succ])
                refine wpAnyH_take (i := 2) (v := ?_) rfl (by kernel_rfl) (by kernel_rfl) (by kernel_rfl) (fun _ _ _ h => h) (Or.inl ⟨by kernel_rfl, ?_⟩) (by assumption) ?_
                rotate_left
                · (intro w hSw; (try dsimp only at hSw); go_simp; first | done | with_reducible rfl)
                (try simp only [Act.put, List.setIfInBounds_toArray, List.set_cons_zero, List.set_cons_succ, List.getElem_toArray, List.getElem_cons_zero, List.getElem_cons_succ])
                refine wpAnyH_take (i := 3) (v := ?_) rfl (by kernel_rfl) (by kernel_rfl) (by kernel_rfl) (fun _ _ _ h => h) (Or.inl ⟨by kernel_rfl, ?_⟩) (by assumption) ?_
                rotate_left
                · (intro w hSw; (try dsimp only at hSw); go_simp; first | done | with_reducible rfl)
                (try simp only [Act.put, List.setIfInBounds_toArray, List.set_cons_zero, List.set_cons_succ, List.getElem_toArray, List.getElem_cons_zero, List.getElem_cons_succ])
                refine wpAnyH_take (i := 4) (v := ?_) rfl (by kernel_rfl) (by kernel_rfl) (by kernel_rfl) (fun _ _ _ h => h) (Or.inl ⟨by kernel_rfl, ?_⟩) (by assumption) ?_
                rotate_left
                · (intro w hSw; (try dsimp only at hSw); go_simp; first | done | with_reducible rfl)
                (try simp only [Act.put, List.setIfInBounds_toArray, List.set_cons_zero, List.set_cons_succ, List.getElem_toArray, List.getElem_cons_zero, List.getElem_cons_succ])
                refine wpAnyH_take (i := 5) (v := ?_) rfl (by kernel_rfl) (by kernel_rfl) (by kernel_rfl) (fun _ _ _ h => h) (Or.inl ⟨by kernel_rfl, ?_⟩) (by assumption) ?_
                rotate_left
                · (intro w hSw; (try dsimp only at hSw); go_simp; first | done | with_reducible rfl)
                (try simp only [Act.put, List.setIfInBounds_toArray, List.set_cons_zero, List.set_cons_succ, List.getElem_toArray, List.getElem_cons_zero, List.getElem_cons_succ])
                refine wpAnyH_take (i := 6) (v := ?_) rfl (by kernel_rfl) (by kernel_rfl) (by kernel_rfl) (fun _ _ _ h => h) (Or.inl ⟨by kernel_rfl, ?_⟩) (by assumption) ?_
                rotate_left
                · (intro w hSw; (try dsimp only at hSw); go_simp; first | done | with_reducible rfl)
                (try simp only [Act.put, List.setIfInBounds_toArray, List.set_cons_zero, List.set_cons_succ, List.getElem_toArray, List.getElem_cons_zero, List.getElem_cons_succ])
                refine wpAnyH_take (i := 7) (v := ?_) rfl (by kernel_rfl) (by kernel_rfl) (by kernel_rfl) (fun _ _ _ h => h) (Or.inl ⟨by kernel_rfl, ?_⟩) (by assumption) ?_
                rotate_left
                · (intro w hSw; (try dsimp only at hSw); go_simp; first | done | with_reducible rfl)
                (try simp only [Act.put, List.setIfInBounds_toArray, List.set_cons_zero, List.set_cons_succ, List.getElem_toArray, List.getElem_cons_zero, List.getElem_cons_succ])
                refine wpAnyH_take (i := 8) (v := ?_) rfl (by kernel_rfl) (by kernel_rfl) (by kernel_rfl) (fun _ _ _ h => h) (Or.inl ⟨by kernel_rfl, ?_⟩) (by assumption) ?_
                rotate_left
                · (intro w hSw; (try dsimp only at hSw); go_simp; first | done | with_reducible rfl)
                (try simp only [Act.put, List.setIfInBounds_toArray, List.set_cons_zero, List.set_cons_succ, List.getElem_toArray, List.getElem_cons_zero, List.getElem_cons_succ])
                refine wpAnyH_take (i := 10) (v := ?_) rfl (by kernel_rfl) (by kernel_rfl) (by kernel_rfl) (fun _ _ _ h => h) (Or.inl ⟨by kernel_rfl, ?_⟩) (by assumption) ?_
                rotate_left
                · (intro w hSw; (try dsimp only at hSw); go_simp; first | done | with_reducible rfl)
                (try simp only [Act.put, List.setIfInBounds_toArray, List.set_cons_zero, List.set_cons_succ, List.getElem_toArray, List.getElem_cons_zero, List.getElem_cons_succ])
                refine wpAnyH_take (i := 11) (v := ?_) rfl (by kernel_rfl) (by kernel_rfl) (by kernel_rfl) (fun _ _ _ h => h) (Or.inl ⟨by kernel_rfl, ?_⟩) (by assumption) ?_
                rotate_left
                · (intro w hSw; (try dsimp only at hSw); go_simp; first | done | with_reducible rfl)
                (try simp only [Act.put, List.setIfInBounds_toArray, List.set_cons_zero, List.set_cons_succ, List.getElem_toArray, List.getElem_cons_zero, List.getElem_cons_succ])
                refine wpAnyH_take (i := 12) (v := ?_) rfl (by kernel_rfl) (by kernel_rfl) (by kernel_rfl) (fun _ _ _ h => h) (Or.inl ⟨by kernel_rfl, ?_⟩) (by assumption) ?_
                rotate_left
                · (intro w hSw; (try dsimp only at hSw); go_simp; first | done | with_reducible rfl)
                (try simp only [Act.put, List.setIfInBounds_toArray, List.set_cons_zero, List.set_cons_succ, List.getElem_toArray, List.getElem_cons_zero, List.getElem_cons_succ])
                refine wpAnyH_take (i := 13) (v := ?_) rfl (by kernel_rfl) (by kernel_rfl) (by kernel_rfl) (fun _ _ _ h => h) (Or.inl ⟨by kernel_rfl, ?_⟩) (by assumption) ?_
                rotate_left
                · (intro w hSw; (try dsimp only at hSw); go_simp; first | done | with_reducible rfl)
                (try simp only [Act.put, List.setIfInBounds_toArray, List.set_cons_zero, List.set_cons_succ, List.getElem_toArray, List.getElem_cons_zero, List.getElem_cons_succ])
                refine wpAnyH_ready (rs := [9]) (by kernel_rfl) (by simp) ?_
                refine AllReadyH.cons rfl (fun KK hKK => ?_) AllReadyH.nil
                go_simp
                refine (snext_any w2.heap.size g 9223372036854775807 l0 l1 _ (HP9.out.p.below_ (Below.refl _ _).drew)).mono ?_
                rintro e w' ⟨rfl, rfl⟩
                go_wp2_with fail
                refine hKK.out _ _ ?_ (fun hHeld => ?_)
                · (exact y2)
                clear hKK KK
                (try simp only [Act.put, List.setIfInBounds_toArray, List.set_cons_zero, List.set_cons_succ, List.getElem_toArray, List.getElem_cons_zero, List.getElem_cons_succ])
                refine wpAnyH_take (i := 14) (v := ?_) rfl (by kernel_rfl) (by kernel_rfl) (by kernel_rfl) (fun _ _ _ h => h) (Or.inl ⟨by kernel_rfl, ?_⟩) (by assumption) ?_
                rotate_left
                · (intro w hSw; (try dsimp only at hSw); go_simp; first | done | with_reducible rfl)
                (try simp only [Act.put, List.setIfInBounds_toArray, List.set_cons_zero, List.set_cons_succ, List.getElem_toArray, List.getElem_cons_zero, List.getElem_cons_succ])
                refine wpAnyH_take (i := 15) (v := ?_) rfl (by kernel_rfl) (by kernel_rfl) (by kernel_rfl) (fun _ _ _ h => h) (Or.inl ⟨by kernel_rfl, ?_⟩) (by assumption) ?_
                rotate_left
                · (intro w hSw; (try dsimp only at hSw); go_simp; first | done | with_reducible rfl)
                (try simp only [Act.put, List.setIfInBounds_toArray, List.set_cons_zero, List.set_cons_succ, List.getElem_toArray, List.getElem_cons_zero, List.getElem_cons_succ])
                refine wpAnyH_done (by kernel_rfl) ?_ _
                go_wp2_with fail
                go_roundw
                case rel => exact ⟨i + 1, 9223372036854775807, by omega, by omega, by go_num, (by have := HNX.out; omega), HP9.out.below_ (Below.refl _ _).drew, (show w5.heap.size ≤ w9.heap.size from by omega), HB9.out.drew⟩
                case measure => simp [intOf] <;> omega
              · have HNL := Lib.hid (show nx < 9223372036854775807 by have := HNX.out; omega)
                clear hend
                go_wp2_with fail
                refine (sseal_yes w2.heap.size g nx l0 l1 none 0 0 [] qA qn qc ql wr HP.out.p HK.out (by rw [HL1.out]; omega) HNL.out rfl (by omega) (Nat.le_refl _) (by omega) nil_part HQL.out (by omega) HQR.out).mono ?_
                rintro e w7 ⟨gx, rfl, hO7, hS7, hF7⟩
                have hz7 := hF7.size
                have hgl7 := HP.out.p.lt
                have hd7 := HP.out.d.frame hF7 (fun k h1 h2 => ⟨by have := HP.out.d.lt; omega, by have := HP.out.gap; omega⟩)
                have hb7 := HBR.out.trans (hF7.toBelow (B := w.heap.size) (fun k hk => ⟨by have := HBR.out.size; omega, by have := HB2.out.size; omega⟩))
                have y7 := HYC.out w7 hb7
                have HD7 := Lib.hid hd7
                have HP7 := Lib.hid hS7
                have HB7 := Lib.hid hb7
                have HO7 := Lib.hid hO7
                have HQ7 := Lib.hid (((HQR.out.below (show Below w2.heap.size wr w7 from hF7.toBelow (fun k hk => ⟨by omega, by omega⟩))).more (show w2.heap.size ≤ w5.heap.size by omega)))
                clear hO7 hS7 hF7 hd7 hb7
                go_wp2_with fail
                refine (rsseal_yes w5.heap.size h nx l0 l1 none 0 0 [] qA qn qc ql w7 HD7.out HK.out (by rw [HL1.out]; omega) HNL.out rfl (by omega) nil_part HQL.out (by omega) HQ7.out).mono ?_
                rintro e w8 ⟨A8, c8, rfl, hR8, _, hS8, hF8⟩
                have hz8 := hF8.size
                have hh8 := HD7.out.lt
                have hgp := HP.out.gap
                have hp8 := HP7.out.frame hF8 (fun k h1 h2 => ⟨by omega, by omega⟩)
                have hO8 : OwnB w8 5 wr.heap.size (.slice (some ⟨gx, 0, none⟩) (24 + qn) (24 + qn)) (sealL l0 l1 nx [] ql) := by
                  have hx := OwnV.lt HO7.out gx rfl
                  have hH := HP.out.d.lt
                  exact hF8.own HO7.out (fun k e => by injection e with e; subst e; exact ⟨hx.2, by have := hx.1; change gx ≠ h; omega⟩)
                have hb8 := HB7.out.trans (hF8.toBelow (B := w.heap.size) (fun k hk => ⟨by have := HB7.out.size; omega, by have := HB5.out.size; omega⟩))
                have sx := arg_str (n := 24 + qn) (c := 24 + qn) (by rw [sealL_len, HQL.out]) (ownb_rd hO8) (Below.refl _ _)
                have sy := arg_str (n := 24 + qn) (c := c8) (by rw [sealL_len, HQL.out]) hR8 (Below.refl _ _)
                have HP8 := Lib.hid (⟨hp8, hS8, hgp⟩ : Pair w8 w2.heap.size g w5.heap.size h l0 l1 (nx + 1))
                have HB8 := Lib.hid hb8
                have HXQ := Lib.hid (rowin_exact hO8)
                have hxl := OwnV.lt hO8 gx rfl
                clear hO8 hR8 hS8 hF8 hp8 hb8 HP7 HD7 HO7 HB7 HQ7 y7
                generalize str (sealL l0 l1 nx [] ql) = ts at *
                go_wp2_with fail
                clear sx sy
                refine (owned1f_any w8 (.slice (some ⟨gx, 0, none⟩) (24 + qn) (24 + qn)) ⟨some gx, 24 + qn, 24 + qn⟩ wr.heap.size w8.heap.size rfl HXQ.out (Nat.le_refl _)).mono ?_
                rintro e w9 ⟨rfl, hF9⟩
                have hz9 := hF9.size
                have hHl := HP.out.d.lt
                have HP9 := Lib.hid (⟨HP8.out.p.frame hF9 (fun k h1 h2 => ⟨by omega, fun e => by injection e with e; omega⟩), HP8.out.d.frame hF9 (fun k h1 h2 => ⟨by omega, fun e => by injection e with e; omega⟩), hgp⟩ : Pair w9 w2.heap.size g w5.heap.size h l0 l1 (nx + 1))
                have HB9 := Lib.hid (HB8.out.trans (hF9.toBelow (B := w.heap.size) (fun k hk => ⟨by have := HB8.out.size; omega, fun e => by injection e with e; have := HBR.out.size; omega⟩)))
                clear hF9 HP8 HB8
                have hn1 := HNL.out
                go_wp2_with fail
                have y2 := HP9.out.d.slot
                refine wp_region_held_drew (S := fun w' => w'.cell? ⟨h, 2, none⟩ = some (.int .i64 ((nx + 1 : Nat) : Int))) (by kernel_rfl) (y2) (fun hHeld => ?_)
                refine wpAnyH_take (i := 0) (v := ?_) rfl (by kernel_rfl) (by kernel_rfl) (by kernel_rfl) (fun _ _ _ h => h) (Or.inl ⟨by kernel_rfl, ?_⟩) (by assumption) ?_
                rotate_left
                · (intro w hSw; (try dsimp only at hSw); go_simp; first | done | with_reducible rfl)
                (try simp only [Act.put, List.setIfInBounds_toArray, List.set_cons_zero, List.set_cons_succ, List.getElem_toArray, List.getElem_cons_zero, List.getElem_cons_succ])
                refine wpAnyH_take (i := 1) (v := ?_) rfl (by kernel_rfl) (by kernel_rfl) (by kernel_rfl) (fun _ _ _ h => h) (Or.inl ⟨by kernel_rfl, ?_⟩) (by assumption) ?_
                rotate_left
                · (intro w hSw; (try dsimp only at hSw); go_simp; first | done | with_reducible rfl)
                (try simp only [Act.put, List.setIfInBounds_toArray, List.set_cons_zero, List.set_cons_succ, List.getElem_toArray, List.getElem_cons_zero, List.getElem_cons_succ])
                refine wpAnyH_take (i := 2) (v := ?_) rfl (by kernel_rfl) (by kernel_rfl) (by kernel_rfl) (fun _ _ _ h => h) (Or.inl ⟨by kernel_rfl, ?_⟩) (by assumption) ?_
                rotate_left
                · (intro w hSw; (try dsimp only at hSw); go_simp; first | done | with_reducible rfl)
                (try simp only [Act.put, List.setIfInBounds_toArray, List.set_cons_zero, List.set_cons_succ, List.getElem_toArray, List.getElem_cons_zero, List.getElem_cons_succ])
                refine wpAnyH_take (i := 3) (v := ?_) rfl (by kernel_rfl) (by kernel_rfl) (by kernel_rfl) (fun _ _ _ h => h) (Or.inl ⟨by kernel_rfl, ?_⟩) (by assumption) ?_
                rotate_left
                · (intro w hSw; (try dsimp only at hSw); go_simp; first | done | with_reducible rfl)
                (try simp only [Act.put, List.setIfInBounds_toArray, List.set_cons_zero, List.set_cons_succ, List.getElem_toArray, List.getElem_cons_zero, List.getElem_cons_succ])
                refine wpAnyH_take (i := 4) (v := ?_) rfl (by kernel_rfl) (by kernel_rfl) (by kernel_rfl) (fun _ _ _ h => h) (Or.inl ⟨by kernel_rfl, ?_⟩) (by assumption) ?_
                rotate_left
                · (intro w hSw; (try dsimp only at hSw); go_simp; first | done | with_reducible rfl)
                (try simp only [Act.put, List.setIfInBounds_toArray, List.set_cons_zero, List.set_cons_succ, List.getElem_toArray, List.getElem_cons_zero, List.getElem_cons_succ])
                refine wpAnyH_take (i := 5) (v := ?_) rfl (by kernel_rfl) (by kernel_rfl) (by kernel_rfl) (fun _ _ _ h => h) (Or.inl ⟨by kernel_rfl, ?_⟩) (by assumption) ?_
                rotate_left
                · (intro w hSw; (try dsimp only at hSw); go_simp; first | done | with_reducible rfl)
                (try simp only [Act.put, List.setIfInBounds_toArray, List.set_cons_zero, List.set_cons_succ, List.getElem_toArray, List.getElem_cons_zero, List.getElem_cons_succ])
                refine wpAnyH_take (i := 6) (v := ?_) rfl (by kernel_rfl) (by kernel_rfl) (by kernel_rfl) (fun _ _ _ h => h) (Or.inl ⟨by kernel_rfl, ?_⟩) (by assumption) ?_
                rotate_left
                · (intro w hSw; (try dsimp only at hSw); go_simp; first | done | with_reducible rfl)
                (try simp only [Act.put, List.setIfInBounds_toArray, List.set_cons_zero, List.set_cons_succ, List.getElem_toArray, List.getElem_cons_zero, List.getElem_cons_succ])
                refine wpAnyH_take (i := 7) (v := ?_) rfl (by kernel_rfl) (by kernel_rfl) (by kernel_rfl) (fun _ _ _ h => h) (Or.inl ⟨by kernel_rfl, ?_⟩) (by assumption) ?_
                rotate_left
                · (intro w hSw; (try dsimp only at hSw); go_simp; first | done | with_reducible rfl)
                (try simp only [Act.put, List.setIfInBounds_toArray, List.set_cons_zero, List.set_cons_succ, List.getElem_toArray, List.getElem_cons_zero, List.getElem_cons_succ])
                refine wpAnyH_take (i := 8) (v := ?_) rfl (by kernel_rfl) (by kernel_rfl) (by kernel_rfl) (fun _ _ _ h => h) (Or.inl ⟨by kernel_rfl, ?_⟩) (by assumption) ?_
                rotate_left
                · (intro w hSw; (try dsimp only at hSw); go_simp; first | done | with_reducible rfl)
                (try simp only [Act.put, List.setIfInBounds_toArray, List.set_cons_zero, List.set_cons_succ, List.getElem_toArray, List.getElem_cons_zero, List.getElem_cons_succ])
                refine wpAnyH_take (i := 10) (v := ?_) rfl (by kernel_rfl) (by kernel_rfl) (by kernel_rfl) (fun _ _ _ h => h) (Or.inl ⟨by kernel_rfl, ?_⟩) (by assumption) ?_
                rotate_left
                · (intro w hSw; (try dsimp only at hSw); go_simp; first | done | with_reducible rfl)
                (try simp only [Act.put, List.setIfInBounds_toArray, List.set_cons_zero, List.set_cons_succ, List.getElem_toArray, List.getElem_cons_zero, List.getElem_cons_succ])
                refine wpAnyH_take (i := 11) (v := ?_) rfl (by kernel_rfl) (by kernel_rfl) (by kernel_rfl) (fun _ _ _ h => h) (Or.inl ⟨by kernel_rfl, ?_⟩) (by assumption) ?_
                rotate_left
                · (intro w hSw; (try dsimp only at hSw); go_simp; first | done | with_reducible rfl)
                (try simp only [Act.put, List.setIfInBounds_toArray, List.set_cons_zero, List.set_cons_succ, List.getElem_toArray, List.getElem_cons_zero, List.getElem_cons_succ])
                refine wpAnyH_take (i := 12) (v := ?_) rfl (by kernel_rfl) (by kernel_rfl) (by kernel_rfl) (fun _ _ _ h => h) (Or.inl ⟨by kernel_rfl, ?_⟩) (by assumption) ?_
                rotate_left
                · (intro w hSw; (try dsimp only at hSw); go_simp; first | done | with_reducible rfl)
                (try simp only [Act.put, List.setIfInBounds_toArray, List.set_cons_zero, List.set_cons_succ, List.getElem_toArray, List.getElem_cons_zero, List.getElem_cons_succ])
                refine wpAnyH_take (i := 13) (v := ?_) rfl (by kernel_rfl) (by kernel_rfl) (by kernel_rfl) (fun _ _ _ h => h) (Or.inl ⟨by kernel_rfl, ?_⟩) (by assumption) ?_
                rotate_left
                · (intro w hSw; (try dsimp only at hSw); go_simp; first | done | with_reducible rfl)
                (try simp only [Act.put, List.setIfInBounds_toArray, List.set_cons_zero, List.set_cons_succ, List.getElem_toArray, List.getElem_cons_zero, List.getElem_cons_succ])
                refine wpAnyH_ready (rs := [9]) (by kernel_rfl) (by simp) ?_
                refine AllReadyH.cons rfl (fun KK hKK => ?_) AllReadyH.nil
                go_simp
                refine (snext_any w2.heap.size g (nx + 1) l0 l1 _ (HP9.out.p.below_ (Below.refl _ _).drew)).mono ?_
                rintro e w' ⟨rfl, rfl⟩
                go_wp2_with fail
                refine hKK.out _ _ ?_ (fun hHeld => ?_)
                · (exact y2)
                clear hKK KK
                (try simp only [Act.put, List.setIfInBounds_toArray, List.set_cons_zero, List.set_cons_succ, List.getElem_toArray, List.getElem_cons_zero, List.getElem_cons_succ])
                refine wpAnyH_take (i := 14) (v := ?_) rfl (by kernel_rfl) (by kernel_rfl) (by kernel_rfl) (fun _ _ _ h => h) (Or.inl ⟨by kernel_rfl, ?_⟩) (by assumption) ?_
                rotate_left
                · (intro w hSw; (try dsimp only at hSw); go_simp; first | done | with_reducible rfl)
                (try simp only [Act.put, List.setIfInBounds_toArray, List.set_cons_zero, List.set_cons_succ, List.getElem_toArray, List.getElem_cons_zero, List.getElem_cons_succ])
                refine wpAnyH_take (i := 15) (v := ?_) rfl (by kernel_rfl) (by kernel_rfl) (by kernel_rfl) (fun _ _ _ h => h) (Or.inl ⟨by kernel_rfl, ?_⟩) (by assumption) ?_
                rotate_left
                · (intro w hSw; (try dsimp only at hSw); go_simp; first | done | with_reducible rfl)
                (try simp only [Act.put, List.setIfInBounds_toArray, List.set_cons_zero, List.set_cons_succ, List.getElem_toArray, List.getElem_cons_zero, List.getElem_cons_succ])
                refine wpAnyH_done (by kernel_rfl) ?_ _
                go_wp2_with fail
                go_roundw
                case rel => exact ⟨i + 1, (nx + 1), by omega, by omega, by go_num, (by have := HNX.out; omega), HP9.out.below_ (Below.refl _ _).drew, (show w5.heap.size ≤ w9.heap.size from by omega), HB9.out.drew⟩
                case measure => simp [intOf] <;> omega
        · have hexit : ¬ i < len3 ∨ (i < len3 ∧ i = 20) := by omega
          have y2 := HP.out.d.slot
          rcases hexit with hx | ⟨hx, hx20⟩
          all_goals
            go_wp2_with fail
            refine wp_region_held_drew (S := fun w' => w'.cell? ⟨h, 2, none⟩ = some (.int .i64 (nx : Int))) (by kernel_rfl) (y2) (fun hHeld => ?_)
            refine wpAnyH_take (i := 0) (v := ?_) rfl (by kernel_rfl) (by kernel_rfl) (by kernel_rfl) (fun _ _ _ h => h) (Or.inl ⟨by kernel_rfl, ?_⟩) (by assumption) ?_
            rotate_left
            · (intro w hSw; (try dsimp only at hSw); go_simp; first | done | with_reducible rfl)
            (try simp only [Act.put, List.setIfInBounds_toArray, List.set_cons_zero, List.set_cons_succ, List.getElem_toArray, List.getElem_cons_zero, List.getElem_cons_succ])
            refine wpAnyH_take (i := 2) (v := ?_) rfl (by kernel_rfl) (by kernel_rfl) (by kernel_rfl) (fun _ _ _ h => h) (Or.inl ⟨by kernel_rfl, ?_⟩) (by assumption) ?_
            rotate_left
            · (intro w hSw; (try dsimp only at hSw); go_simp; first | done | with_reducible rfl)
            (try simp only [Act.put, List.setIfInBounds_toArray, List.set_cons_zero, List.set_cons_succ, List.getElem_toArray, List.getElem_cons_zero, List.getElem_cons_succ])
            refine wpAnyH_take (i := 3) (v := ?_) rfl (by kernel_rfl) (by kernel_rfl) (by kernel_rfl) (fun _ _ _ h => h) (Or.inl ⟨by kernel_rfl, ?_⟩) (by assumption) ?_
            rotate_left
            · (intro w hSw; (try dsimp only at hSw); go_simp; first | done | with_reducible rfl)
            (try simp only [Act.put, List.setIfInBounds_toArray, List.set_cons_zero, List.set_cons_succ, List.getElem_toArray, List.getElem_cons_zero, List.getElem_cons_succ])
            refine wpAnyH_take (i := 4) (v := ?_) rfl (by kernel_rfl) (by kernel_rfl) (by kernel_rfl) (fun _ _ _ h => h) (Or.inl ⟨by kernel_rfl, ?_⟩) (by assumption) ?_
            rotate_left
            · (intro w hSw; (try dsimp only at hSw); go_simp; first | done | with_reducible rfl)
            (try simp only [Act.put, List.setIfInBounds_toArray, List.set_cons_zero, List.set_cons_succ, List.getElem_toArray, List.getElem_cons_zero, List.getElem_cons_succ])
            refine wpAnyH_take (i := 5) (v := ?_) rfl (by kernel_rfl) (by kernel_rfl) (by kernel_rfl) (fun _ _ _ h => h) (Or.inl ⟨by kernel_rfl, ?_⟩) (by assumption) ?_
            rotate_left
            · (intro w hSw; (try dsimp only at hSw); go_simp; first | done | with_reducible rfl)
            (try simp only [Act.put, List.setIfInBounds_toArray, List.set_cons_zero, List.set_cons_succ, List.getElem_toArray, List.getElem_cons_zero, List.getElem_cons_succ])
            refine wpAnyH_ready (rs := [1]) (by kernel_rfl) (by simp) ?_
            refine AllReadyH.cons rfl (fun KK hKK => ?_) AllReadyH.nil
            go_simp
            refine (snext_any w2.heap.size g nx l0 l1 _ (HP.out.p.below_ (Below.refl _ _).drew)).mono ?_
            rintro e w' ⟨rfl, rfl⟩
            go_wp2_with fail
            refine hKK.out _ _ ?_ (fun hHeld => ?_)
            · (exact y2)
            clear hKK KK
            (try simp only [Act.put, List.setIfInBounds_toArray, List.set_cons_zero, List.set_cons_succ, List.getElem_toArray, List.getElem_cons_zero, List.getElem_cons_succ])
            refine wpAnyH_take (i := 6) (v := ?_) rfl (by kernel_rfl) (by kernel_rfl) (by kernel_rfl) (fun _ _ _ h => h) (Or.inl ⟨by kernel_rfl, ?_⟩) (by assumption) ?_
            rotate_left
            · (intro w hSw; (try dsimp only at hSw); go_simp; first | done | with_reducible rfl)
            (try simp only [Act.put, List.setIfInBounds_toArray, List.set_cons_zero, List.set_cons_succ, List.getElem_toArray, List.getElem_cons_zero, List.getElem_cons_succ])
            refine wpAnyH_take (i := 7) (v := ?_) rfl (by kernel_rfl) (by kernel_rfl) (by kernel_rfl) (fun _ _ _ h => h) (Or.inl ⟨by kernel_rfl, ?_⟩) (by assumption) ?_
            rotate_left
            · (intro w hSw; (try dsimp only at hSw); go_simp; first | done | with_reducible rfl)
            (try simp only [Act.put, List.setIfInBounds_toArray, List.set_cons_zero, List.set_cons_succ, List.getElem_toArray, List.getElem_cons_zero, List.getElem_cons_succ])
            refine wpAnyH_done (by kernel_rfl) ?_ _
            go_wp2_with fail
            go_ret
            exact ⟨rfl, HBR.out.drew⟩
    · have HNO := Lib.hid (show ¬ KeyOk l0 ∨ a2 < 0 from (Classical.em (KeyOk l0)).elim (fun h => .inr (Int.not_le.1 fun h' => hk ⟨h, h'⟩)) .inl)
      clear hk hb20 hb21
      go_enter Tryz.func5, Tryz.ntmps5
      go_wp2_with fail
      refine (Box.small_any _).mono ?_
      rintro e w1 ⟨rfl, hb1⟩
      have hbW := hb1.alloc hb1.size (.cells #[.slice a0 len0 cap0, .slice a1 len1 cap1] 22)
      have hcl : ∀ j (hj : j < ([(⟨a0, len0, cap0, l0⟩ : Part), ⟨a1, len1, cap1, l1⟩] : List Part).length), (w1.alloc (.cells #[.slice a0 len0 cap0, .slice a1 len1 cap1] 22)).cell? ⟨w1.heap.size, j, none⟩ = some ([(⟨a0, len0, cap0, l0⟩ : Part), ⟨a1, len1, cap1, l1⟩] : List Part)[j].val := lits_cell 22 [(⟨a0, len0, cap0, l0⟩ : Part), ⟨a1, len1, cap1, l1⟩]
      have HCL := Lib.hid hcl
      clear hcl
      go_wp2_with fail
      refine (fits_any w1.heap.size 2 2 [(⟨a0, len0, cap0, l0⟩ : Part), ⟨a1, len1, cap1, l1⟩] _ rfl (by omega) HCL.out true (decide_eq_true (by simp only [List.mem_cons, List.not_mem_nil, or_false, forall_eq_or_imp, forall_eq]; exact HFIT.out)).symm).mono ?_
      rintro e w2 ⟨rfl, rfl⟩
      clear HCL
      generalize w1.alloc (.cells #[.slice a0 len0 cap0, .slice a1 len1 cap1] 22) = W1 at hbW ⊢
      have HB1 := Lib.hid hbW
      clear hbW hb1
      go_wp2_with fail
      refine (lent_any a0 len0 cap0 l0 W1 w.heap.size HB1.out.size HL0.out (by omega) (HR0.out.below HB1.out)).mono ?_
      rintro e w2 ⟨rfl, hrow, hb2⟩
      have hz2 := hb2.size
      have hg2 : W1.heap.size < w2.heap.size := hrow.lt
      have HB2 := Lib.hid (HB1.out.trans (hb2.mono HB1.out.size))
      have HW2 := Lib.hid hrow
      clear hrow hb2
      go_wp2_with fail
      refine (snew_no (some ⟨W1.heap.size, 0, none⟩) len0 (len0 + 1) l0 a1 len1 cap1 a2 w2 HL0.out HW2.out.rd_take HNO.out).mono ?_
      rintro e w3 ⟨rfl, hb3⟩
      have HB3 := Lib.hid (HB2.out.trans (hb3.mono HB2.out.size))
      have hz3 := hb3.size
      have HK3 := Lib.hid (HW2.out.below hb3 hg2)
      clear hb3 HW2
      go_wp2_with fail
      refine (kept_any a0 len0 cap0 W1.heap.size l0 w3 w.heap.size HL0.out (by omega) (HR0.out.below HB3.out) HK3.out).mono ?_
      rintro e w4 ⟨rfl, rfl⟩
      go_wp2_with fail
      have qk : RowIn w3 ⟨some W1.heap.size, len0, len0 + 1⟩ W1.heap.size (W1.heap.size + 1) := orow_row HK3.out (by omega) (by rw [List.length_append, HL0.out]; rfl) (by omega)
      have hzW := HB1.out.size
      refine (owned1f_any w3 (.slice (some ⟨W1.heap.size, 0, none⟩) len0 (len0 + 1)) ⟨some W1.heap.size, len0, len0 + 1⟩ W1.heap.size (W1.heap.size + 1) rfl qk (by omega)).mono ?_
      rintro e w5 ⟨rfl, hF5⟩
      have hz5 := hF5.size
      have HB5 := Lib.hid (HB3.out.trans (hF5.toBelow (B := w.heap.size) (fun k hk => ⟨by omega, fun e => by injection e with e; omega⟩)))
      clear hF5 qk HK3
      go_wp2_with fail
      refine (rsnew_no a0 len0 cap0 l0 a1 len1 cap1 a2 w5 HL0.out hf0 (rd_now HR0.out HB5.out) HNO.out).mono ?_
      rintro e w6 ⟨rfl, hb6⟩
      have HB6 := Lib.hid (HB5.out.trans (hb6.mono HB5.out.size))
      clear hb6
      go_wp2_with fail
      go_ret
      exact ⟨rfl, HB6.out⟩
  · have HFIT := Lib.hid hfit
    clear hfit hb20 hb21
    go_enter Tryz.func5, Tryz.ntmps5
    go_wp2_with fail
    refine (Box.small_any _).mono ?_
    rintro e w1 ⟨rfl, hb1⟩
    have hbW := hb1.alloc hb1.size (.cells #[.slice a0 len0 cap0, .slice a1 len1 cap1] 22)
    have hcl : ∀ j (hj : j < ([(⟨a0, len0, cap0, l0⟩ : Part), ⟨a1, len1, cap1, l1⟩] : List Part).length), (w1.alloc (.cells #[.slice a0 len0 cap0, .slice a1 len1 cap1] 22)).cell? ⟨w1.heap.size, j, none⟩ = some ([(⟨a0, len0, cap0, l0⟩ : Part), ⟨a1, len1, cap1, l1⟩] : List Part)[j].val := lits_cell 22 [(⟨a0, len0, cap0, l0⟩ : Part), ⟨a1, len1, cap1, l1⟩]
    have HCL := Lib.hid hcl
    clear hcl
    go_wp2_with fail
    refine (fits_any w1.heap.size 2 2 [(⟨a0, len0, cap0, l0⟩ : Part), ⟨a1, len1, cap1, l1⟩] _ rfl (by omega) HCL.out false (decide_eq_false (by simp only [List.mem_cons, List.not_mem_nil, or_false, forall_eq_or_imp, forall_eq]; exact HFIT.out)).symm).mono ?_
    rintro e w2 ⟨rfl, rfl⟩
    clear HCL
    generalize w1.alloc (.cells #[.slice a0 len0 cap0, .slice a1 len1 cap1] 22) = W1 at hbW ⊢
    have HB1 := Lib.hid hbW
    clear hbW hb1
    go_wp2_with fail
    go_ret
    exact ⟨rfl, HB1.out⟩

set_option maxRecDepth 100000 in
theorem lifted (os : Os) (started : os.Started) (H : Type) (enc : TypeId × Value → H) :
    ReturnsInHanded {} Tryz.checked os 5 .any (Rows.boxCountsSpec.pre6 enc Tryz.prog Tryz.f5 Rows.boxCountsRow.domain false) (Rows.boxCountsSpec.post enc Tryz.prog Tryz.f5 false true false false) := by
  refine returnsInHanded_of_change_sized (C := Tryz.checked) own started (by kernel_rfl) Tryz.func5
    (ChangeSpec.witness6 (enc := enc) (C := Tryz.checked) false ⟨#[], #[.slice none 0 0, .slice none 0 0, .int .i64 0, .slice none 0 0], []⟩ 8 (by kernel_rfl) (by kernel_rfl) (by kernel_rfl) (by kernel_rfl)) ?_
  intro W base args ds gs before hval0 hW hcnd hsz0 _
  have hval : ∀ (j : Nat) t v, Tryz.f5.params[j]? = some t → args[j]? = some v → Value.okWide Tryz.prog W .any base t v := hval0
  have hsz : (DataW.weightsEach Tryz.prog (Tryz.f5.params.toList ++ Rows.boxCountsSpec.plain.varTypes Tryz.prog) (ds ++ gs)).all (· ≤ reachBytes) = true := hsz0
  clear hsz0
  have hW' := hW
  obtain ⟨p, q, hA0, hV, rfl, hfz, hnd⟩ := hW
  have hA : DataW.TrodAll enc Tryz.prog W 0 (fun _ => true) true Tryz.f5.params.toList args.toList ds p := hA0
  rw [Tryz.params5] at hA hval hsz
  obtain ⟨v0, vs0, d0, ds0, p0, q0, hargs, rfl, rfl, h0, r0⟩ := trodAll_cons hA
  obtain ⟨v1, vs1, d1, ds1, p1, q1, rfl, rfl, rfl, h1, r1⟩ := trodAll_cons r0
  obtain ⟨v2, vs2, d2, ds2, p2, q2, rfl, rfl, rfl, h2, r2⟩ := trodAll_cons r1
  obtain ⟨v3, vs3, d3, ds3, p3, q3, rfl, rfl, rfl, h3, r3⟩ := trodAll_cons r2
  obtain ⟨rfl, rfl, rfl⟩ := trodAll_nil r3
  obtain rfl : args = #[v0, v1, v2, v3] := by cases args; simp_all
  obtain ⟨rfl, rfl⟩ := trodVars_none hV
  obtain ⟨a0, len0, cap0, rfl⟩ := okWide_slice Tryz.underlying22 (hval 0 22 v0 rfl rfl)
  have k0 := h0
  have lt0 : ∀ x ∈ p0, x.block < W.heap.size := by obtain ⟨m, hm⟩ := k0; exact DataW.trod_lt m _ _ _ hm
  obtain ⟨l0, w0⟩ := open_bytes u8 (by kernel_rfl) (by kernel_rfl) h0 hsz (j := 0) rfl rfl
  obtain ⟨a1, len1, cap1, rfl⟩ := okWide_slice Tryz.underlying22 (hval 1 22 v1 rfl rfl)
  have k1 := h1
  have lt1 : ∀ x ∈ p1, x.block < W.heap.size := by obtain ⟨m, hm⟩ := k1; exact DataW.trod_lt m _ _ _ hm
  obtain ⟨l1, w1⟩ := open_bytes u8 (by kernel_rfl) (by kernel_rfl) h1 hsz (j := 1) rfl rfl
  obtain ⟨a3, len3, cap3, rfl⟩ := okWide_slice Tryz.underlying25 (hval 3 25 v3 rfl rfl)
  have k3 := h3
  have lt3 : ∀ x ∈ p3, x.block < W.heap.size := by obtain ⟨m, hm⟩ := k3; exact DataW.trod_lt m _ _ _ hm
  obtain ⟨ps3, w3⟩ := open_rows Tryz.underlying25 Tryz.underlying22 Tryz.underlying5 (by kernel_rfl) (by kernel_rfl) h3
  clear hsz
  obtain ⟨a2, rfl, rfl, rfl, w2⟩ := open_int Tryz.underlying3 (hval 2 3 v2 rfl rfl) h2
  clear hA0 hval0
  simp only [List.append_nil] at hW'
  refine (walk a0 len0 cap0 l0 a1 len1 cap1 l1 a2 a3 len3 cap3 ps3 W w0 w1 w2 w3).mono fun e W' ⟨he, bel⟩ => ?_
  subst he
  exact ⟨_, rfl, _, _, _, [], _, [], hW', trodAll_mk1 (shut_bool Tryz.underlying4 _), (trodAll_cons_mk (Below.trod laidOut (by kernel_rfl) (of_decide_eq_true (by kernel_rfl)) k0 bel lt0) (trodAll_cons_mk (Below.trod laidOut (by kernel_rfl) (of_decide_eq_true (by kernel_rfl)) k1 bel lt1) (trodAll_cons_mk (shut_int Tryz.underlying3 w2) (trodAll_cons_mk (Below.trod laidOut (by kernel_rfl) (of_decide_eq_true (by kernel_rfl)) k3 bel lt3) trodAll_mk0)))), rfl, bel.frame _, fun h => by cases h⟩

theorem over : Rows.boxCountsRow.holds Tryz.pinned (OpenSpec.ofChange Rows.boxCountsSpec) :=
  OpenClaim.holds_of_wide 5 Tryz.f5 rfl rfl rfl rfl rfl rfl rfl ⟨rfl, rfl, rfl, rfl, rfl⟩ rfl rfl rfl rfl rfl (by kernel_rfl) Tryz.func5 (by kernel_rfl)
    (of_decide_eq_true (by kernel_rfl)) (by unfold Func.isWrapper; first | (rw [if_pos (by decide +kernel)]; kernel_rfl) | (rw [if_neg (by decide +kernel)]; exact ⟨rfl, rfl⟩))
    (fun os started H enc _ => lifted os started H enc)

theorem proved : Rows.BoxCountsSaid := over
end Go.Proofs.YtcbihjcnnfohmaaGreat.boxCounts
