/- The law 'AesRounds' answers true for every input, and its arguments read afterwards as before; no condition. The frame follows the kit's skeleton; the walk is ours. -/
import Derived.Test.YtcbihjcnnfohmaaRows
import Derived.Test.YtcbihjcnnfohmaaArgs
import Derived.Test.YtcbihjcnnfohmaaAesLaw
import Derived.Test.YtcbihjcnnfohmaaAesRefD
import Derived.Test.YtcbihjcnnfohmaaRwsOwn
import Derived.WalkKit
import Derived.ProofKit
import Derived.OpenShut
import Derived.ShutString
import Derived.ChangeOld
import Derived.Below
import Derived.SizedLaws
namespace Go.Proofs.Ytcbihjcnnfohmaa.aesRounds
open Go.ChangeShapes Go.WideShapes Go.ChangeAt Go.RowKit
set_option linter.unusedVariables false

theorem own : ownKnob Try.prog.godebug = none := by kernel_rfl
theorem laidOut : laidOutB Try.prog = true := by kernel_rfl

open Aes
set_option linter.unusedSimpArgs false
def Both (W : World) (a b : Addr) (N : Nat) : Prop := ∀ t, t < N → ∃ A c A' c' s, W.cell? (a.add t) = some (.slice A 16 c) ∧ W.cell? (b.add t) = some (.slice A' 16 c') ∧ (∀ nq, (convert 22 9 (.slice A 16 c)).run Try.prog (W.drewN nq) = .ok (.string s) (W.drewN nq)) ∧ (∀ nq, (convert 22 9 (.slice A' 16 c')).run Try.prog (W.drewN nq) = .ok (.string s) (W.drewN nq))
theorem both_of {W : World} {tb e : TypeId} {base g n i co cx N : Nat} {ad adx : Addr} {vs : List Value} {key : Blk} {S : Nat → Prop} (hN : n + 7 = N) (hR : Rws W tb e base (.slice (some ad) i co) vs (rounds n key)) (hX : RKeyS W S g n key) (HS : ∀ k, S k → k < W.heap.size) (hc : W.cell? ⟨g, 0, none⟩ = some (.slice (some adx) N cx)) : Both W ad adx N := by
  subst hN
  intro t ht
  have hok := rounds_ok hX.kl (by have := hX.nk; omega) (by have := hX.nk; omega)
  have hl16 : (rkey (rounds n key) t).length = 16 := hok.at_ (by rw [rounds_length]; exact ht)
  obtain ⟨ad1, h1, _, _, hrows⟩ := rws_ptr hR (by rw [hR.len, rounds_length]; omega)
  injection h1 with h1
  subst h1
  obtain ⟨A, c, k1, k2, _⟩ := hrows t (rkey (rounds n key) t) (by rw [rkey, List.getD_eq_getElem?_getD, List.getElem?_eq_getElem (by rw [rounds_length]; exact ht)]; rfl)
  obtain ⟨ad2, c2, j1, _, _, j2⟩ := hX.rv
  rw [hc] at j1
  injection j1 with j1
  injection j1 with j1
  injection j1 with j1
  subst j1
  obtain ⟨A', c', m1, _, m2⟩ := j2 t ht
  have s1 := fun nq => Rd.str u8 9 Try.underlying9 (w := W.drewN nq) (k2.below (below_drewN _ _ _)) c
  have s2 := fun nq => Rd.str u8 9 Try.underlying9 (w := W.drewN nq) (((m2.rd (B := W.heap.size) (fun k hk => HS k hk))).below (below_drewN _ _ _)) c'
  rw [hl16] at k1 s1 s2
  exact ⟨A, c, A', c', _, k1, m1, s1, s2⟩

set_option maxRecDepth 100000 in
set_option maxHeartbeats 4000000 in
theorem walk (a0 : Option Addr) (len0 cap0 : Nat) (l0 : List UInt8) (w : World) (w0 : ArgB w a0 len0 cap0 l0) :
    Calls Try.prog 5 #[.slice a0 len0 cap0] w fun e w' => e = .returned (.bool true) ∧ Below w.heap.size w w' := by
  obtain ⟨hl0, hf0, hm0, hr0⟩ := w0
  have HL0 := Lib.hid hl0
  have HR0 := Lib.hid hr0
  have HM0 := Lib.hid (show len0 ≤ 140737488355328 by omega)
  clear hl0 hr0
  by_cases hk : KeyOk l0
  · have HK := Lib.hid hk
    have HN := Lib.hid hk.four
    obtain ⟨n, hn⟩ : ∃ n, l0.length / 4 = n := ⟨_, rfl⟩
    have HNE := Lib.hid hn
    rw [hn] at HN
    obtain ⟨N7, hN7⟩ : ∃ N7, n + 7 = N7 := ⟨_, rfl⟩
    have HN7 := Lib.hid hN7
    have HN15 := Lib.hid (show N7 ≤ 15 by have := HN.out.1; omega)
    clear hk hn hN7
    go_enter Try.func5, Try.ntmps5
    go_wp2_with fail
    refine (small_any _).mono ?_
    rintro e w1 ⟨rfl, hb1⟩
    have hz1 := hb1.size
    have HB1 := Lib.hid hb1
    clear hb1
    go_wp2_with fail
    refine (lent_any a0 len0 cap0 l0 w1 w.heap.size HB1.out.size HL0.out HM0.out (HR0.out.below HB1.out)).mono ?_
    rintro e w2 ⟨rfl, hrow2, hb2⟩
    have hz2 := hb2.size
    have hr2 : w1.heap.size < w2.heap.size := hrow2.lt
    have HB2 := Lib.hid (HB1.out.trans (hb2.mono HB1.out.size))
    have HW2 := Lib.hid hrow2
    clear hrow2 hb2
    go_wp2_with fail
    refine (new_any (some ⟨w1.heap.size, 0, none⟩) len0 _ l0 w2 w2.heap.size (Nat.le_refl _) HL0.out HW2.out.rd_take HK.out).mono ?_
    rintro e w3 ⟨g, B3, rfl, hK3, hb3⟩
    have hz3 := hb3.size
    have HK3 := Lib.hid (show KeyIs w3 w2.heap.size B3 g l0 from .inl hK3)
    have HW3 := Lib.hid (show Row w3 5 w1.heap.size (l0 ++ [77]) from HW2.out.below hb3 hr2)
    have HB3 := Lib.hid (HB2.out.trans (hb3.mono HB2.out.size))
    clear hK3 hb3
    go_wp2_with fail
    refine (kept_any a0 len0 cap0 w1.heap.size l0 w3 w.heap.size HL0.out HM0.out (HR0.out.below HB3.out) HW3.out).mono ?_
    rintro e w4 ⟨rfl, rfl⟩
    have qi : RowIn w3 ⟨some w1.heap.size, len0, len0 + 1⟩ w1.heap.size (w1.heap.size + 1) := orow_row HW3.out (by omega) (by rw [List.length_append, HL0.out]; rfl) (by have := HM0.out; omega)
    have hown : Owns (w3.alloc (.cells #[.slice (some ⟨w1.heap.size, 0, none⟩) len0 (len0 + 1)] 22)) (some ⟨w3.heap.size, 0, none⟩) [⟨some w1.heap.size, len0, len0 + 1⟩] := by
      have := owns_new (w := w3) 22 [((⟨some w1.heap.size, len0, len0 + 1⟩ : ORow), w1.heap.size, w1.heap.size + 1)]
        (by
          intro x hx
          simp only [List.mem_cons, List.not_mem_nil, or_false] at hx
          subst hx
          exact ⟨qi, by show w1.heap.size + 1 ≤ _; omega⟩)
        (by simp only [List.pairwise_cons, List.not_mem_nil, List.Pairwise.nil, and_true, false_implies, implies_true])
      exact this
    have HOWN := Lib.hid hown
    clear hown qi
    go_wp2_with fail
    refine (owned_any _ 1 1 _ _ rfl (by omega) HOWN.out).mono ?_
    rintro e w4 ⟨rfl, hI⟩
    have HB4 := Lib.hid ((HB3.out.alloc HB3.out.size (.cells #[.slice (some ⟨w1.heap.size, 0, none⟩) len0 (len0 + 1)] 22)).trans (hI.below_ (B := w.heap.size) (fun r hr g hg => by
      simp only [List.mem_cons, List.not_mem_nil, or_false] at hr
      subst hr
      injection hg with hg
      omega)))
    have HF4 := Lib.hid (show Frame (fun k => k < w3.heap.size ∧ k ≠ w1.heap.size) w3 w4 from Frame.trans ((Frame.refl _ w3).alloc (fun k hk => hk.1) _) (hI.frame (S := fun k => k < w3.heap.size ∧ k ≠ w1.heap.size) (fun r hr g hg hk => by
      simp only [List.mem_cons, List.not_mem_nil, or_false] at hr
      subst hr
      injection hg with hg
      exact hk.2 hg.symm)) (fun k hk => hk))
    have hz4 := HF4.out.size
    clear hI
    go_wp2_with fail
    have HLT4 := Lib.hid HK3.out.lt
    have HK4 := Lib.hid (HK3.out.frame HF4.out (fun k hk => ⟨(HK3.out.lt k hk).2, by have := (HK3.out.lt k hk).1; omega⟩))
    refine (refnew_any a0 len0 cap0 n l0 HN.out.1 (by rw [← HL0.out]; exact HN.out.2) HL0.out hf0 w4 (rd_now_ HR0.out HB4.out)).mono ?_
    rintro e w5 ⟨gx, rfl, hX5, hb5⟩
    have hz5 := hb5.size
    have HX5 := Lib.hid hX5
    have HK5 := Lib.hid (HK4.out.below_ hb5)
    have HB5 := Lib.hid (HB4.out.trans (hb5.mono HB4.out.size))
    clear hX5 hb5
    go_wp2_with fail
    refine (rounds_any w2.heap.size B3 g l0 w5 HK5.out (by omega)).mono ?_
    rintro e w6 ⟨v6, vs6, B6, rfl, hR6, hK6, hF6, hB6, hv6⟩
    rw [HNE.out] at hR6
    have hvl6 : vs6.length = N7 := by rw [hR6.len, rounds_length, HN7.out]
    obtain ⟨A6, c6, rfl, hc6, _, _⟩ := hR6.own.len
    rw [hvl6] at hR6 ⊢
    obtain ⟨ad6, hA6, _⟩ := rws_ptr hR6 (by have := HN7.out; omega)
    subst hA6
    have hz6 := hF6.size
    have hXs : ∀ k, (w4.heap.size ≤ k ∧ k < w5.heap.size) → Off w5 B3 k := fun k hk => ⟨hk.2, fun hb => by have := (HLT4.out _ hb).2; omega⟩
    have HX6 := Lib.hid (HX5.out.frame (hF6.mono hXs))
    have HB6 := Lib.hid (HB5.out.trans (off_below HK5.out hF6 (by omega) (by omega)))
    have HK6 := Lib.hid (show KeyIs w6 w2.heap.size B6 g l0 from .inr hK6)
    have HLT6 := Lib.hid (show ∀ k, B6 k → k < w3.heap.size ∨ w5.heap.size ≤ k from fun k hk => (hB6 k hk).imp (fun h => (HLT4.out k h).2) id)
    have HR6 := Lib.hid hR6
    have HV6 := Lib.hid hv6
    have HVL6 := Lib.hid hvl6
    clear hR6 hK6 hF6 hB6 hv6 hXs hvl6
    go_wp2_with fail
    refine (rounds_any w2.heap.size B6 g l0 w6 HK6.out (by omega)).mono ?_
    rintro e w7 ⟨v7, vs7, B7, rfl, hR7, hK7, hF7, hB7, hv7⟩
    rw [HNE.out] at hR7
    have hvl7 : vs7.length = N7 := by rw [hR7.len, rounds_length, HN7.out]
    obtain ⟨A7, c7, rfl, hc7, _, _⟩ := hR7.own.len
    rw [hvl7] at hR7 ⊢
    obtain ⟨ad7, hA7, _⟩ := rws_ptr hR7 (by have := HN7.out; omega)
    subst hA7
    have hz7 := hF7.size
    have hXs : ∀ k, (w4.heap.size ≤ k ∧ k < w5.heap.size) → Off w6 B6 k := fun k hk => ⟨by omega, fun hb => by have := HLT6.out _ hb; omega⟩
    have HX7 := Lib.hid (HX6.out.frame (hF7.mono hXs))
    have HB7 := Lib.hid (HB6.out.trans (off_below HK6.out hF7 (by omega) (by omega)))
    have HI6 := Lib.hid (fun k (hk : Rws.In (.slice (some ad6) N7 c6) vs6 k) => HR6.out.inlt k hk)
    have HP6 := Lib.hid (HR6.out.frame hF7 (fun k hk => ⟨(HR6.out.inlt k hk).2, HV6.out k hk⟩))
    have HR7 := Lib.hid hR7
    clear hR7 hK7 hF7 hB7 hv7 hXs hvl7
    go_wp2_with fail
    refine (roundsof_any gx n w7.heap.size l0 w7 (HX7.out.rk (fun k hk => by omega))).mono ?_
    rintro e w8 ⟨⟨adx, cx, rfl, hcx⟩, rfl⟩
    rw [HN7.out] at hcx ⊢
    have HCX := Lib.hid hcx
    have n15 : N7 ≤ 15 := HN15.out
    clear hcx
    go_wp2_with fail
    go_loopw [13] (fun i wr => ∃ t : Nat, t ≤ N7 ∧ i = .int .i64 (t : Int) ∧ Below w7.heap.size w7 wr) (fun i _ => 100 - (intOf i).toNat)
    case atStart => exact ⟨0, by omega, rfl, Below.refl _ _⟩
    case round =>
      obtain ⟨t, ht, rfl, hbr⟩ := hrel
      have hzr := hbr.size
      have HXr := Lib.hid (HX7.out.frame (Frame.of_below hbr (fun k hk => by omega)))
      have HPr := Lib.hid (HP6.out.below_ hbr)
      have HBr := Lib.hid hbr
      have hcxr := (hbr.cell (p := ⟨gx, 0, none⟩) (by show gx < _; have := HX7.out.lt.2; omega)).trans HCX.out
      have HBO := Lib.hid (both_of HN7.out HPr.out HXr.out (fun k hk => by omega) hcxr)
      clear hbr
      by_cases hlt : t < N7
      · obtain ⟨A, c, A', c', s, x1, x2, x3, x4⟩ := HBO.out t hlt
        have hti : (t : Int) < (N7 : Int) := by omega
        clear hcxr
        go_wp2_with fail
        go_quiet (fail)
        go_wp2
        go_roundw
        case rel => exact ⟨t + 1, by omega, by go_num, HBr.out.trans (below_drewN _ _ _)⟩
        case measure => simp [intOf]; omega
      · have hti : ¬ (t : Int) < (N7 : Int) := by omega
        have et : t = N7 := by omega
        obtain ⟨wo, rfl⟩ : ∃ wo : World, wo = wr := ⟨_, rfl⟩
        have HCXo := Lib.hid hcxr
        obtain ⟨hOw, hIn⟩ := owns_rws HPr.out
        have HOW := Lib.hid hOw
        have HIN := Lib.hid hIn
        clear hOw hIn hcxr et
        go_wp2_with fail
        refine (owned_any (some ad6) N7 c6 (vs6.map toO) wo (by rw [List.length_map]; exact HVL6.out) (by omega) HOW.out).mono ?_
        rintro e w9 ⟨rfl, hI⟩
        have hz9 : w9.heap.size = wo.heap.size := hI.size
        have HF9 := Lib.hid (hI.frame (S := fun k => w6.heap.size ≤ k ∨ k < w5.heap.size) (fun r hr g hg hk => by have := HI6.out g (HIN.out r hr g hg); omega))
        have HX9 := Lib.hid (HXr.out.frame (HF9.out.mono (fun k hk => .inr hk.2)))
        have HR9 := Lib.hid ((HR7.out.below_ HBr.out).frame HF9.out (fun k hk => .inl (HR7.out.inlt k hk).1))
        have HB9 := Lib.hid (HB7.out.trans (((HBr.out.mono (by have := HB7.out.size; omega : w.heap.size ≤ w7.heap.size))).trans (hI.below_ (B := w.heap.size) (fun r hr g hg => by have := HI6.out g (HIN.out r hr g hg); have := HB5.out.size; omega))))
        have HCX9 := Lib.hid ((World.cell?_of_block (a := ⟨gx, 0, none⟩) (HF9.out.block gx (.inr HX7.out.lt.2))).trans HCXo.out)
        have HZ9 := Lib.hid (show w7.heap.size ≤ w9.heap.size by rw [hz9]; exact hzr)
        clear hI hz9
        go_wp2_with fail
        go_loopw [15] (fun i wr => ∃ t : Nat, t ≤ N7 ∧ i = .int .i64 (t : Int) ∧ Below w9.heap.size w9 wr) (fun i _ => 100 - (intOf i).toNat)
        case atStart => exact ⟨0, by omega, rfl, Below.refl _ _⟩
        case round =>
          obtain ⟨t2, ht2, rfl, hbr⟩ := hrel
          have hX' := HX9.out.frame (Frame.of_below hbr (fun k hk => by have := HZ9.out; omega))
          have hP' := HR9.out.below_ hbr
          have hcxr := (hbr.cell (p := ⟨gx, 0, none⟩) (by show gx < _; have := HX7.out.lt.2; have := HZ9.out; omega)).trans HCX9.out
          have HBr' := Lib.hid hbr
          have HBO' := Lib.hid (both_of HN7.out hP' hX' (fun k hk => by have := HZ9.out; have := hbr.size; omega) hcxr)
          clear hbr hX' hP' hcxr
          by_cases hlt2 : t2 < N7
          · obtain ⟨A, c, A', c', s, x1, x2, x3, x4⟩ := HBO'.out t2 hlt2
            have hti2 : (t2 : Int) < (N7 : Int) := by omega
            go_wp2_with fail
            go_quiet (fail)
            go_wp2
            go_roundw
            case rel => exact ⟨t2 + 1, by omega, by go_num, HBr'.out.trans (below_drewN _ _ _)⟩
            case measure => simp [intOf]; omega
          · have hti2 : ¬ (t2 : Int) < (N7 : Int) := by omega
            go_wp2_with fail
            go_ret
            exact ⟨rfl, HB9.out.trans (HBr'.out.mono (by have := HB7.out.size; have := HZ9.out; omega))⟩
  · have HK := Lib.hid hk
    have HNE := Lib.hid (show len0 ≠ 16 ∧ len0 ≠ 32 from ⟨fun e => hk (.inl (by rw [HL0.out]; exact e)), fun e => hk (.inr (by rw [HL0.out]; exact e))⟩)
    clear hk
    go_enter Try.func5, Try.ntmps5
    go_wp2_with fail
    refine (small_any _).mono ?_
    rintro e w1 ⟨rfl, hb1⟩
    have hz1 := hb1.size
    have HB1 := Lib.hid hb1
    clear hb1
    go_wp2_with fail
    refine (lent_any a0 len0 cap0 l0 w1 w.heap.size HB1.out.size HL0.out HM0.out (HR0.out.below HB1.out)).mono ?_
    rintro e w2 ⟨rfl, hrow2, hb2⟩
    have hz2 := hb2.size
    have hr2 : w1.heap.size < w2.heap.size := hrow2.lt
    have HB2 := Lib.hid (HB1.out.trans (hb2.mono HB1.out.size))
    have HW2 := Lib.hid hrow2
    clear hrow2 hb2
    go_wp2_with fail
    refine (new_no (some ⟨w1.heap.size, 0, none⟩) len0 _ l0 w2 HL0.out HK.out).mono ?_
    rintro e w3 ⟨rfl, rfl⟩
    obtain ⟨w3, e3⟩ : ∃ w3, w2 = w3 := ⟨_, rfl⟩
    subst e3
    have HW3 := HW2
    have HB3 := HB2
    go_wp2_with fail
    refine (kept_any a0 len0 cap0 w1.heap.size l0 w2 w.heap.size HL0.out HM0.out (HR0.out.below HB2.out) HW2.out).mono ?_
    rintro e w4 ⟨rfl, rfl⟩
    have qi : RowIn w2 ⟨some w1.heap.size, len0, len0 + 1⟩ w1.heap.size (w1.heap.size + 1) := orow_row HW3.out (by omega) (by rw [List.length_append, HL0.out]; rfl) (by have := HM0.out; omega)
    have hown : Owns (w2.alloc (.cells #[.slice (some ⟨w1.heap.size, 0, none⟩) len0 (len0 + 1)] 22)) (some ⟨w2.heap.size, 0, none⟩) [⟨some w1.heap.size, len0, len0 + 1⟩] := by
      have := owns_new (w := w2) 22 [((⟨some w1.heap.size, len0, len0 + 1⟩ : ORow), w1.heap.size, w1.heap.size + 1)]
        (by
          intro x hx
          simp only [List.mem_cons, List.not_mem_nil, or_false] at hx
          subst hx
          exact ⟨qi, by show w1.heap.size + 1 ≤ _; omega⟩)
        (by simp only [List.pairwise_cons, List.not_mem_nil, List.Pairwise.nil, and_true, false_implies, implies_true])
      exact this
    have HOWN := Lib.hid hown
    clear hown qi
    go_wp2_with fail
    refine (owned_any _ 1 1 _ _ rfl (by omega) HOWN.out).mono ?_
    rintro e w4 ⟨rfl, hI⟩
    have HB4 := Lib.hid ((HB3.out.alloc HB3.out.size (.cells #[.slice (some ⟨w1.heap.size, 0, none⟩) len0 (len0 + 1)] 22)).trans (hI.below_ (B := w.heap.size) (fun r hr g hg => by
      simp only [List.mem_cons, List.not_mem_nil, or_false] at hr
      subst hr
      injection hg with hg
      omega)))
    have HF4 := Lib.hid (show Frame (fun k => k < w2.heap.size ∧ k ≠ w1.heap.size) w2 w4 from Frame.trans ((Frame.refl _ w2).alloc (fun k hk => hk.1) _) (hI.frame (S := fun k => k < w2.heap.size ∧ k ≠ w1.heap.size) (fun r hr g hg hk => by
      simp only [List.mem_cons, List.not_mem_nil, or_false] at hr
      subst hr
      injection hg with hg
      exact hk.2 hg.symm)) (fun k hk => hk))
    have hz4 := HF4.out.size
    clear hI
    go_wp2_with fail
    refine (refnew_no a0 len0 cap0 _ HNE.out).mono ?_
    rintro e w5 ⟨rfl, rfl⟩
    go_wp2_with fail
    go_ret
    exact ⟨rfl, HB4.out⟩

set_option maxRecDepth 100000 in
theorem lifted (os : Os) (started : os.Started) (H : Type) (enc : TypeId × Value → H) :
    ReturnsInHanded {} Try.checked os 5 .any (Rows.aesRoundsSpec.pre6 enc Try.prog Try.f5 Rows.aesRoundsRow.domain false) (Rows.aesRoundsSpec.post enc Try.prog Try.f5 false true false false) := by
  refine returnsInHanded_of_change_sized (C := Try.checked) own started (by kernel_rfl) Try.func5
    (ChangeSpec.witness6 (enc := enc) (C := Try.checked) false ⟨#[], #[.slice none 0 0], []⟩ 8 (by kernel_rfl) (by kernel_rfl) (by kernel_rfl) (by kernel_rfl)) ?_
  intro W base args ds gs before hval0 hW hcnd hsz0 _
  have hval : ∀ (j : Nat) t v, Try.f5.params[j]? = some t → args[j]? = some v → Value.okWide Try.prog W .any base t v := hval0
  have hsz : (DataW.weightsEach Try.prog (Try.f5.params.toList ++ Rows.aesRoundsSpec.plain.varTypes Try.prog) (ds ++ gs)).all (· ≤ reachBytes) = true := hsz0
  clear hsz0
  have hW' := hW
  obtain ⟨p, q, hA0, hV, rfl, hfz, hnd⟩ := hW
  have hA : DataW.TrodAll enc Try.prog W 0 (fun _ => true) true Try.f5.params.toList args.toList ds p := hA0
  rw [Try.params5] at hA hval hsz
  obtain ⟨v0, vs0, d0, ds0, p0, q0, hargs, rfl, rfl, h0, r0⟩ := trodAll_cons hA
  obtain ⟨rfl, rfl, rfl⟩ := trodAll_nil r0
  obtain rfl : args = #[v0] := by cases args; simp_all
  obtain ⟨rfl, rfl⟩ := trodVars_none hV
  obtain ⟨a0, len0, cap0, rfl⟩ := okWide_slice Try.underlying22 (hval 0 22 v0 rfl rfl)
  have k0 := h0
  have lt0 : ∀ x ∈ p0, x.block < W.heap.size := by obtain ⟨m, hm⟩ := k0; exact DataW.trod_lt m _ _ _ hm
  obtain ⟨l0, w0⟩ := open_bytes u8 (by kernel_rfl) (by kernel_rfl) h0 hsz (j := 0) rfl rfl
  clear hsz
  clear hA0 hval0
  simp only [List.append_nil] at hW'
  refine (walk a0 len0 cap0 l0 W w0).mono fun e W' ⟨he, bel⟩ => ?_
  subst he
  exact ⟨_, rfl, _, _, _, [], _, [], hW', trodAll_mk1 (shut_bool Try.underlying4 _), (trodAll_cons_mk (Below.trod laidOut (by kernel_rfl) (of_decide_eq_true (by kernel_rfl)) k0 bel lt0) trodAll_mk0), rfl, bel.frame _, fun h => by cases h⟩

theorem over : Rows.aesRoundsRow.holds Try.pinned (OpenSpec.ofChange Rows.aesRoundsSpec) :=
  OpenClaim.holds_of_wide 5 Try.f5 rfl rfl rfl rfl rfl rfl rfl ⟨rfl, rfl, rfl, rfl, rfl⟩ rfl rfl rfl rfl rfl (by kernel_rfl) Try.func5 (by kernel_rfl)
    (of_decide_eq_true (by kernel_rfl)) (by unfold Func.isWrapper; first | (rw [if_pos (by decide +kernel)]; kernel_rfl) | (rw [if_neg (by decide +kernel)]; exact ⟨rfl, rfl⟩))
    (fun os started H enc _ => lifted os started H enc)

theorem proved : Rows.AesRoundsSaid := over
end Go.Proofs.Ytcbihjcnnfohmaa.aesRounds
