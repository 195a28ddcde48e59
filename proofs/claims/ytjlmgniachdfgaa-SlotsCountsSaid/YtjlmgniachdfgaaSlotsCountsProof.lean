/- The law 'SlotsCounts' answers true for every input, and its arguments read afterwards as before; no condition. The frame follows the kit's skeleton; the walk is ours. -/
import Derived.Test.YtjlmgniachdfgaaRows
import Derived.Test.YtjlmgniachdfgaaArgs
import Derived.Test.YtjlmgniachdfgaaArgA
import Derived.Test.YtjlmgniachdfgaaSlSmall
import Derived.WalkKit
import Derived.ProofKit
import Derived.OpenShut
import Derived.ShutString
import Derived.ChangeOld
import Derived.Below
import Derived.SizedLaws
namespace Go.Proofs.Ytjlmgniachdfgaa.slotsCounts
open Go.ChangeShapes Go.WideShapes Go.ChangeAt Go.RowKit
set_option linter.unusedVariables false

theorem own : ownKnob Try.prog.godebug = none := by kernel_rfl
theorem laidOut : laidOutB Try.prog = true := by kernel_rfl

open Slots
set_option linter.unusedSimpArgs false
theorem add_plus (a : Addr) (m j : Nat) (hj : 0 < j) : a.add (m + j) = ⟨(a.add m).block, (a.add m).off + j, none⟩ := by
  rw [← add_add]
  generalize a.add m = x
  unfold Addr.add
  rw [if_neg (by omega)]
theorem cnt_le {n : Nat} {q : Qs} (h : ∀ t, (q t).length ≤ 4) (t : Int) : cnt n q t ≤ 4 := by unfold cnt; split; exact h _; omega
theorem cnt_upd_other {n : Nat} {q : Qs} {s : Nat} {x : List (List UInt8)} {t : Int} (h : t ≠ (s : Int)) : cnt n (upd q s x) t = cnt n q t := by
  unfold cnt
  cases hi : isT n t with
  | false => rfl
  | true =>
    obtain ⟨k, rfl, _, _⟩ := isT_yes hi
    rw [Int.toNat_natCast, upd_other _ _ (by omega)]
theorem cnt_upd_same {n : Nat} {q : Qs} {s : Nat} {x : List (List UInt8)} (h1 : 1 ≤ s) (hn : s ≤ n) : cnt n (upd q s x) (s : Int) = x.length := by
  have hi : isT n (s : Int) = true := by unfold isT; simp; omega
  unfold cnt; rw [hi, Int.toNat_natCast, upd_same]; rfl
theorem putE_vals (n : Nat) (q : Qs) (t : Int) (l : List UInt8) : putE n q t l = 0 ∨ putE n q t l = 1 ∨ putE n q t l = 2 ∨ putE n q t l = 14 := by
  unfold putE; split; exact .inr (.inl rfl); split; exact .inr (.inr (.inl rfl)); split; exact .inr (.inr (.inr rfl)); exact .inl rfl
theorem put_no {n : Nat} {q : Qs} {t : Int} {l : List UInt8} (h : putE n q t l ≠ 0) : putQ n q t l = q := by unfold putQ; rw [if_neg h]
theorem put_yes {n : Nat} {q : Qs} {t : Int} {l : List UInt8} (h : putE n q t l = 0) : ∃ k : Nat, t = (k : Int) ∧ 1 ≤ k ∧ k ≤ n ∧ (q k).length < 4 ∧ l.length ≤ 400 ∧ putQ n q t l = upd q k (q k ++ [l]) := by
  have h' := h
  unfold putE at h
  split at h; cases h
  rename_i hi
  split at h; cases h
  split at h; cases h
  obtain ⟨k, rfl, h1, h2⟩ := isT_yes (by simpa using hi)
  rw [Int.toNat_natCast] at *
  exact ⟨k, rfl, h1, h2, by omega, by omega, by unfold putQ; rw [if_pos h', Int.toNat_natCast]⟩
theorem putQ_le {n : Nat} {q : Qs} (h : ∀ t, (q t).length ≤ 4) (t : Int) (l : List UInt8) : ∀ s, (putQ n q t l s).length ≤ 4 := by
  intro s
  by_cases hp : putE n q t l = 0
  · obtain ⟨k, rfl, h1, h2, h3, _, e⟩ := put_yes hp
    rw [e]; unfold upd; split
    · rw [List.length_append]; show _ + 1 ≤ 4; omega
    · exact h s
  · rw [put_no hp]; exact h s
theorem upd_le {q : Qs} (h : ∀ t, (q t).length ≤ 4) {k : Nat} {x : List (List UInt8)} (hx : x.length ≤ 4) : ∀ s, (upd q k x s).length ≤ 4 := by
  intro s; unfold upd; split; exact hx; exact h s
theorem put_cnt {n : Nat} {q : Qs} {t s : Int} {l : List UInt8} (h : putE n q t l = 0) : cnt n (putQ n q t l) s = if t = s then cnt n q s + 1 else cnt n q s := by
  obtain ⟨k, rfl, h1, h2, h3, _, e⟩ := put_yes h
  rw [e]
  split
  · rename_i e'; subst e'
    have hi : isT n (k : Int) = true := by unfold isT; simp; omega
    rw [cnt_upd_same h1 h2, List.length_append]
    unfold cnt; rw [hi, Int.toNat_natCast]; rfl
  · rename_i e'; exact cnt_upd_other (fun e => e' e.symm)
theorem turnOf_ok {n K : Nat} (h : 1 ≤ n) : 1 ≤ turnOf n K ∧ turnOf n K ≤ n := by unfold turnOf; have := Nat.mod_lt K (show n > 0 by omega); omega
theorem pop_cnt {n K : Nat} {q : Qs} {s : Int} {l : List UInt8} {r : List (List UInt8)} (h1 : 1 ≤ n) (h : q (turnOf n K) = l :: r) : (((turnOf n K : Nat) : Int) = s → cnt n q s = cnt n (upd q (turnOf n K) r) s + 1) ∧ (((turnOf n K : Nat) : Int) ≠ s → cnt n (upd q (turnOf n K) r) s = cnt n q s) := by
  obtain ⟨a, b⟩ := turnOf_ok (K := K) h1
  refine ⟨fun e => ?_, fun e => cnt_upd_other (Ne.symm e)⟩
  subst e
  have hi : isT n ((turnOf n K : Nat) : Int) = true := by unfold isT; simp; omega
  rw [cnt_upd_same a b]
  unfold cnt; rw [hi, Int.toNat_natCast, h]; rfl
theorem drop_cnt {n : Nat} {q : Qs} {t s : Int} : cnt n (if isT n t then upd q t.toNat [] else q) s = if t = s then 0 else cnt n q s := by
  cases hi : isT n t with
  | false =>
    rw [if_neg (by simp)]
    split
    · rename_i e; subst e; unfold cnt; rw [hi]; rfl
    · rfl
  | true =>
    obtain ⟨k, rfl, h1, h2⟩ := isT_yes hi
    rw [if_pos rfl, Int.toNat_natCast]
    split
    · rename_i e; subst e; rw [cnt_upd_same h1 h2]; rfl
    · rename_i e; exact cnt_upd_other (Ne.symm e)
theorem drop_le {q : Qs} (h : ∀ t, (q t).length ≤ 4) {b : Bool} {k : Nat} : ∀ s, ((if b then upd q k [] else q) s).length ≤ 4 := by
  intro s; split; exact upd_le h (by simp) s; exact h s

set_option maxRecDepth 100000 in
set_option maxHeartbeats 4000000 in
theorem walk (a0 : Int) (a1 : Option Addr) (len1 cap1 : Nat) (as1 : List ActP) (a2 : Int) (w : World) (w0 : (Lit.int .i64 a0).wf = true) (w1 : ArgA w a1 len1 cap1 as1) (w2 : (Lit.int .i64 a2).wf = true) :
    Calls Try.prog 7 #[.int .i64 a0, .slice a1 len1 cap1, .int .i64 a2] w fun e w' => e = .returned (.bool true) ∧ Below w.heap.size w w' := by
  obtain ⟨hb00, hb01⟩ := bounds_i64 w0
  obtain ⟨hl1, hf1, hm1, hr1, hok1⟩ := w1
  obtain ⟨hb20, hb21⟩ := bounds_i64 w2
  by_cases hn : 1 ≤ a0 ∧ a0 ≤ 64
  · obtain ⟨hn1, hn64⟩ := hn
    obtain ⟨n, rfl⟩ := Int.eq_ofNat_of_zero_le (show 0 ≤ a0 by omega)
    have n1 : 1 ≤ n := by omega
    have n64 : n ≤ 64 := by omega
    have HL := Lib.hid hl1
    have HR := Lib.hid hr1
    have HOK := Lib.hid hok1
    clear hl1 hr1 hok1
    go_enter Try.func7, Try.ntmps7
    go_wp2_with fail
    refine (small_any _).mono ?_
    rintro e w1 ⟨rfl, hb1⟩
    have hz1 := hb1.size
    go_wp2_with fail
    refine (new_yes n n1 n64 _).mono ?_
    rintro e w2 ⟨g, tag2, rfl, h2, hb2⟩
    have hbw2 := hb1.trans (hb2.mono hz1)
    have hz12 := hb2.size
    have H2 := Lib.hid h2
    have HB2 := Lib.hid hbw2
    have hc0 : cnt n (fun _ => []) a2 = 0 := by unfold cnt; split <;> rfl
    have HC0 := Lib.hid hc0
    clear h2 hb2 hbw2 hc0
    go_wp2_with fail
    go_loopw [10, 11] (fun nv i wr => ∃ (k K : Nat) (tag : Tags) (q : Qs), k ≤ len1 ∧ k ≤ 150 ∧ K ≤ k ∧ i = .int .i64 k ∧ nv = .int .i64 (cnt n q a2 : Int) ∧ Sl wr w1.heap.size tag g n K q ∧ (∀ t, (q t).length ≤ 4) ∧ w1.heap.size ≤ wr.heap.size ∧ Below w.heap.size w wr) (fun _ i _ => len1 - (intOf i).toNat)
    case atStart => exact ⟨0, 0, tag2, _, by omega, by omega, by omega, rfl, by rw [HC0.out]; rfl, H2.out, fun _ => by simp, hz12, HB2.out⟩
    case round =>
      obtain ⟨k, K, tag, q, hk, hk150, hKk, rfl, rfl, hS, hq4, hzr, hbr⟩ := hrel
      clear H2 HB2 HC0
      have HS := Lib.hid hS
      have HBR := Lib.hid hbr
      have HQ4 := Lib.hid hq4
      have hc4 := cnt_le (n := n) hq4 a2
      clear hS hbr hq4
      by_cases hgo : k < len1 ∧ k < 150
      · obtain ⟨hlt, hlt150⟩ := hgo
        obtain ⟨ad, hA, hSb, hc⟩ := HR.out (by rw [HL.out]; omega)
        subst hA
        have hkl : k < as1.length := by rw [HL.out]; exact hlt
        obtain ⟨x0, x1, x2⟩ := hc k hkl
        have hpk := HOK.out as1[k] (List.getElem_mem hkl)
        generalize as1[k] = p at *
        obtain ⟨pd, pn, pA, pm, pc, pl⟩ := p
        obtain ⟨p1, p2, p3, p4, p5, p6, p7, p8⟩ := hpk
        simp only at p1 p2 p3 p4 p5 p6 p7 p8 x0 x1 x2
        have y0 := (HBR.out.cell (p := ad.add (k * 3)) (by rw [add_block]; exact hSb)).trans x0
        have y1 := (HBR.out.cell (p := ad.add (k * 3 + 1)) (by rw [add_block]; exact hSb)).trans x1
        have y2 := (HBR.out.cell (p := ad.add (k * 3 + 2)) (by rw [add_block]; exact hSb)).trans x2
        rw [add_plus _ _ _ (by omega)] at y1 y2
        have HP5 := Lib.hid p5
        have HRD := Lib.hid ((p8.below HBR.out).more (B' := wr.heap.size) HBR.out.size)
        generalize hcn : cnt n q a2 = cn at *
        have HCN := Lib.hid hcn
        clear p5 p8 x0 x1 x2 hc hcn
        have hS0 : Sl (wr.alloc (.cells #[.int .i64 pd, .int .i64 pn, .slice pA pm pc] 40)) w1.heap.size tag g n K q := HS.out.below_ ((Below.refl _ _).alloc (Nat.le_refl _) _)
        have hb0 : Below w.heap.size w (wr.alloc (.cells #[.int .i64 pd, .int .i64 pn, .slice pA pm pc] 40)) := HBR.out.alloc HBR.out.size _
        have hr0 : RowV (wr.alloc (.cells #[.int .i64 pd, .int .i64 pn, .slice pA pm pc] 40)) 40 wr.heap.size [.int .i64 pd, .int .i64 pn, .slice pA pm pc] := heap_alloc_new wr _
        have hq0 : Slots.Rest (wr.alloc (.cells #[.int .i64 pd, .int .i64 pn, .slice pA pm pc] 40)) tag wr.heap.size := ⟨by simp, by
          cases h : tag wr.heap.size with
          | none => rfl
          | some x => have := (HS.out.lt wr.heap.size (by rw [h]; simp)).2; omega⟩
        have HS0 := Lib.hid hS0
        have HB0 := Lib.hid hb0
        have HR0 := Lib.hid hr0
        have HQ0 := Lib.hid hq0
        clear hS0 hb0 hr0 hq0
        by_cases hd0 : pd = 0
        · subst hd0
          go_wp2_with fail
          refine (put_any w1.heap.size tag g n K q pn pA pm pc pl _ wr.heap.size (by simp) n64 HS0.out (by simp; omega) HP5.out (HRD.out.alloc (Nat.le_refl _) _)).mono ?_
          have hvals := putE_vals n q pn pl
          have hq43 := putQ_le (n := n) HQ4.out pn pl
          have hc0 := fun h => put_cnt (n := n) (q := q) (t := pn) (s := a2) (l := pl) h
          have hc1 := fun h => put_no (n := n) (q := q) (t := pn) (l := pl) h
          rw [HCN.out] at hc0
          have hc2 : putE n q pn pl ≠ 0 → cnt n (putQ n q pn pl) a2 = cn := fun h => by rw [hc1 h]; exact HCN.out
          clear hc1
          generalize putE n q pn pl = E at *
          generalize putQ n q pn pl = q3 at *
          rintro e w3 ⟨tag3, rfl, h3, hF3, ht3⟩
          have hb3 := HB0.out.trans (HS0.out.rest hF3 hz1 (by simp; omega))
          have c31 := (HR0.out.keep (hF3.block _ HQ0.out)).cell (i := 1) rfl
          have hz3 := hF3.size
          simp only [World.size_alloc] at hz3
          have hle := cnt_le (n := n) hq43 a2
          have H3 := Lib.hid h3
          have HB3 := Lib.hid hb3
          have HQ3 := Lib.hid hq43
          clear h3 hF3 ht3 hb3 hq43
          by_cases hE : E = 0 ∧ pn = a2
          · obtain ⟨rfl, rfl⟩ := hE
            have hcn3 : cnt n q3 pn = cn + 1 := by rw [hc0 rfl, if_pos rfl]
            clear hc0 hc2 hvals
            rw [hcn3] at hle
            have HC3 := Lib.hid hcn3
            clear hcn3
            go_wp2_with fail
            refine (count_any w1.heap.size tag3 g n K q3 pn _ n64 H3.out).mono ?_
            rintro e w4 ⟨rfl, rfl⟩
            rw [HC3.out]
            go_wp2_with fail
            go_roundw
            case rel => exact ⟨k + 1, K, tag3, q3, by omega, by omega, by omega, by go_num, (by rw [HC3.out]; first | done | rfl | (push_cast; go_num)), H3.out, HQ3.out, by omega, HB3.out⟩
            case measure => simp [intOf] <;> omega
          · have hcn3 : cnt n q3 a2 = cn := by
              by_cases h0 : E = 0
              · rw [hc0 h0, if_neg (fun e => hE ⟨h0, e⟩)]
              · exact hc2 h0
            have hcase : (E = 0 ∧ pn ≠ a2) ∨ E = 1 ∨ E = 2 ∨ E = 14 := by
              rcases hvals with h | h | h | h
              · exact .inl ⟨h, fun e => hE ⟨h, e⟩⟩
              · exact .inr (.inl h)
              · exact .inr (.inr (.inl h))
              · exact .inr (.inr (.inr h))
            clear hc0 hc2 hvals hE
            rw [hcn3] at hle
            have HC3 := Lib.hid hcn3
            clear hcn3
            rcases hcase with ⟨rfl, hne⟩ | rfl | rfl | rfl
            all_goals
              go_wp2_with fail
              refine (count_any w1.heap.size tag3 g n K q3 a2 _ n64 H3.out).mono ?_
              rintro e w4 ⟨rfl, rfl⟩
              rw [HC3.out]
              go_wp2_with fail
              go_roundw
              case rel => exact ⟨k + 1, K, tag3, q3, by omega, by omega, by omega, by go_num, (by rw [HC3.out]; first | done | rfl | (push_cast; go_num)), H3.out, HQ3.out, by omega, HB3.out⟩
              case measure => simp [intOf] <;> omega
        · by_cases hd1 : pd = 1
          · subst hd1
            clear HP5 HRD
            have hTk := turnOf_ok (K := K) n1
            cases hqd : q (turnOf n K) with
            | nil =>
              have HQD := Lib.hid hqd
              clear hqd
              go_wp2_with fail
              refine (next_none w1.heap.size tag g n K q _ n1 n64 (by omega) HS0.out HQD.out).mono ?_
              rintro e w3 ⟨rfl, h3, hsz3, hF3⟩
              have hb3 := HB0.out.trans (HS0.out.rest hF3 hz1 (by simp; omega))
              have c31 := (HR0.out.keep (hF3.block _ HQ0.out)).cell (i := 1) rfl
              have hz3 := hF3.size
              simp only [World.size_alloc] at hz3
              have H3 := Lib.hid h3
              have HB3 := Lib.hid hb3
              clear h3 hF3 hb3
              generalize turnOf n K = τ at *
              go_wp2_with fail
              refine (count_any w1.heap.size tag g n (K + 1) q a2 _ n64 H3.out).mono ?_
              rintro e w4 ⟨rfl, rfl⟩
              rw [HCN.out]
              go_wp2_with fail
              go_roundw
              case rel => exact ⟨k + 1, (K + 1), tag, q, by omega, by omega, by omega, by go_num, by rw [HCN.out], H3.out, HQ4.out, by omega, HB3.out⟩
              case measure => simp [intOf] <;> omega
            | cons l r =>
              have hq43 := upd_le HQ4.out (k := turnOf n K) (x := r) (by have := HQ4.out (turnOf n K); rw [hqd] at this; simp at this; omega)
              obtain ⟨hc0, hc1⟩ := pop_cnt (s := a2) n1 hqd
              have HQD := Lib.hid hqd
              clear hqd
              go_wp2_with fail
              refine (next_some w1.heap.size tag g n K q _ n1 n64 (by omega) HS0.out HQD.out).mono ?_
              rintro e w3 ⟨v3, tag3, rfl, hv3, hvt, h3, ht3, hsz3, hF3⟩
              have hb3 := HB0.out.trans (HS0.out.rest hF3 hz1 (by simp; omega))
              have c31 := (HR0.out.keep (hF3.block _ HQ0.out)).cell (i := 1) rfl
              have hz3 := hF3.size
              simp only [World.size_alloc] at hz3
              have H3 := Lib.hid h3
              have HB3 := Lib.hid hb3
              have HQ3 := Lib.hid hq43
              rw [HCN.out] at hc0 hc1
              clear h3 hF3 hb3 hv3 hvt ht3 hq43
              generalize upd q (turnOf n K) r = q3 at *
              clear HQD
              generalize turnOf n K = τ at *
              by_cases hτ : (τ : Int) = a2
              · obtain ⟨c3, hc3⟩ : ∃ c3 : Nat, cnt n q3 a2 = c3 := ⟨_, rfl⟩
                have hcc := hc0 hτ
                rw [hc3] at hcc
                have HC3 := Lib.hid hc3
                clear hc0 hc1 hc3
                subst hτ
                subst hcc
                go_wp2_with fail
                refine (count_any w1.heap.size tag3 g n (K + 1) q3 (τ : Int) _ n64 H3.out).mono ?_
                rintro e w4 ⟨rfl, rfl⟩
                rw [HC3.out]
                go_wp2_with fail
                go_roundw
                case rel => exact ⟨k + 1, (K + 1), tag3, q3, by omega, by omega, by omega, by go_num, (by rw [HC3.out]; first | done | rfl | (push_cast; go_num)), H3.out, HQ3.out, by omega, HB3.out⟩
                case measure => simp [intOf] <;> omega
              · have hc3 := hc1 hτ
                have HC3 := Lib.hid hc3
                clear hc0 hc1 hc3
                go_wp2_with fail
                refine (count_any w1.heap.size tag3 g n (K + 1) q3 a2 _ n64 H3.out).mono ?_
                rintro e w4 ⟨rfl, rfl⟩
                rw [HC3.out]
                go_wp2_with fail
                go_roundw
                case rel => exact ⟨k + 1, (K + 1), tag3, q3, by omega, by omega, by omega, by go_num, (by rw [HC3.out]; first | done | rfl | (push_cast; go_num)), H3.out, HQ3.out, by omega, HB3.out⟩
                case measure => simp [intOf] <;> omega
          · by_cases hd2 : pd = 2
            · subst hd2
              clear HP5 HRD
              go_wp2_with fail
              refine (drop_any w1.heap.size tag g n K q pn _ n64 HS0.out).mono ?_
              have hq43 := drop_le HQ4.out (b := isT n pn) (k := pn.toNat)
              have hc3 := drop_cnt (n := n) (q := q) (t := pn) (s := a2)
              rw [HCN.out] at hc3
              generalize (if isT n pn = true then upd q pn.toNat [] else q) = q3 at *
              rintro e w3 ⟨rfl, h3, hsz3, hF3⟩
              have hb3 := HB0.out.trans (HS0.out.rest hF3 hz1 (by simp; omega))
              have c31 := (HR0.out.keep (hF3.block _ HQ0.out)).cell (i := 1) rfl
              have hz3 := hF3.size
              simp only [World.size_alloc] at hz3
              have H3 := Lib.hid h3
              have HB3 := Lib.hid hb3
              have HQ3 := Lib.hid hq43
              clear h3 hF3 hb3 hq43
              by_cases hpa : pn = a2
              · subst hpa
                rw [if_pos rfl] at hc3
                have HC3 := Lib.hid hc3
                clear hc3
                rw [HCN.out]
                go_wp2_with fail
                refine (count_any w1.heap.size tag g n K q3 pn _ n64 H3.out).mono ?_
                rintro e w4 ⟨rfl, rfl⟩
                rw [HC3.out]
                go_wp2_with fail
                go_roundw
                case rel => exact ⟨k + 1, K, tag, q3, by omega, by omega, by omega, by go_num, (by rw [HC3.out]; first | done | rfl | (push_cast; go_num)), H3.out, HQ3.out, by omega, HB3.out⟩
                case measure => simp [intOf] <;> omega
              · rw [if_neg hpa] at hc3
                have HC3 := Lib.hid hc3
                clear hc3
                go_wp2_with fail
                refine (count_any w1.heap.size tag g n K q3 a2 _ n64 H3.out).mono ?_
                rintro e w4 ⟨rfl, rfl⟩
                rw [HC3.out]
                go_wp2_with fail
                go_roundw
                case rel => exact ⟨k + 1, K, tag, q3, by omega, by omega, by omega, by go_num, (by rw [HC3.out]; first | done | rfl | (push_cast; go_num)), H3.out, HQ3.out, by omega, HB3.out⟩
                case measure => simp [intOf] <;> omega
            · clear HP5 HRD
              go_wp2_with fail
              refine (count_any w1.heap.size tag g n K q a2 _ n64 HS0.out).mono ?_
              rintro e w4 ⟨rfl, rfl⟩
              rw [HCN.out]
              go_wp2_with fail
              go_roundw
              case rel => exact ⟨k + 1, K, tag, q, by omega, by omega, by omega, by go_num, by rw [HCN.out], HS0.out, HQ4.out, (by simp; omega), HB0.out⟩
              case measure => simp [intOf] <;> omega
      · have hexit : ¬ k < len1 ∨ (k < len1 ∧ k = 150) := by omega
        rcases hexit with hx | ⟨hx, hx150⟩
        all_goals
          go_wp2_with fail
          go_ret
          exact ⟨rfl, HBR.out⟩
  · have hn' : a0 < 1 ∨ 64 < a0 := by omega
    go_enter Try.func7, Try.ntmps7
    go_wp2_with fail
    refine (small_any _).mono ?_
    rintro e w1 ⟨rfl, hb1⟩
    go_wp2_with fail
    refine (new_no a0 hn' _).mono ?_
    rintro e w2 ⟨rfl, rfl⟩
    go_wp2_with fail
    go_ret
    exact ⟨rfl, hb1⟩

set_option maxRecDepth 100000 in
theorem lifted (os : Os) (started : os.Started) (H : Type) (enc : TypeId × Value → H) :
    ReturnsInHanded {} Try.checked os 7 .any (Rows.slotsCountsSpec.pre6 enc Try.prog Try.f7 Rows.slotsCountsRow.domain false) (Rows.slotsCountsSpec.post enc Try.prog Try.f7 false true false false) := by
  refine returnsInHanded_of_change_sized (C := Try.checked) own started (by kernel_rfl) Try.func7
    (ChangeSpec.witness6 (enc := enc) (C := Try.checked) false ⟨#[], #[.int .i64 0, .slice none 0 0, .int .i64 0], []⟩ 8 (by kernel_rfl) (by kernel_rfl) (by kernel_rfl) (by kernel_rfl)) ?_
  intro W base args ds gs before hval0 hW hcnd hsz0 _
  have hval : ∀ (j : Nat) t v, Try.f7.params[j]? = some t → args[j]? = some v → Value.okWide Try.prog W .any base t v := hval0
  have hsz : (DataW.weightsEach Try.prog (Try.f7.params.toList ++ Rows.slotsCountsSpec.plain.varTypes Try.prog) (ds ++ gs)).all (· ≤ reachBytes) = true := hsz0
  clear hsz0
  have hW' := hW
  obtain ⟨p, q, hA0, hV, rfl, hfz, hnd⟩ := hW
  have hA : DataW.TrodAll enc Try.prog W 0 (fun _ => true) true Try.f7.params.toList args.toList ds p := hA0
  rw [Try.params7] at hA hval hsz
  obtain ⟨v0, vs0, d0, ds0, p0, q0, hargs, rfl, rfl, h0, r0⟩ := trodAll_cons hA
  obtain ⟨v1, vs1, d1, ds1, p1, q1, rfl, rfl, rfl, h1, r1⟩ := trodAll_cons r0
  obtain ⟨v2, vs2, d2, ds2, p2, q2, rfl, rfl, rfl, h2, r2⟩ := trodAll_cons r1
  obtain ⟨rfl, rfl, rfl⟩ := trodAll_nil r2
  obtain rfl : args = #[v0, v1, v2] := by cases args; simp_all
  obtain ⟨rfl, rfl⟩ := trodVars_none hV
  obtain ⟨a1, len1, cap1, rfl⟩ := okWide_slice Try.underlying35 (hval 1 35 v1 rfl rfl)
  have k1 := h1
  have lt1 : ∀ x ∈ p1, x.block < W.heap.size := by obtain ⟨m, hm⟩ := k1; exact DataW.trod_lt m _ _ _ hm
  obtain ⟨as1, w1⟩ := open_acts Try.underlying35 Try.underlying40 (by kernel_rfl) (by kernel_rfl) rfl rfl rfl Try.underlying28 Try.underlying5 Try.underlying3 (by kernel_rfl) h1
  clear hsz
  obtain ⟨a0, rfl, rfl, rfl, w0⟩ := open_int Try.underlying3 (hval 0 3 v0 rfl rfl) h0
  obtain ⟨a2, rfl, rfl, rfl, w2⟩ := open_int Try.underlying3 (hval 2 3 v2 rfl rfl) h2
  clear hA0 hval0
  simp only [List.append_nil] at hW'
  refine (walk a0 a1 len1 cap1 as1 a2 W w0 w1 w2).mono fun e W' ⟨he, bel⟩ => ?_
  subst he
  exact ⟨_, rfl, _, _, _, [], _, [], hW', trodAll_mk1 (shut_bool Try.underlying4 _), (trodAll_cons_mk (shut_int Try.underlying3 w0) (trodAll_cons_mk (Below.trod laidOut (by kernel_rfl) (of_decide_eq_true (by kernel_rfl)) k1 bel lt1) (trodAll_cons_mk (shut_int Try.underlying3 w2) trodAll_mk0))), rfl, bel.frame _, fun h => by cases h⟩

theorem over : Rows.slotsCountsRow.holds Try.pinned (OpenSpec.ofChange Rows.slotsCountsSpec) :=
  OpenClaim.holds_of_wide 7 Try.f7 rfl rfl rfl rfl rfl rfl rfl ⟨rfl, rfl, rfl, rfl, rfl⟩ rfl rfl rfl rfl rfl (by kernel_rfl) Try.func7 (by kernel_rfl)
    (of_decide_eq_true (by kernel_rfl)) (by unfold Func.isWrapper; first | (rw [if_pos (by decide +kernel)]; kernel_rfl) | (rw [if_neg (by decide +kernel)]; exact ⟨rfl, rfl⟩))
    (fun os started H enc _ => lifted os started H enc)

theorem proved : Rows.SlotsCountsSaid := over
end Go.Proofs.Ytjlmgniachdfgaa.slotsCounts
