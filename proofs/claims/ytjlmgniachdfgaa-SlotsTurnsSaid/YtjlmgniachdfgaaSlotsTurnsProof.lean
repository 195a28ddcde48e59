/- The law 'SlotsTurns' answers true for every input, and its arguments read afterwards as before; no condition. The frame follows the kit's skeleton; the walk is ours. -/
import Derived.Test.YtjlmgniachdfgaaRows
import Derived.Test.YtjlmgniachdfgaaArgs
import Derived.Test.YtjlmgniachdfgaaArgR
import Derived.Test.YtjlmgniachdfgaaSlSmall
import Derived.Test.YtjlmgniachdfgaaOwned
import Derived.BigQuiet
import Derived.WalkKit
import Derived.ProofKit
import Derived.OpenShut
import Derived.ShutString
import Derived.ChangeOld
import Derived.Below
import Derived.SizedLaws
namespace Go.Proofs.Ytjlmgniachdfgaa.slotsTurns
open Go.ChangeShapes Go.WideShapes Go.ChangeAt Go.RowKit
set_option linter.unusedVariables false

theorem own : ownKnob Try.prog.godebug = none := by kernel_rfl
theorem laidOut : laidOutB Try.prog = true := by kernel_rfl

open Slots
set_option linter.unusedSimpArgs false
theorem putE_yes {n : Nat} {q : Qs} {k : Nat} {l : List UInt8} (h1 : 1 ≤ k) (hk : k ≤ n) (hl : l.length ≤ 400) (hq : (q k).length < 4) : putE n q (k : Int) l = 0 ∧ putQ n q (k : Int) l = upd q k (q k ++ [l]) := by
  have hi : isT n (k : Int) = true := by unfold isT; simp; omega
  have hp : putE n q (k : Int) l = 0 := by
    unfold putE; rw [hi, Int.toNat_natCast, if_neg (by simp), if_neg (by omega), if_neg (by omega)]
  exact ⟨hp, by unfold putQ; rw [hp, if_pos rfl, Int.toNat_natCast]⟩
theorem cnt_yes {n : Nat} {q : Qs} {k : Nat} (h1 : 1 ≤ k) (hk : k ≤ n) : cnt n q (k : Int) = (q k).length := by
  have hi : isT n (k : Int) = true := by unfold isT; simp; omega
  unfold cnt; rw [hi, Int.toNat_natCast]; rfl
theorem andMask (n : Int) (M : Nat) (hM : M < 2 ^ 62) : ∃ m : Nat, m ≤ M ∧ bits BinOp.and IntKind.i64 n (M : Int) = (m : Int) := by
  have e : (BitVec.ofInt 64 (M : Int)).toNat = M := i64_ofInt M (by omega)
  refine ⟨(BitVec.ofInt 64 n &&& BitVec.ofInt 64 (M : Int)).toNat, ?_, ?_⟩
  · rw [BitVec.toNat_and, e]; exact Nat.and_le_right
  · show IntKind.i64.wrap ((BitVec.ofInt 64 n &&& BitVec.ofInt 64 (M : Int)).toNat : Int) = _
    have : (BitVec.ofInt 64 n &&& BitVec.ofInt 64 (M : Int)).toNat ≤ M := by rw [BitVec.toNat_and, e]; exact Nat.and_le_right
    exact i64_wraps _ (by omega) (by omega)
theorem modr {i m n r : Nat} (h : i = m * n + r) (hr : r < n) : i % n = r ∧ i / n = m := by
  subst h
  constructor
  · rw [Nat.mul_comm, Nat.mul_add_mod]; exact Nat.mod_eq_of_lt hr
  · rw [Nat.mul_comm, Nat.mul_add_div (by omega), Nat.div_eq_of_lt hr]; rfl

set_option maxRecDepth 100000 in
set_option maxHeartbeats 4000000 in
theorem walk (a0 : Int) (a1 : Int) (a2 : Option Addr) (len2 cap2 : Nat) (ps2 : List Part) (w : World) (w0 : (Lit.int .i64 a0).wf = true) (w1 : (Lit.int .i64 a1).wf = true) (w2 : ArgR w a2 len2 cap2 ps2) :
    Calls Try.prog 3 #[.int .i64 a0, .int .i64 a1, .slice a2 len2 cap2] w fun e w' => e = .returned (.bool true) ∧ Below w.heap.size w w' := by
  obtain ⟨hb00, hb01⟩ := bounds_i64 w0
  obtain ⟨hb10, hb11⟩ := bounds_i64 w1
  obtain ⟨hl2, hf2, hm2, hr2⟩ := w2
  obtain ⟨x, hx15, hxb⟩ := andMask a0 15 (by omega)
  obtain ⟨y, hy1023, hyb⟩ := andMask a1 1023 (by omega)
  rw [show ((15 : Nat) : Int) = 15 from rfl] at hxb
  rw [show ((1023 : Nat) : Int) = 1023 from rfl] at hyb
  obtain ⟨n, hn⟩ : ∃ n : Nat, n = 1 + x := ⟨_, rfl⟩
  have hni : 1 + (x : Int) = (n : Int) := by omega
  have n1 : 1 ≤ n := by omega
  have n16 : n ≤ 16 := by omega
  obtain ⟨o, ho⟩ : ∃ o : Nat, o = y % n := ⟨_, rfl⟩
  have hon : o < n := by rw [ho]; exact Nat.mod_lt _ (by omega)
  have hoi : (y : Int) % (n : Int) = (o : Int) := by rw [ho]; push_cast; rfl
  obtain ⟨t, ht⟩ : ∃ t : Nat, t = 1 + o := ⟨_, rfl⟩
  have hti : 1 + (o : Int) = (t : Int) := by omega
  have HL := Lib.hid hl2
  have HR := Lib.hid hr2
  have HT := Lib.hid ht
  clear hl2 hr2 hn ho ht
  go_enter Try.func3, Try.ntmps3
  go_wp2_with fail
  refine (small_any _).mono ?_
  rintro e w1 ⟨rfl, hb1⟩
  have hz1 := hb1.size
  go_wp2_with fail
  refine (new_yes n n1 (by omega) _).mono ?_
  rintro e w2 ⟨g, tag2, rfl, h2, hb2⟩
  have hbw2 := hb1.trans (hb2.mono hz1)
  have hz12 := hb2.size
  have H2 := Lib.hid h2
  have HB2 := Lib.hid hbw2
  clear h2 hb2 hbw2
  go_wp2_with fail
  rw [hoi]
  go_loopw [12] (fun i wr => ∃ (k : Nat) (tag : Tags) (q : Qs), k ≤ 4 ∧ k ≤ len2 ∧ i = .int .i64 k ∧ Sl wr w1.heap.size tag g n 0 q ∧ q t = (ps2.take k).map (·.l) ∧ (∀ j, j ≠ t → q j = []) ∧ w1.heap.size ≤ wr.heap.size ∧ Below w.heap.size w wr) (fun i _ => 4 - (intOf i).toNat)
  case atStart => exact ⟨0, tag2, _, by omega, by omega, rfl, H2.out, rfl, fun _ _ => rfl, hz12, HB2.out⟩
  case round =>
    obtain ⟨k, tag, q, hk, hkl, rfl, hS, hqk, hqo, hzr, hbr⟩ := hrel
    clear H2 HB2
    have HS := Lib.hid hS
    have HBR := Lib.hid hbr
    have HQK := Lib.hid hqk
    have HQO := Lib.hid hqo
    by_cases hgo : k < len2 ∧ k < 4 ∧ (∀ p, ps2[k]? = some p → p.n ≤ 400)
    · obtain ⟨hlt, hlt4, h400⟩ := hgo
      have hkl2 : k < ps2.length := by rw [HL.out]; exact hlt
      obtain ⟨ad, hA, hSb, hc⟩ := HR.out.at_ (by omega)
      subst hA
      have hpart := HR.out.part ps2[k] (List.getElem_mem hkl2)
      have hcell := (hbr.cell (by rw [add_block]; exact hSb)).trans (hc k hkl2)
      have h400' := h400 ps2[k] (List.getElem?_eq_getElem hkl2)
      have htk : (ps2.take (k + 1)).map (·.l) = (ps2.take k).map (·.l) ++ [ps2[k].l] := by rw [List.take_succ_eq_append_getElem hkl2, List.map_append]; rfl
      generalize ps2[k] = p at *
      obtain ⟨pA, pn, pc, pl⟩ := p
      obtain ⟨hp1, hp2, hp3, hp4⟩ := hpart
      simp only at hp1 hp2 hp3 hp4 h400' htk
      have hcell' : wr.cell? (ad.add k) = some (.slice pA pn pc) := hcell
      have HRD := Lib.hid (((hp4.rd (B := w.heap.size) (fun k hk => hk)).below hbr).more (B' := wr.heap.size) hbr.size)
      have hql : (q t).length = k := by rw [hqk, List.length_map, List.length_take]; omega
      obtain ⟨hp, hpq⟩ := putE_yes (n := n) (q := q) (k := t) (l := pl) (by omega) (by omega) (by rw [hp1]; exact h400') (by omega)
      have HP := Lib.hid hp
      have HPQ := Lib.hid hpq
      have HPL := Lib.hid hp1
      have HTK := Lib.hid htk
      clear hp hpq hqk hqo hS hbr hc hcell hp1 hp4 htk h400 hql
      go_wp2_with fail
      refine (put_any w1.heap.size tag g n 0 q (t : Int) pA pn pc pl wr wr.heap.size (Nat.le_refl _) (by omega) HS.out hzr HPL.out HRD.out).mono ?_
      rw [HP.out, HPQ.out]
      rintro e w3 ⟨tag3, rfl, h3, hF3, ht3⟩
      have hb3 := HBR.out.trans (HS.out.rest hF3 hz1 hzr)
      have hz3 := hF3.size
      clear hF3 ht3
      go_wp2_with fail
      go_roundw
      case rel => exact ⟨k + 1, tag3, _, by omega, by omega, by go_num, h3, by rw [upd_same, HTK.out, HQK.out], fun j hj => by rw [upd_other _ _ hj]; exact HQO.out j hj, by omega, hb3⟩
      case measure => simp [intOf] <;> omega
    · have hex : ¬ k < len2 ∨ (k < len2 ∧ 4 ≤ k) ∨ (k < len2 ∧ k < 4 ∧ ∃ p, ps2[k]? = some p ∧ 400 < p.n) := by
        by_cases h1 : k < len2
        · by_cases h2 : k < 4
          · refine .inr (.inr ⟨h1, h2, ?_⟩)
            apply Classical.byContradiction
            intro hc
            exact hgo ⟨h1, h2, fun p hp => by
              rcases Nat.lt_or_ge 400 p.n with h | h
              · exact absurd ⟨p, hp, h⟩ hc
              · exact h⟩
          · exact .inr (.inl ⟨h1, by omega⟩)
        · exact .inl h1
      clear hgo
      obtain ⟨L, hL⟩ : ∃ L : List (List UInt8), L = (ps2.take k).map (fun p : Part => p.l) := ⟨_, rfl⟩
      have hLl : L.length = k := by rw [hL, List.length_map, List.length_take, HL.out]; omega
      have hLg : ∀ j l, L[j]? = some l → ∃ p : Part, ps2[j]? = some p ∧ p.l = l := fun j l hj => by
        rw [hL, List.getElem?_map] at hj
        have hjk : j < k := by
          rcases Nat.lt_or_ge j k with h | h
          · exact h
          · rw [List.getElem?_eq_none (by rw [List.length_take]; omega)] at hj; cases hj
        rw [List.getElem?_take, if_pos hjk] at hj
        cases hp : ps2[j]? with
        | none => rw [hp] at hj; cases hj
        | some p => rw [hp] at hj; injection hj with hj; exact ⟨p, hp, hj⟩
      rw [← hL] at hqk
      have HLG := Lib.hid hLg
      have HLL := Lib.hid hLl
      have HQK2 := Lib.hid hqk
      have hcell3 : ∀ (h : k < len2) p, ps2[k]? = some p → ∃ ad, a2 = some ad ∧ wr.cell? (ad.add k) = some p.val := fun h p hp => by
        obtain ⟨ad, hA, hSb, hc⟩ := HR.out.at_ (by rw [HL.out]; omega)
        refine ⟨ad, hA, (hbr.cell (by rw [add_block]; exact hSb)).trans ?_⟩
        have hkp : k < ps2.length := by rw [HL.out]; exact h
        rw [hc k hkp]
        rw [List.getElem?_eq_getElem hkp] at hp
        injection hp with hp
        rw [hp]
      have HC3 := Lib.hid hcell3
      clear hqk hqo hS hbr hL hLg hLl HQK hcell3
      obtain ⟨wz, rfl⟩ : ∃ wz : World, wz = wr := ⟨_, rfl⟩
      rcases hex with hx | ⟨hx1, hx2⟩ | ⟨hx1, hx2, p, hp, hpn⟩
      rotate_left
      · go_wp2_with fail
        go_loopw [13] (fun i wr => ∃ (i' m r : Nat) (tag : Tags) (q : Qs), i' ≤ 5 * n ∧ i' = m * n + r ∧ r < n ∧ m ≤ 5 ∧ i = .int .i64 i' ∧ Sl wr w1.heap.size tag g n i' q ∧ q t = L.drop (if r ≤ o then m else m + 1) ∧ (∀ j, j ≠ t → q j = []) ∧ w1.heap.size ≤ wr.heap.size ∧ Below w.heap.size w wr) (fun i _ => 5 * n - (intOf i).toNat)
        case atStart => exact ⟨0, 0, 0, tag, q, by omega, by omega, by omega, by omega, rfl, HS.out, by rw [if_pos (by omega), List.drop_zero]; exact HQK2.out, HQO.out, hzr, HBR.out⟩
        case round =>
          obtain ⟨i, m, r, tag2, q2, hi5, him, hrn, hm5, rfl, hS2, hq2, hqo2, hzr2, hbr2⟩ := hrel
          clear HS HBR HQO HQK2
          have HS2 := Lib.hid hS2
          have HB2 := Lib.hid hbr2
          have HQ2 := Lib.hid hq2
          have HQO2 := Lib.hid hqo2
          have HIM := Lib.hid him
          clear hS2 hbr2 hq2 hqo2 him
          by_cases hlt5 : i < 5 * n
          · obtain ⟨hmr, hdr⟩ := modr HIM.out hrn
            have hri : (i : Int) % (n : Int) = (r : Int) := by rw [← hmr]; push_cast; rfl
            have hdi : (i : Int) / (n : Int) = (m : Int) := by rw [← hdr]; push_cast; rfl
            obtain ⟨τ, hτ⟩ : ∃ τ : Nat, τ = 1 + r := ⟨_, rfl⟩
            have htu : turnOf n i = τ := by unfold turnOf; rw [hmr, hτ]
            have hti2 : 1 + (r : Int) = (τ : Int) := by omega
            have hmle : m ≤ 4 := by
              rcases Nat.lt_or_ge m 5 with h | h
              · omega
              · have h1 := HIM.out
                have h2 : 5 * n ≤ m * n := Nat.mul_le_mul h (Nat.le_refl n)
                omega
            have hstep : ∃ m' r', i + 1 = m' * n + r' ∧ r' < n ∧ m' ≤ 5 ∧ (∀ a b : Nat, (r ≠ o → (if r ≤ o then m else m + 1) = a → (if r' ≤ o then m' else m' + 1) = a) ∧ (r = o → (if r' ≤ o then m' else m' + 1) = m + 1)) := by
              by_cases hr1 : r + 1 < n
              · refine ⟨m, r + 1, by rw [HIM.out]; omega, hr1, by omega, fun a b => ⟨fun h1 h2 => ?_, fun h1 => ?_⟩⟩
                · rw [← h2]
                  by_cases h3 : r ≤ o
                  · rw [if_pos h3, if_pos (by omega)]
                  · rw [if_neg h3, if_neg (by omega)]
                · rw [if_neg (by omega)]
              · refine ⟨m + 1, 0, by rw [HIM.out, Nat.add_mul]; omega, by omega, by omega, fun a b => ⟨fun h1 h2 => ?_, fun h1 => ?_⟩⟩
                · rw [← h2, if_pos (by omega), if_neg (by omega)]
                · rw [if_pos (by omega)]
            obtain ⟨m', r', him', hrn', hm5', hup⟩ := hstep
            have HUP := Lib.hid hup
            have HIM' := Lib.hid him'
            have HTU := Lib.hid htu
            have HTAU := Lib.hid hτ
            clear hup him' htu hmr hdr hτ
            by_cases hro : r = o
            · have hτt : τ = t := by rw [HTAU.out, HT.out, hro]
              have hqm : q2 t = L.drop m := by rw [HQ2.out, hro, if_pos (Nat.le_refl _)]
              have hz1' : ((τ : Int) == (t : Int)) = true := by rw [hτt]; simp
              cases hqd : L.drop m with
              | nil =>
                have hmk : ¬ m < k := by
                  intro h
                  have := congrArg List.length hqd
                  rw [List.length_drop, HLL.out, List.length_nil] at this; omega
                have hmk2 : decide ((m : Int) < (k : Int)) = false := by simp; omega
                have hmk3 : decide (m < k) = false := by simp; omega
                have hmk4 : (m : Int) < 4 → decide ((m : Int) < 4) = true := fun h => by simp; omega
                have HQM := Lib.hid (show q2 (turnOf n i) = [] by rw [HTU.out, hτt, hqm, hqd])
                have HQE := Lib.hid (show q2 t = L.drop (if r' ≤ o then m' else m' + 1) by
                  rw [(HUP.out 0 0).2 hro, hqm, hqd]
                  symm
                  apply List.drop_eq_nil_of_le
                  have := congrArg List.length hqd
                  rw [List.length_drop, List.length_nil] at this; omega)
                clear hqm hqd hmk4
                go_wp2_with fail
                refine (next_none w1.heap.size tag2 g n i q2 _ n1 (by omega) (by omega) HS2.out HQM.out).mono ?_
                rw [HTU.out]
                rintro e w5 ⟨rfl, h5, hsz5, hF5⟩
                have hb5 := HB2.out.trans (HS2.out.rest hF5 hz1 hzr2)
                have hz5 : w1.heap.size ≤ w5.heap.size := by omega
                have H5 := Lib.hid h5
                clear h5 hF5
                go_wp2_with fail
                go_quiet (fail)
                go_wp2_with fail
                go_roundw
                case rel => exact ⟨i + 1, m', r', tag2, q2, by omega, HIM'.out, hrn', hm5', by go_num, Sl.below_ H5.out (below_drewN _ _ _), HQE.out, HQO2.out, hz5, hb5.trans (below_drewN _ _ _)⟩
                case measure => simp [intOf] <;> omega
              | cons l rest =>
                have hmk : m < k := by
                  rcases Nat.lt_or_ge m k with h | h
                  · exact h
                  · rw [List.drop_eq_nil_of_le (by rw [HLL.out]; exact h)] at hqd; cases hqd
                have hmk2 : decide ((m : Int) < (k : Int)) = true := by simp; omega
                have hmk3 : decide (m < k) = true := by simp; omega
                have hlm : L[m]? = some l := by
                  have := congrArg (fun x => x[0]?) hqd
                  simpa using this
                obtain ⟨p2, hp2, hp2l⟩ := HLG.out m l hlm
                have hmp2 : m < ps2.length := (List.getElem?_eq_some_iff.1 hp2).1
                obtain ⟨ad2, hA2, hSb2, hcc2⟩ := HR.out.at_ (by omega)
                have hpt2 := HR.out.part p2 (List.mem_of_getElem? hp2)
                have hcell2 := hcc2 m hmp2
                rw [List.getElem?_eq_getElem hmp2] at hp2
                injection hp2 with hp2
                rw [hp2] at hcell2
                obtain ⟨qA, qn, qc, ql⟩ := p2
                obtain ⟨hpa, hpb, hpc, hpd⟩ := hpt2
                simp only at hpa hpb hpc hpd hp2l
                rw [hp2l] at hpa hpd
                have HCELL2 := Lib.hid (show w.cell? (ad2.add m) = some (.slice qA qn qc) from hcell2)
                have HPD := Lib.hid (hpd.rd (B := w.heap.size) (fun k hk => hk))
                have HPA := Lib.hid hpa
                have HSB2 := Lib.hid hSb2
                have hml2 : (m : Int) < (len2 : Int) := by have := HL.out; omega
                have HQM := Lib.hid (show q2 (turnOf n i) = l :: rest by rw [HTU.out, hτt, hqm, hqd])
                have HQE := Lib.hid (show rest = L.drop (if r' ≤ o then m' else m' + 1) by
                  rw [(HUP.out 0 0).2 hro, ← List.drop_drop, hqd]; rfl)
                clear hqm hqd hlm hp2 hp2l hcell2 hcc2 hpa hpd hSb2 hmp2
                first | subst hA2 | (injection hA2 with hA2; have hA3 := hA2.symm; subst hA3)
                go_wp2_with fail
                refine (next_some w1.heap.size tag2 g n i q2 _ n1 (by omega) (by omega) HS2.out HQM.out).mono ?_
                rw [HTU.out]
                rintro e w5 ⟨v5, tag5, rfl, hv5, _, h5, _, hsz5, hF5⟩
                have hb5 := HB2.out.trans (HS2.out.rest hF5 hz1 hzr2)
                have hz5 : w1.heap.size ≤ w5.heap.size := by omega
                have H5 := Lib.hid h5
                obtain ⟨A5, c5, rfl, hR5, _⟩ := hv5.form
                have hs5 : ∀ nq, (convert 28 9 (.slice A5 l.length c5)).run Try.prog (w5.drewN nq) = .ok (.string (str l)) (w5.drewN nq) := fun nq => Rd.str Go.Proofs.Ytjlmgniachdfgaa.u8 9 Try.underlying9 (w := w5.drewN nq) (B := w5.heap.size) hR5 c5
                have hs6 : ∀ nq, (convert 28 9 (.slice qA qn qc)).run Try.prog (w5.drewN nq) = .ok (.string (str l)) (w5.drewN nq) := fun nq => by
                  have := Rd.str Go.Proofs.Ytjlmgniachdfgaa.u8 9 Try.underlying9 (w := w5.drewN nq) (B := w.heap.size) (HPD.out.below (hb5.trans (below_drewN _ _ _))) qc
                  rw [HPA.out] at this
                  exact this
                have hc5 : w5.cell? (ad2.add m) = some (.slice qA qn qc) := (hb5.cell (by rw [add_block]; exact HSB2.out)).trans HCELL2.out
                clear h5 hF5 hv5 hR5
                go_wp2_with fail
                go_quiet (fail)
                go_wp2_with fail
                go_roundw
                case rel => exact ⟨i + 1, m', r', tag5, _, by omega, HIM'.out, hrn', hm5', by go_num, Sl.below_ H5.out (below_drewN _ _ _), by rw [hτt, upd_same]; exact HQE.out, fun j hj => by rw [hτt, upd_other _ _ hj]; exact HQO2.out j hj, hz5, hb5.trans (below_drewN _ _ _)⟩
                case measure => simp [intOf] <;> omega
            · have hτt : τ ≠ t := by have := HTAU.out; have := HT.out; omega
              have hz1' : ((τ : Int) == (t : Int)) = false := by rw [beq_eq_false_iff_ne]; omega
              have HQM := Lib.hid (show q2 (turnOf n i) = [] by rw [HTU.out]; exact HQO2.out _ hτt)
              have HQE := Lib.hid (show q2 t = L.drop (if r' ≤ o then m' else m' + 1) by rw [HQ2.out, (HUP.out _ 0).1 hro rfl])
              go_wp2_with fail
              refine (next_none w1.heap.size tag2 g n i q2 _ n1 (by omega) (by omega) HS2.out HQM.out).mono ?_
              rw [HTU.out]
              rintro e w5 ⟨rfl, h5, hsz5, hF5⟩
              have hb5 := HB2.out.trans (HS2.out.rest hF5 hz1 hzr2)
              have hz5 : w1.heap.size ≤ w5.heap.size := by omega
              have H5 := Lib.hid h5
              clear h5 hF5
              go_wp2_with fail
              go_quiet (fail)
              go_wp2_with fail
              go_roundw
              case rel => exact ⟨i + 1, m', r', tag2, q2, by omega, HIM'.out, hrn', hm5', by go_num, Sl.below_ H5.out (below_drewN _ _ _), HQE.out, HQO2.out, hz5, hb5.trans (below_drewN _ _ _)⟩
              case measure => simp [intOf] <;> omega
          · have hm55 : m = 5 := by
              rcases Nat.lt_or_ge m 5 with h | h
              · have h1 := HIM.out
                have h2 : (m + 1) * n ≤ 5 * n := Nat.mul_le_mul h (Nat.le_refl n)
                rw [Nat.add_mul] at h2
                omega
              · omega
            have HC := Lib.hid (show cnt n q2 (t : Int) = 0 by
              rw [cnt_yes (by have := HT.out; omega) (by have := HT.out; omega), HQ2.out, List.length_drop, HLL.out]
              split <;> omega)
            go_wp2_with fail
            refine (count_any w1.heap.size tag2 g n i q2 (t : Int) _ (by omega) HS2.out).mono ?_
            rw [HC.out]
            rintro e w5 ⟨rfl, rfl⟩
            go_wp2_with fail
            go_ret
            exact ⟨rfl, HB2.out⟩
      · obtain ⟨ad, hA, hcc⟩ := HC3.out hx1 p hp
        subst hA
        obtain ⟨pA, pn, pc, pl⟩ := p
        have hcc' : wz.cell? (ad.add k) = some (.slice pA pn pc) := hcc
        have hpn' : 400 < pn := hpn
        clear hcc hpn hp
        go_wp2_with fail
        go_loopw [13] (fun i wr => ∃ (i' m r : Nat) (tag : Tags) (q : Qs), i' ≤ 5 * n ∧ i' = m * n + r ∧ r < n ∧ m ≤ 5 ∧ i = .int .i64 i' ∧ Sl wr w1.heap.size tag g n i' q ∧ q t = L.drop (if r ≤ o then m else m + 1) ∧ (∀ j, j ≠ t → q j = []) ∧ w1.heap.size ≤ wr.heap.size ∧ Below w.heap.size w wr) (fun i _ => 5 * n - (intOf i).toNat)
        case atStart => exact ⟨0, 0, 0, tag, q, by omega, by omega, by omega, by omega, rfl, HS.out, by rw [if_pos (by omega), List.drop_zero]; exact HQK2.out, HQO.out, hzr, HBR.out⟩
        case round =>
          obtain ⟨i, m, r, tag2, q2, hi5, him, hrn, hm5, rfl, hS2, hq2, hqo2, hzr2, hbr2⟩ := hrel
          clear HS HBR HQO HQK2
          have HS2 := Lib.hid hS2
          have HB2 := Lib.hid hbr2
          have HQ2 := Lib.hid hq2
          have HQO2 := Lib.hid hqo2
          have HIM := Lib.hid him
          clear hS2 hbr2 hq2 hqo2 him
          by_cases hlt5 : i < 5 * n
          · obtain ⟨hmr, hdr⟩ := modr HIM.out hrn
            have hri : (i : Int) % (n : Int) = (r : Int) := by rw [← hmr]; push_cast; rfl
            have hdi : (i : Int) / (n : Int) = (m : Int) := by rw [← hdr]; push_cast; rfl
            obtain ⟨τ, hτ⟩ : ∃ τ : Nat, τ = 1 + r := ⟨_, rfl⟩
            have htu : turnOf n i = τ := by unfold turnOf; rw [hmr, hτ]
            have hti2 : 1 + (r : Int) = (τ : Int) := by omega
            have hmle : m ≤ 4 := by
              rcases Nat.lt_or_ge m 5 with h | h
              · omega
              · have h1 := HIM.out
                have h2 : 5 * n ≤ m * n := Nat.mul_le_mul h (Nat.le_refl n)
                omega
            have hstep : ∃ m' r', i + 1 = m' * n + r' ∧ r' < n ∧ m' ≤ 5 ∧ (∀ a b : Nat, (r ≠ o → (if r ≤ o then m else m + 1) = a → (if r' ≤ o then m' else m' + 1) = a) ∧ (r = o → (if r' ≤ o then m' else m' + 1) = m + 1)) := by
              by_cases hr1 : r + 1 < n
              · refine ⟨m, r + 1, by rw [HIM.out]; omega, hr1, by omega, fun a b => ⟨fun h1 h2 => ?_, fun h1 => ?_⟩⟩
                · rw [← h2]
                  by_cases h3 : r ≤ o
                  · rw [if_pos h3, if_pos (by omega)]
                  · rw [if_neg h3, if_neg (by omega)]
                · rw [if_neg (by omega)]
              · refine ⟨m + 1, 0, by rw [HIM.out, Nat.add_mul]; omega, by omega, by omega, fun a b => ⟨fun h1 h2 => ?_, fun h1 => ?_⟩⟩
                · rw [← h2, if_pos (by omega), if_neg (by omega)]
                · rw [if_pos (by omega)]
            obtain ⟨m', r', him', hrn', hm5', hup⟩ := hstep
            have HUP := Lib.hid hup
            have HIM' := Lib.hid him'
            have HTU := Lib.hid htu
            have HTAU := Lib.hid hτ
            clear hup him' htu hmr hdr hτ
            by_cases hro : r = o
            · have hτt : τ = t := by rw [HTAU.out, HT.out, hro]
              have hqm : q2 t = L.drop m := by rw [HQ2.out, hro, if_pos (Nat.le_refl _)]
              have hz1' : ((τ : Int) == (t : Int)) = true := by rw [hτt]; simp
              cases hqd : L.drop m with
              | nil =>
                have hmk : ¬ m < k := by
                  intro h
                  have := congrArg List.length hqd
                  rw [List.length_drop, HLL.out, List.length_nil] at this; omega
                have hmk2 : decide ((m : Int) < (k : Int)) = false := by simp; omega
                have hmk3 : decide (m < k) = false := by simp; omega
                have hmk4 : (m : Int) < 4 → decide ((m : Int) < 4) = true := fun h => by simp; omega
                have HQM := Lib.hid (show q2 (turnOf n i) = [] by rw [HTU.out, hτt, hqm, hqd])
                have HQE := Lib.hid (show q2 t = L.drop (if r' ≤ o then m' else m' + 1) by
                  rw [(HUP.out 0 0).2 hro, hqm, hqd]
                  symm
                  apply List.drop_eq_nil_of_le
                  have := congrArg List.length hqd
                  rw [List.length_drop, List.length_nil] at this; omega)
                clear hqm hqd hmk4
                go_wp2_with fail
                refine (next_none w1.heap.size tag2 g n i q2 _ n1 (by omega) (by omega) HS2.out HQM.out).mono ?_
                rw [HTU.out]
                rintro e w5 ⟨rfl, h5, hsz5, hF5⟩
                have hb5 := HB2.out.trans (HS2.out.rest hF5 hz1 hzr2)
                have hz5 : w1.heap.size ≤ w5.heap.size := by omega
                have H5 := Lib.hid h5
                clear h5 hF5
                go_wp2_with fail
                go_quiet (fail)
                go_wp2_with fail
                go_roundw
                case rel => exact ⟨i + 1, m', r', tag2, q2, by omega, HIM'.out, hrn', hm5', by go_num, Sl.below_ H5.out (below_drewN _ _ _), HQE.out, HQO2.out, hz5, hb5.trans (below_drewN _ _ _)⟩
                case measure => simp [intOf] <;> omega
              | cons l rest =>
                have hmk : m < k := by
                  rcases Nat.lt_or_ge m k with h | h
                  · exact h
                  · rw [List.drop_eq_nil_of_le (by rw [HLL.out]; exact h)] at hqd; cases hqd
                have hmk2 : decide ((m : Int) < (k : Int)) = true := by simp; omega
                have hmk3 : decide (m < k) = true := by simp; omega
                have hlm : L[m]? = some l := by
                  have := congrArg (fun x => x[0]?) hqd
                  simpa using this
                obtain ⟨p2, hp2, hp2l⟩ := HLG.out m l hlm
                have hmp2 : m < ps2.length := (List.getElem?_eq_some_iff.1 hp2).1
                obtain ⟨ad2, hA2, hSb2, hcc2⟩ := HR.out.at_ (by omega)
                have hpt2 := HR.out.part p2 (List.mem_of_getElem? hp2)
                have hcell2 := hcc2 m hmp2
                rw [List.getElem?_eq_getElem hmp2] at hp2
                injection hp2 with hp2
                rw [hp2] at hcell2
                obtain ⟨qA, qn, qc, ql⟩ := p2
                obtain ⟨hpa, hpb, hpc, hpd⟩ := hpt2
                simp only at hpa hpb hpc hpd hp2l
                rw [hp2l] at hpa hpd
                have HCELL2 := Lib.hid (show w.cell? (ad2.add m) = some (.slice qA qn qc) from hcell2)
                have HPD := Lib.hid (hpd.rd (B := w.heap.size) (fun k hk => hk))
                have HPA := Lib.hid hpa
                have HSB2 := Lib.hid hSb2
                have hml2 : (m : Int) < (len2 : Int) := by have := HL.out; omega
                have HQM := Lib.hid (show q2 (turnOf n i) = l :: rest by rw [HTU.out, hτt, hqm, hqd])
                have HQE := Lib.hid (show rest = L.drop (if r' ≤ o then m' else m' + 1) by
                  rw [(HUP.out 0 0).2 hro, ← List.drop_drop, hqd]; rfl)
                clear hqm hqd hlm hp2 hp2l hcell2 hcc2 hpa hpd hSb2 hmp2
                first | subst hA2 | (injection hA2 with hA2; have hA3 := hA2.symm; subst hA3)
                go_wp2_with fail
                refine (next_some w1.heap.size tag2 g n i q2 _ n1 (by omega) (by omega) HS2.out HQM.out).mono ?_
                rw [HTU.out]
                rintro e w5 ⟨v5, tag5, rfl, hv5, _, h5, _, hsz5, hF5⟩
                have hb5 := HB2.out.trans (HS2.out.rest hF5 hz1 hzr2)
                have hz5 : w1.heap.size ≤ w5.heap.size := by omega
                have H5 := Lib.hid h5
                obtain ⟨A5, c5, rfl, hR5, _⟩ := hv5.form
                have hs5 : ∀ nq, (convert 28 9 (.slice A5 l.length c5)).run Try.prog (w5.drewN nq) = .ok (.string (str l)) (w5.drewN nq) := fun nq => Rd.str Go.Proofs.Ytjlmgniachdfgaa.u8 9 Try.underlying9 (w := w5.drewN nq) (B := w5.heap.size) hR5 c5
                have hs6 : ∀ nq, (convert 28 9 (.slice qA qn qc)).run Try.prog (w5.drewN nq) = .ok (.string (str l)) (w5.drewN nq) := fun nq => by
                  have := Rd.str Go.Proofs.Ytjlmgniachdfgaa.u8 9 Try.underlying9 (w := w5.drewN nq) (B := w.heap.size) (HPD.out.below (hb5.trans (below_drewN _ _ _))) qc
                  rw [HPA.out] at this
                  exact this
                have hc5 : w5.cell? (ad2.add m) = some (.slice qA qn qc) := (hb5.cell (by rw [add_block]; exact HSB2.out)).trans HCELL2.out
                clear h5 hF5 hv5 hR5
                go_wp2_with fail
                go_quiet (fail)
                go_wp2_with fail
                go_roundw
                case rel => exact ⟨i + 1, m', r', tag5, _, by omega, HIM'.out, hrn', hm5', by go_num, Sl.below_ H5.out (below_drewN _ _ _), by rw [hτt, upd_same]; exact HQE.out, fun j hj => by rw [hτt, upd_other _ _ hj]; exact HQO2.out j hj, hz5, hb5.trans (below_drewN _ _ _)⟩
                case measure => simp [intOf] <;> omega
            · have hτt : τ ≠ t := by have := HTAU.out; have := HT.out; omega
              have hz1' : ((τ : Int) == (t : Int)) = false := by rw [beq_eq_false_iff_ne]; omega
              have HQM := Lib.hid (show q2 (turnOf n i) = [] by rw [HTU.out]; exact HQO2.out _ hτt)
              have HQE := Lib.hid (show q2 t = L.drop (if r' ≤ o then m' else m' + 1) by rw [HQ2.out, (HUP.out _ 0).1 hro rfl])
              go_wp2_with fail
              refine (next_none w1.heap.size tag2 g n i q2 _ n1 (by omega) (by omega) HS2.out HQM.out).mono ?_
              rw [HTU.out]
              rintro e w5 ⟨rfl, h5, hsz5, hF5⟩
              have hb5 := HB2.out.trans (HS2.out.rest hF5 hz1 hzr2)
              have hz5 : w1.heap.size ≤ w5.heap.size := by omega
              have H5 := Lib.hid h5
              clear h5 hF5
              go_wp2_with fail
              go_quiet (fail)
              go_wp2_with fail
              go_roundw
              case rel => exact ⟨i + 1, m', r', tag2, q2, by omega, HIM'.out, hrn', hm5', by go_num, Sl.below_ H5.out (below_drewN _ _ _), HQE.out, HQO2.out, hz5, hb5.trans (below_drewN _ _ _)⟩
              case measure => simp [intOf] <;> omega
          · have hm55 : m = 5 := by
              rcases Nat.lt_or_ge m 5 with h | h
              · have h1 := HIM.out
                have h2 : (m + 1) * n ≤ 5 * n := Nat.mul_le_mul h (Nat.le_refl n)
                rw [Nat.add_mul] at h2
                omega
              · omega
            have HC := Lib.hid (show cnt n q2 (t : Int) = 0 by
              rw [cnt_yes (by have := HT.out; omega) (by have := HT.out; omega), HQ2.out, List.length_drop, HLL.out]
              split <;> omega)
            go_wp2_with fail
            refine (count_any w1.heap.size tag2 g n i q2 (t : Int) _ (by omega) HS2.out).mono ?_
            rw [HC.out]
            rintro e w5 ⟨rfl, rfl⟩
            go_wp2_with fail
            go_ret
            exact ⟨rfl, HB2.out⟩
      · go_wp2_with fail
        go_loopw [13] (fun i wr => ∃ (i' m r : Nat) (tag : Tags) (q : Qs), i' ≤ 5 * n ∧ i' = m * n + r ∧ r < n ∧ m ≤ 5 ∧ i = .int .i64 i' ∧ Sl wr w1.heap.size tag g n i' q ∧ q t = L.drop (if r ≤ o then m else m + 1) ∧ (∀ j, j ≠ t → q j = []) ∧ w1.heap.size ≤ wr.heap.size ∧ Below w.heap.size w wr) (fun i _ => 5 * n - (intOf i).toNat)
        case atStart => exact ⟨0, 0, 0, tag, q, by omega, by omega, by omega, by omega, rfl, HS.out, by rw [if_pos (by omega), List.drop_zero]; exact HQK2.out, HQO.out, hzr, HBR.out⟩
        case round =>
          obtain ⟨i, m, r, tag2, q2, hi5, him, hrn, hm5, rfl, hS2, hq2, hqo2, hzr2, hbr2⟩ := hrel
          clear HS HBR HQO HQK2
          have HS2 := Lib.hid hS2
          have HB2 := Lib.hid hbr2
          have HQ2 := Lib.hid hq2
          have HQO2 := Lib.hid hqo2
          have HIM := Lib.hid him
          clear hS2 hbr2 hq2 hqo2 him
          by_cases hlt5 : i < 5 * n
          · obtain ⟨hmr, hdr⟩ := modr HIM.out hrn
            have hri : (i : Int) % (n : Int) = (r : Int) := by rw [← hmr]; push_cast; rfl
            have hdi : (i : Int) / (n : Int) = (m : Int) := by rw [← hdr]; push_cast; rfl
            obtain ⟨τ, hτ⟩ : ∃ τ : Nat, τ = 1 + r := ⟨_, rfl⟩
            have htu : turnOf n i = τ := by unfold turnOf; rw [hmr, hτ]
            have hti2 : 1 + (r : Int) = (τ : Int) := by omega
            have hmle : m ≤ 4 := by
              rcases Nat.lt_or_ge m 5 with h | h
              · omega
              · have h1 := HIM.out
                have h2 : 5 * n ≤ m * n := Nat.mul_le_mul h (Nat.le_refl n)
                omega
            have hstep : ∃ m' r', i + 1 = m' * n + r' ∧ r' < n ∧ m' ≤ 5 ∧ (∀ a b : Nat, (r ≠ o → (if r ≤ o then m else m + 1) = a → (if r' ≤ o then m' else m' + 1) = a) ∧ (r = o → (if r' ≤ o then m' else m' + 1) = m + 1)) := by
              by_cases hr1 : r + 1 < n
              · refine ⟨m, r + 1, by rw [HIM.out]; omega, hr1, by omega, fun a b => ⟨fun h1 h2 => ?_, fun h1 => ?_⟩⟩
                · rw [← h2]
                  by_cases h3 : r ≤ o
                  · rw [if_pos h3, if_pos (by omega)]
                  · rw [if_neg h3, if_neg (by omega)]
                · rw [if_neg (by omega)]
              · refine ⟨m + 1, 0, by rw [HIM.out, Nat.add_mul]; omega, by omega, by omega, fun a b => ⟨fun h1 h2 => ?_, fun h1 => ?_⟩⟩
                · rw [← h2, if_pos (by omega), if_neg (by omega)]
                · rw [if_pos (by omega)]
            obtain ⟨m', r', him', hrn', hm5', hup⟩ := hstep
            have HUP := Lib.hid hup
            have HIM' := Lib.hid him'
            have HTU := Lib.hid htu
            have HTAU := Lib.hid hτ
            clear hup him' htu hmr hdr hτ
            by_cases hro : r = o
            · have hτt : τ = t := by rw [HTAU.out, HT.out, hro]
              have hqm : q2 t = L.drop m := by rw [HQ2.out, hro, if_pos (Nat.le_refl _)]
              have hz1' : ((τ : Int) == (t : Int)) = true := by rw [hτt]; simp
              cases hqd : L.drop m with
              | nil =>
                have hmk : ¬ m < k := by
                  intro h
                  have := congrArg List.length hqd
                  rw [List.length_drop, HLL.out, List.length_nil] at this; omega
                have hmk2 : decide ((m : Int) < (k : Int)) = false := by simp; omega
                have hmk3 : decide (m < k) = false := by simp; omega
                have hmk4 : (m : Int) < 4 → decide ((m : Int) < 4) = true := fun h => by simp; omega
                have HQM := Lib.hid (show q2 (turnOf n i) = [] by rw [HTU.out, hτt, hqm, hqd])
                have HQE := Lib.hid (show q2 t = L.drop (if r' ≤ o then m' else m' + 1) by
                  rw [(HUP.out 0 0).2 hro, hqm, hqd]
                  symm
                  apply List.drop_eq_nil_of_le
                  have := congrArg List.length hqd
                  rw [List.length_drop, List.length_nil] at this; omega)
                clear hqm hqd hmk4
                go_wp2_with fail
                refine (next_none w1.heap.size tag2 g n i q2 _ n1 (by omega) (by omega) HS2.out HQM.out).mono ?_
                rw [HTU.out]
                rintro e w5 ⟨rfl, h5, hsz5, hF5⟩
                have hb5 := HB2.out.trans (HS2.out.rest hF5 hz1 hzr2)
                have hz5 : w1.heap.size ≤ w5.heap.size := by omega
                have H5 := Lib.hid h5
                clear h5 hF5
                go_wp2_with fail
                go_quiet (fail)
                go_wp2_with fail
                go_roundw
                case rel => exact ⟨i + 1, m', r', tag2, q2, by omega, HIM'.out, hrn', hm5', by go_num, Sl.below_ H5.out (below_drewN _ _ _), HQE.out, HQO2.out, hz5, hb5.trans (below_drewN _ _ _)⟩
                case measure => simp [intOf] <;> omega
              | cons l rest =>
                have hmk : m < k := by
                  rcases Nat.lt_or_ge m k with h | h
                  · exact h
                  · rw [List.drop_eq_nil_of_le (by rw [HLL.out]; exact h)] at hqd; cases hqd
                have hmk2 : decide ((m : Int) < (k : Int)) = true := by simp; omega
                have hmk3 : decide (m < k) = true := by simp; omega
                have hlm : L[m]? = some l := by
                  have := congrArg (fun x => x[0]?) hqd
                  simpa using this
                obtain ⟨p2, hp2, hp2l⟩ := HLG.out m l hlm
                have hmp2 : m < ps2.length := (List.getElem?_eq_some_iff.1 hp2).1
                obtain ⟨ad2, hA2, hSb2, hcc2⟩ := HR.out.at_ (by omega)
                have hpt2 := HR.out.part p2 (List.mem_of_getElem? hp2)
                have hcell2 := hcc2 m hmp2
                rw [List.getElem?_eq_getElem hmp2] at hp2
                injection hp2 with hp2
                rw [hp2] at hcell2
                obtain ⟨qA, qn, qc, ql⟩ := p2
                obtain ⟨hpa, hpb, hpc, hpd⟩ := hpt2
                simp only at hpa hpb hpc hpd hp2l
                rw [hp2l] at hpa hpd
                have HCELL2 := Lib.hid (show w.cell? (ad2.add m) = some (.slice qA qn qc) from hcell2)
                have HPD := Lib.hid (hpd.rd (B := w.heap.size) (fun k hk => hk))
                have HPA := Lib.hid hpa
                have HSB2 := Lib.hid hSb2
                have hml2 : (m : Int) < (len2 : Int) := by have := HL.out; omega
                have HQM := Lib.hid (show q2 (turnOf n i) = l :: rest by rw [HTU.out, hτt, hqm, hqd])
                have HQE := Lib.hid (show rest = L.drop (if r' ≤ o then m' else m' + 1) by
                  rw [(HUP.out 0 0).2 hro, ← List.drop_drop, hqd]; rfl)
                clear hqm hqd hlm hp2 hp2l hcell2 hcc2 hpa hpd hSb2 hmp2
                first | subst hA2 | (injection hA2 with hA2; have hA3 := hA2.symm; subst hA3)
                go_wp2_with fail
                refine (next_some w1.heap.size tag2 g n i q2 _ n1 (by omega) (by omega) HS2.out HQM.out).mono ?_
                rw [HTU.out]
                rintro e w5 ⟨v5, tag5, rfl, hv5, _, h5, _, hsz5, hF5⟩
                have hb5 := HB2.out.trans (HS2.out.rest hF5 hz1 hzr2)
                have hz5 : w1.heap.size ≤ w5.heap.size := by omega
                have H5 := Lib.hid h5
                obtain ⟨A5, c5, rfl, hR5, _⟩ := hv5.form
                have hs5 : ∀ nq, (convert 28 9 (.slice A5 l.length c5)).run Try.prog (w5.drewN nq) = .ok (.string (str l)) (w5.drewN nq) := fun nq => Rd.str Go.Proofs.Ytjlmgniachdfgaa.u8 9 Try.underlying9 (w := w5.drewN nq) (B := w5.heap.size) hR5 c5
                have hs6 : ∀ nq, (convert 28 9 (.slice qA qn qc)).run Try.prog (w5.drewN nq) = .ok (.string (str l)) (w5.drewN nq) := fun nq => by
                  have := Rd.str Go.Proofs.Ytjlmgniachdfgaa.u8 9 Try.underlying9 (w := w5.drewN nq) (B := w.heap.size) (HPD.out.below (hb5.trans (below_drewN _ _ _))) qc
                  rw [HPA.out] at this
                  exact this
                have hc5 : w5.cell? (ad2.add m) = some (.slice qA qn qc) := (hb5.cell (by rw [add_block]; exact HSB2.out)).trans HCELL2.out
                clear h5 hF5 hv5 hR5
                go_wp2_with fail
                go_quiet (fail)
                go_wp2_with fail
                go_roundw
                case rel => exact ⟨i + 1, m', r', tag5, _, by omega, HIM'.out, hrn', hm5', by go_num, Sl.below_ H5.out (below_drewN _ _ _), by rw [hτt, upd_same]; exact HQE.out, fun j hj => by rw [hτt, upd_other _ _ hj]; exact HQO2.out j hj, hz5, hb5.trans (below_drewN _ _ _)⟩
                case measure => simp [intOf] <;> omega
            · have hτt : τ ≠ t := by have := HTAU.out; have := HT.out; omega
              have hz1' : ((τ : Int) == (t : Int)) = false := by rw [beq_eq_false_iff_ne]; omega
              have HQM := Lib.hid (show q2 (turnOf n i) = [] by rw [HTU.out]; exact HQO2.out _ hτt)
              have HQE := Lib.hid (show q2 t = L.drop (if r' ≤ o then m' else m' + 1) by rw [HQ2.out, (HUP.out _ 0).1 hro rfl])
              go_wp2_with fail
              refine (next_none w1.heap.size tag2 g n i q2 _ n1 (by omega) (by omega) HS2.out HQM.out).mono ?_
              rw [HTU.out]
              rintro e w5 ⟨rfl, h5, hsz5, hF5⟩
              have hb5 := HB2.out.trans (HS2.out.rest hF5 hz1 hzr2)
              have hz5 : w1.heap.size ≤ w5.heap.size := by omega
              have H5 := Lib.hid h5
              clear h5 hF5
              go_wp2_with fail
              go_quiet (fail)
              go_wp2_with fail
              go_roundw
              case rel => exact ⟨i + 1, m', r', tag2, q2, by omega, HIM'.out, hrn', hm5', by go_num, Sl.below_ H5.out (below_drewN _ _ _), HQE.out, HQO2.out, hz5, hb5.trans (below_drewN _ _ _)⟩
              case measure => simp [intOf] <;> omega
          · have hm55 : m = 5 := by
              rcases Nat.lt_or_ge m 5 with h | h
              · have h1 := HIM.out
                have h2 : (m + 1) * n ≤ 5 * n := Nat.mul_le_mul h (Nat.le_refl n)
                rw [Nat.add_mul] at h2
                omega
              · omega
            have HC := Lib.hid (show cnt n q2 (t : Int) = 0 by
              rw [cnt_yes (by have := HT.out; omega) (by have := HT.out; omega), HQ2.out, List.length_drop, HLL.out]
              split <;> omega)
            go_wp2_with fail
            refine (count_any w1.heap.size tag2 g n i q2 (t : Int) _ (by omega) HS2.out).mono ?_
            rw [HC.out]
            rintro e w5 ⟨rfl, rfl⟩
            go_wp2_with fail
            go_ret
            exact ⟨rfl, HB2.out⟩

set_option maxRecDepth 100000 in
theorem lifted (os : Os) (started : os.Started) (H : Type) (enc : TypeId × Value → H) :
    ReturnsInHanded {} Try.checked os 3 .any (Rows.slotsTurnsSpec.pre6 enc Try.prog Try.f3 Rows.slotsTurnsRow.domain false) (Rows.slotsTurnsSpec.post enc Try.prog Try.f3 false true false false) := by
  refine returnsInHanded_of_change_sized (C := Try.checked) own started (by kernel_rfl) Try.func3
    (ChangeSpec.witness6 (enc := enc) (C := Try.checked) false ⟨#[], #[.int .i64 0, .int .i64 0, .slice none 0 0], []⟩ 8 (by kernel_rfl) (by kernel_rfl) (by kernel_rfl) (by kernel_rfl)) ?_
  intro W base args ds gs before hval0 hW hcnd hsz0 _
  have hval : ∀ (j : Nat) t v, Try.f3.params[j]? = some t → args[j]? = some v → Value.okWide Try.prog W .any base t v := hval0
  have hsz : (DataW.weightsEach Try.prog (Try.f3.params.toList ++ Rows.slotsTurnsSpec.plain.varTypes Try.prog) (ds ++ gs)).all (· ≤ reachBytes) = true := hsz0
  clear hsz0
  have hW' := hW
  obtain ⟨p, q, hA0, hV, rfl, hfz, hnd⟩ := hW
  have hA : DataW.TrodAll enc Try.prog W 0 (fun _ => true) true Try.f3.params.toList args.toList ds p := hA0
  rw [Try.params3] at hA hval hsz
  obtain ⟨v0, vs0, d0, ds0, p0, q0, hargs, rfl, rfl, h0, r0⟩ := trodAll_cons hA
  obtain ⟨v1, vs1, d1, ds1, p1, q1, rfl, rfl, rfl, h1, r1⟩ := trodAll_cons r0
  obtain ⟨v2, vs2, d2, ds2, p2, q2, rfl, rfl, rfl, h2, r2⟩ := trodAll_cons r1
  obtain ⟨rfl, rfl, rfl⟩ := trodAll_nil r2
  obtain rfl : args = #[v0, v1, v2] := by cases args; simp_all
  obtain ⟨rfl, rfl⟩ := trodVars_none hV
  obtain ⟨a2, len2, cap2, rfl⟩ := okWide_slice Try.underlying22 (hval 2 22 v2 rfl rfl)
  have k2 := h2
  have lt2 : ∀ x ∈ p2, x.block < W.heap.size := by obtain ⟨m, hm⟩ := k2; exact DataW.trod_lt m _ _ _ hm
  obtain ⟨ps2, w2⟩ := open_rows Try.underlying22 Try.underlying28 Try.underlying5 (by kernel_rfl) (by kernel_rfl) h2
  clear hsz
  obtain ⟨a0, rfl, rfl, rfl, w0⟩ := open_int Try.underlying3 (hval 0 3 v0 rfl rfl) h0
  obtain ⟨a1, rfl, rfl, rfl, w1⟩ := open_int Try.underlying3 (hval 1 3 v1 rfl rfl) h1
  clear hA0 hval0
  simp only [List.append_nil] at hW'
  refine (walk a0 a1 a2 len2 cap2 ps2 W w0 w1 w2).mono fun e W' ⟨he, bel⟩ => ?_
  subst he
  exact ⟨_, rfl, _, _, _, [], _, [], hW', trodAll_mk1 (shut_bool Try.underlying4 _), (trodAll_cons_mk (shut_int Try.underlying3 w0) (trodAll_cons_mk (shut_int Try.underlying3 w1) (trodAll_cons_mk (Below.trod laidOut (by kernel_rfl) (of_decide_eq_true (by kernel_rfl)) k2 bel lt2) trodAll_mk0))), rfl, bel.frame _, fun h => by cases h⟩

theorem over : Rows.slotsTurnsRow.holds Try.pinned (OpenSpec.ofChange Rows.slotsTurnsSpec) :=
  OpenClaim.holds_of_wide 3 Try.f3 rfl rfl rfl rfl rfl rfl rfl ⟨rfl, rfl, rfl, rfl, rfl⟩ rfl rfl rfl rfl rfl (by kernel_rfl) Try.func3 (by kernel_rfl)
    (of_decide_eq_true (by kernel_rfl)) (by unfold Func.isWrapper; first | (rw [if_pos (by decide +kernel)]; kernel_rfl) | (rw [if_neg (by decide +kernel)]; exact ⟨rfl, rfl⟩))
    (fun os started H enc _ => lifted os started H enc)

theorem proved : Rows.SlotsTurnsSaid := over
end Go.Proofs.Ytjlmgniachdfgaa.slotsTurns
