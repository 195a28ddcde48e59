/- Two vaults side by side. Contracts of Token, Renew, Back, Rotate, Version over both. -/
import Derived.Test.YtkgnnlglabihkaaGreatDoorTI
import Derived.SliceStrings
import Derived.SizedLaws
namespace Go.Proofs.YtkgnnlglabihkaaGreatDoor.Top
open Go Go.ChangeShapes Go.WideShapes Go.ChangeAt Go.RowKit Go.Proofs.YtkgnnlglabihkaaGreatDoor.Aes Go.Proofs.YtkgnnlglabihkaaGreatDoor.Str Go.Proofs.YtkgnnlglabihkaaGreatDoor.Mac
set_option linter.unusedVariables false
set_option linter.unusedSimpArgs false
/-- what Token hands back -/
def tokR (master : List UInt8) (tn v : Nat) (s : List UInt8) : List UInt8 := if isP s = true then tokL master tn v s else []
def tokE (s : List UInt8) : Int := if isP s = true then 0 else 10
structure Two (w0 w : World) (D : Nat → Prop) (vb rb vc rc tn n1 n2 : Nat) (master : List UInt8) : Prop where
  v : Vlt w D vb rb tn n1 master
  u : Vlt w D vc rc tn n2 master
  ne : (vb ≠ vc ∧ vb ≠ rc) ∧ (rb ≠ vc ∧ rb ≠ rc)
  hD : ∀ k, D k → k < w.heap.size
  low : (w0.heap.size ≤ vb ∧ w0.heap.size ≤ rb) ∧ (w0.heap.size ≤ vc ∧ w0.heap.size ≤ rc)
  bel : Below w0.heap.size w0 w
  tb : Tb w0.heap.size w
section
variable {w0 w w' : World} {D : Nat → Prop} {vb rb vc rc tn n1 n2 m : Nat} {master : List UInt8}
theorem Two.swap (h : Two w0 w D vb rb vc rc tn n1 n2 master) : Two w0 w D vc rc vb rb tn n2 n1 master :=
  ⟨h.u, h.v, ⟨⟨fun e => h.ne.1.1 e.symm, fun e => h.ne.2.1 e.symm⟩, ⟨fun e => h.ne.1.2 e.symm, fun e => h.ne.2.2 e.symm⟩⟩, h.hD, ⟨h.low.2, h.low.1⟩, h.bel, h.tb⟩
theorem Two.step (h : Two w0 w D vb rb vc rc tn n1 n2 master) (hv : Vlt w' D vb rb tn m master) (hf : Frame (fun k => k < w.heap.size ∧ k ≠ vb ∧ k ≠ rb) w w') : Two w0 w' D vb rb vc rc tn m n2 master := by
  have hb : Below w0.heap.size w w' := below_off hf h.bel.size h.low.1.1 h.low.1.2
  refine ⟨hv, h.u.frame hf (fun k hk => ⟨hk.1, fun e => hk.2 (e ▸ h.v.inD), fun e => hk.2 (e ▸ h.v.ring.inD)⟩) ⟨h.u.lt.1, fun e => h.ne.1.1 e.symm, fun e => h.ne.2.1 e.symm⟩ ⟨h.u.lt.2, fun e => h.ne.1.2 e.symm, fun e => h.ne.2.2 e.symm⟩,
    h.ne, fun k hk => Nat.lt_of_lt_of_le (h.hD k hk) hf.size, h.low, h.bel.trans hb, h.tb.on hb⟩
theorem Two.below (h : Two w0 w D vb rb vc rc tn n1 n2 master) (hb : Below w.heap.size w w') : Two w0 w' D vb rb vc rc tn n1 n2 master :=
  h.step (h.v.below hb) (Frame.of_below hb (fun k hk => hk.1))
theorem two_token (h : Two w0 w D vb rb vc rc tn n1 n2 master) (t1 : 1 ≤ tn) (t64 : tn ≤ 64) (v1 : 1 ≤ n1) (v2 : n1 ≤ 255) (s : List UInt8) (hs : s.length ≤ 9223372036854775000) :
    Calls Tryz.prog 7 #[.pointer (some ⟨vb, 0, none⟩), .string (str s)] w fun e w' => e = .returned (.tuple #[.string (str (tokR master tn n1 s)), .int .i64 (tokE s)]) ∧ Two w0 w' D vb rb vc rc tn n1 n2 master := by
  unfold tokR tokE
  cases hp : isP s with
  | false =>
    refine (vtoken_no D vb rb tn n1 _ master s w h.v rfl hs hp).mono ?_
    rintro e w' ⟨rfl, hv, hf⟩
    exact ⟨rfl, h.step hv hf⟩
  | true =>
    refine (vtoken_yes D vb rb tn n1 _ master s w0.heap.size w h.tb h.bel.size h.low.1.2 h.low.1.1 t1 t64 v1 v2 h.v h.hD rfl hp).mono ?_
    rintro e w' ⟨rfl, hv, hf⟩
    exact ⟨rfl, h.step hv hf⟩
theorem two_renew (h : Two w0 w D vb rb vc rc tn n1 n2 master) (t1 : 1 ≤ tn) (t64 : tn ≤ 64) (v1 : 1 ≤ n1) (v2 : n1 ≤ 255) (s : List UInt8) (hp : isP s = true) :
    Calls Tryz.prog 15 #[.pointer (some ⟨vb, 0, none⟩), .string (str (tokR master tn 1 s))] w fun e w' => ∃ r x, e = .returned (.tuple #[.string (str r), .int .i64 x]) ∧ Two w0 w' D vb rb vc rc tn n1 n2 master := by
  have ht : tokR master tn 1 s = hideL master tn 1 s ++ 46 :: [49] := by unfold tokR; rw [if_pos hp]; unfold tokL; rw [decN_one]
  rw [ht]
  refine (vrenew_any D vb rb tn n1 master (hideL master tn 1 s) w0.heap.size w h.tb h.bel.size h.low.1.2 h.low.1.1 t1 t64 v1 v2 h.v h.hD (hideL_ok (isP_ok hp))).mono ?_
  rintro e w' ⟨r, x, rfl, hv, hf⟩
  exact ⟨r, x, rfl, h.step hv hf⟩
theorem two_back (h : Two w0 w D vb rb vc rc tn n1 n2 master) (t1 : 1 ≤ tn) (t64 : tn ≤ 64) (v1 : 1 ≤ n2) (v2 : n2 ≤ 255) (s : List UInt8) (hp : isP s = true) :
    Calls Tryz.prog 16 #[.pointer (some ⟨vc, 0, none⟩), .string (str (tokR master tn 1 s))] w fun e w' => ∃ r x, e = .returned (.tuple #[.string (str r), .int .i64 x]) ∧ Two w0 w' D vb rb vc rc tn n1 n2 master := by
  have ht : tokR master tn 1 s = hideL master tn 1 s ++ 46 :: [49] := by unfold tokR; rw [if_pos hp]; unfold tokL; rw [decN_one]
  rw [ht]
  have g := h.swap
  refine (vback_any D vc rc tn n2 master (hideL master tn 1 s) w0.heap.size w g.tb g.bel.size g.low.1.2 g.low.1.1 t1 t64 v1 v2 g.v g.hD (hideL_ok (isP_ok hp))).mono ?_
  rintro e w' ⟨r, x, rfl, _, _, hv, hf⟩
  exact ⟨r, x, rfl, (g.step hv hf).swap⟩
theorem two_rotate (h : Two w0 w D vb rb vc rc tn n1 n2 master) (hn : n1 < 255) (hm : n1 + 1 = m) :
    Calls Tryz.prog 17 #[.pointer (some ⟨vb, 0, none⟩)] w fun e w' => e = .returned (.tuple #[.int .i64 (m : Int), .int .i64 0]) ∧ Two w0 w' D vb rb vc rc tn m n2 master := by
  refine (rotate_any D vb rb tn n1 m master w h.v hn hm).mono ?_
  rintro e w' ⟨rfl, hv, hf⟩
  exact ⟨rfl, h.step hv (hf.mono (fun k hk => ⟨hk.1, hk.2.1⟩))⟩
/-- two vaults newly made, one behind the other -/
theorem two_new {w1 w2 : World} (hT : Tb w0.heap.size w0) (hb1 : Below w0.heap.size w0 w1) (h1 : Vlt w1 (fun k => k = vb ∨ k = rb) vb rb tn n1 master) (l1 : w0.heap.size ≤ vb) (l2 : w0.heap.size ≤ rb)
    (h2 : Vlt w2 (fun k => (k = vb ∨ k = rb) ∨ k = vc ∨ k = rc) vc rc tn n2 master) (l3 : w1.heap.size ≤ vc) (l4 : w1.heap.size ≤ rc) (hb2 : Below w1.heap.size w1 w2) : Two w0 w2 (fun k => (k = vb ∨ k = rb) ∨ k = vc ∨ k = rc) vb rb vc rc tn n1 n2 master := by
  have lv := h1.lt
  have lu := h2.lt
  have hz := hb1.size
  have hz2 := hb2.size
  have hb : Below w0.heap.size w0 w2 := hb1.trans (hb2.mono hz)
  refine ⟨(h1.more (D' := fun k => (k = vb ∨ k = rb) ∨ k = vc ∨ k = rc) (fun k hk => by rcases hk with h | h | h; exact .inl h; exact .inr (by omega); exact .inr (by omega)) (fun k hk => .inl hk)).below hb2, h2, ⟨⟨by omega, by omega⟩, ⟨by omega, by omega⟩⟩, fun k hk => ?_, ⟨⟨l1, l2⟩, ⟨by omega, by omega⟩⟩, hb, hT.on hb⟩
  rcases hk with (h | h) | h | h <;> omega
end
end Go.Proofs.YtkgnnlglabihkaaGreatDoor.Top

/- TopApart: two vaults of one master key and tenant, asked in any order. Contract. -/
namespace Go.Proofs.YtkgnnlglabihkaaGreatDoor.Top
open Go Go.ChangeShapes Go.WideShapes Go.ChangeAt Go.RowKit Go.Proofs.YtkgnnlglabihkaaGreatDoor.Aes Go.Proofs.YtkgnnlglabihkaaGreatDoor.Str Go.Proofs.YtkgnnlglabihkaaGreatDoor.Mac
set_option linter.unusedVariables false
set_option linter.unusedSimpArgs false
set_option maxRecDepth 100000 in
set_option maxHeartbeats 1000000 in
theorem apart_no (A At : Option Addr) (n c nt ct : Nat) (tn : Int) (master s : List UInt8) (w : World) (hT : Tb w.heap.size w) (hn : master.length = n) (hr : Rd w w.heap.size A master) (h : n < 16 ∨ 64 < n ∨ tn < 1 ∨ 64 < tn) :
    Calls Tryz.prog 4 #[.slice A n c, .int .i64 tn, .slice At nt ct, .string (str s)] w fun e w' => e = .returned (.bool true) ∧ Below w.heap.size w w' := by
  have HH := Lib.hid (tells_any w.heap.size w hT (Nat.le_refl _))
  have HN1 := Lib.hid (fun w hr => vnew_no A n c tn 1 master w hn hr (by omega))
  have HN3 := Lib.hid (fun w hr => vnew_no A n c tn 3 master w hn hr (by omega))
  have HKY := Lib.hid (fun w hr h16 h64 => knew_yes A n c master w hn hr h16 h64)
  have HKN := Lib.hid (fun w h => knew_no A n c w h)
  have HR := Lib.hid hr
  clear hT hn hr h
  go_enter Tryz.func4, Tryz.ntmps4
  go_wp2_with fail
  refine HH.out.mono ?_
  rintro e w1 ⟨rfl, hb1⟩
  have HB1 := Lib.hid hb1
  clear hb1
  go_wp2_with fail
  refine (HN1.out w1 (rd_now HR.out HB1.out)).mono ?_
  rintro e w2 ⟨rfl, hb2⟩
  have HB2 := Lib.hid (HB1.out.trans (hb2.mono HB1.out.size))
  clear hb2
  go_wp2_with fail
  refine (HN3.out w2 (rd_now HR.out HB2.out)).mono ?_
  rintro e w3 ⟨rfl, hb3⟩
  have HB3 := Lib.hid (HB2.out.trans (hb3.mono HB2.out.size))
  clear hb3
  go_wp2_with fail
  by_cases hl : n < 16 ∨ 64 < n
  · refine (HKN.out w3 hl).mono ?_
    rintro e w4 ⟨rfl, rfl⟩
    clear hl
    go_wp2_with fail
    go_ret
    exact ⟨rfl, HB3.out⟩
  · refine (HKY.out w3 (rd_now HR.out HB3.out) (by omega) (by omega)).mono ?_
    rintro e w4 ⟨g, A1, c1, rfl, hg, hr1, hO1, hA1, hb4⟩
    have HB4 := Lib.hid (HB3.out.trans (hb4.mono HB3.out.size))
    clear hg hr1 hO1 hA1 hb4 hl
    go_wp2_with fail
    go_ret
    exact ⟨rfl, HB4.out⟩
set_option maxRecDepth 100000 in
set_option maxHeartbeats 4000000 in
theorem apart_yes (A At : Option Addr) (n c nt ct tn : Nat) (master s : List UInt8) (ls : List (List UInt8)) (w : World) (hT : Tb w.heap.size w) (hn : master.length = n) (hr : Rd w w.heap.size A master) (h16 : 16 ≤ n) (h64 : n ≤ 64) (t1 : 1 ≤ tn) (t64 : tn ≤ 64) (hs : s.length ≤ 9223372036854775000)
    (hlt : ls.length = nt) (hnt : nt ≤ 9223372036854775000) (hrt : StrRow w At ls) (hls : ∀ x ∈ ls, x.length ≤ 9223372036854775000) :
    Calls Tryz.prog 4 #[.slice A n c, .int .i64 (tn : Int), .slice At nt ct, .string (str s)] w fun e w' => e = .returned (.bool true) ∧ Below w.heap.size w w' := by
  have HH := Lib.hid (tells_any w.heap.size w hT (Nat.le_refl _))
  have HN1 := Lib.hid (fun w1 hT hB hr => vnew_yes A n c tn 1 master w.heap.size w1 hT hB hn hr h16 h64 t1 t64 (by omega) (by omega))
  have HN3 := Lib.hid (fun D0 w1 hD0 hT hB hr => vnew_at D0 A n c tn 3 master w.heap.size w1 hD0 hT hB hn hr h16 h64 t1 t64 (by omega) (by omega))
  rw [show ((1 : Nat) : Int) = 1 from rfl] at HN1
  rw [show ((3 : Nat) : Int) = 3 from rfl] at HN3
  have HKY := Lib.hid (fun w hr => knew_yes A n c master w hn hr h16 h64)
  have HR := Lib.hid hr
  have HT := Lib.hid hT
  have HQ := Lib.hid (And.intro t1 t64)
  have HS := Lib.hid hs
  have HX := Lib.hid (And.intro (And.intro hlt hnt) (And.intro hrt hls))
  clear hT hn hr h16 h64 t1 t64 hs hlt hnt hrt hls
  go_enter Tryz.func4, Tryz.ntmps4
  go_wp2_with fail
  refine HH.out.mono ?_
  rintro e w1 ⟨rfl, hb1⟩
  have HB1 := Lib.hid hb1
  clear hb1
  go_wp2_with fail
  refine (HN1.out w1 (HT.out.on HB1.out) HB1.out.size (rd_now HR.out HB1.out)).mono ?_
  rintro e w2 ⟨vb, rb, rfl, hV2, hvb, hrb, hb2⟩
  have HV2 := Lib.hid hV2
  have HB2 := Lib.hid (HB1.out.trans (hb2.mono HB1.out.size))
  have HZ2 := Lib.hid (And.intro (Nat.le_trans HB1.out.size hvb) (Nat.le_trans HB1.out.size hrb))
  clear hV2 hvb hrb hb2
  go_wp2_with fail
  refine (HN3.out (fun k => k = vb ∨ k = rb) w2 (fun k hk => hk.elim (fun e => e ▸ HV2.out.lt.1) (fun e => e ▸ HV2.out.lt.2)) (HT.out.on HB2.out) HB2.out.size (rd_now HR.out HB2.out)).mono ?_
  rintro e w3 ⟨vc, rc, rfl, hV3, hvc, hrc, hb3⟩
  have HW3 := Lib.hid (two_new HT.out HB2.out HV2.out HZ2.out.1 HZ2.out.2 hV3 hvc hrc hb3)
  clear hV3 hvc hrc hb3
  go_wp2_with fail
  refine (HKY.out w3 (rd_now HR.out HW3.out.bel)).mono ?_
  rintro e w4 ⟨g, A1, c1, rfl, hg, hr1, hO1, hA1, hb4⟩
  have HW4 := Lib.hid (HW3.out.below hb4)
  clear hg hr1 hO1 hA1 hb4
  go_wp2_with fail
  refine (two_token HW4.out.swap HQ.out.1 HQ.out.2 (by omega) (by omega) s HS.out).mono ?_
  rintro e w5 ⟨rfl, hw5⟩
  have HW5 := Lib.hid hw5.swap
  clear hw5 HW4 HW3 HN1 HN3 HKY HH HB1 HB2 HV2 HZ2
  generalize (fun k => (k = vb ∨ k = rb) ∨ k = vc ∨ k = rc) = D at *
  have HTK := Lib.hid (fun wq (h : Two w wq D vb rb vc rc tn 3 3 master) => two_token h HQ.out.1 HQ.out.2 (by omega) (by omega) s HS.out)
  generalize tokR master tn 3 s = xx at *
  generalize tokE s = xe at *
  go_wp2_with fail
  go_loopw [18, 19, 20] (fun iv _ _ wr => ∃ j : Nat, j ≤ nt ∧ j ≤ 6 ∧ iv = .int .i64 (j : Int) ∧ Two w wr D vb rb vc rc tn 1 3 master) (fun iv _ _ _ => 6 - (intOf iv).toNat)
  case atStart => exact ⟨0, by omega, by omega, rfl, HW5.out⟩
  case round =>
    obtain ⟨j, hj, hj6, rfl, hw⟩ := hrel
    clear HW5
    have HW := Lib.hid hw
    clear hw
    by_cases hlt : j < nt ∧ j < 6
    · obtain ⟨h1, h2⟩ := hlt
      have hjl : j < ls.length := by rw [HX.out.1.1]; exact h1
      obtain ⟨ad, hA, hab, hac⟩ := HX.out.2.1 (by omega)
      subst hA
      have x3 := (HW.out.bel.cell (p := ad.add j) (by rw [add_block]; exact hab)).trans (hac j hjl)
      have hsl := HX.out.2.2 ls[j] (List.getElem_mem hjl)
      clear hac hab
      generalize ls[j] = x at *
      have d1 : decide ((j : Int) < (nt : Int)) = true := decide_eq_true (by omega)
      have d2 : decide ((j : Int) < 6) = true := decide_eq_true (by omega)
      have ji : (j : Int) < (nt : Int) := by omega
      have j0 : (0 : Int) ≤ (j : Int) := by omega
      have hsucc : IntKind.i64.wrap ((j : Int) + 1) = ((j + 1 : Nat) : Int) := by rw [IntKind.wrap_i64]; omega
      have HJ := Lib.hid (And.intro h1 h2)
      have HSL := Lib.hid hsl
      clear h1 h2 hjl hsl hj hj6
      go_wp2_with fail
      refine (two_token HW.out HQ.out.1 HQ.out.2 (by omega) (by omega) x HSL.out).mono ?_
      rintro e w6 ⟨rfl, hw6⟩
      have HW6 := Lib.hid hw6
      clear hw6
      cases hp : isP x with
      | false =>
        have he : tokE x = 10 := by unfold tokE; rw [if_neg (by rw [hp]; simp)]
        rw [he]
        clear he hp
        go_wp2_with fail
        go_roundw
        case rel => exact ⟨j + 1, HJ.out.1, HJ.out.2, by go_num, HW6.out⟩
        case measure => have := HJ.out.2; simp [intOf] <;> omega
      | true =>
        have he : tokE x = 0 := by unfold tokE; rw [if_pos hp]
        rw [he]
        have HPX := Lib.hid hp
        clear he hp
        go_wp2_with fail
        refine (two_renew HW6.out HQ.out.1 HQ.out.2 (by omega) (by omega) x HPX.out).mono ?_
        rintro e w7 ⟨r7, e7, rfl, hw7⟩
        have HW7 := Lib.hid hw7
        clear hw7
        go_wp2_with fail
        refine (two_back HW7.out HQ.out.1 HQ.out.2 (by omega) (by omega) x HPX.out).mono ?_
        rintro e w8 ⟨r8, e8, rfl, hw8⟩
        have HW8 := Lib.hid hw8
        clear hw8
        go_wp2_with fail
        go_roundw
        case rel => exact ⟨j + 1, HJ.out.1, HJ.out.2, by go_num, HW8.out⟩
        case measure => have := HJ.out.2; simp [intOf] <;> omega
    · have hc : ¬ j < nt ∨ (j < nt ∧ ¬ j < 6) := by omega
      have HR1 := Lib.hid (fun wq (h : Two w wq D vb rb vc rc tn 1 3 master) => two_rotate (m := 2) h (by omega) rfl)
      have HR2 := Lib.hid (fun wq (h : Two w wq D vb rb vc rc tn 2 3 master) => two_rotate (m := 3) h (by omega) rfl)
      have HVE := Lib.hid (fun wq (h : Two w wq D vb rb vc rc tn 3 3 master) => version_any D vb rb tn 3 master wq h.v)
      rw [show ((3 : Nat) : Int) = 3 from rfl] at HVE
      clear hlt
      rcases hc with h1 | ⟨h1, h2⟩
      · have d1 : decide ((j : Int) < (nt : Int)) = false := decide_eq_false (by omega)
        have dn : decide (j < nt) = false := decide_eq_false h1
        clear h1 hj hj6
        go_wp2_with fail
        refine (HR1.out _ HW.out).mono ?_
        rintro e w6 ⟨rfl, hw6⟩
        have HW6 := Lib.hid hw6
        clear hw6
        go_wp2_with fail
        refine (HR2.out _ HW6.out).mono ?_
        rintro e w7 ⟨rfl, hw7⟩
        have HW7 := Lib.hid hw7
        clear hw7
        go_wp2_with fail
        refine (HTK.out _ HW7.out).mono ?_
        rintro e w8 ⟨rfl, hw8⟩
        have HW8 := Lib.hid hw8
        clear hw8
        go_wp2_with fail
        refine (HVE.out _ HW8.out).mono ?_
        rintro e w9 ⟨rfl, rfl⟩
        go_wp2_with fail
        go_ret
        exact ⟨rfl, HW8.out.bel⟩
      · obtain rfl : j = 6 := by omega
        have d1 : decide ((6 : Int) < (nt : Int)) = true := decide_eq_true (by omega)
        rw [show ((6 : Nat) : Int) = 6 from rfl]
        clear h1 h2 hj hj6
        go_wp2_with fail
        refine (HR1.out _ HW.out).mono ?_
        rintro e w6 ⟨rfl, hw6⟩
        have HW6 := Lib.hid hw6
        clear hw6
        go_wp2_with fail
        refine (HR2.out _ HW6.out).mono ?_
        rintro e w7 ⟨rfl, hw7⟩
        have HW7 := Lib.hid hw7
        clear hw7
        go_wp2_with fail
        refine (HTK.out _ HW7.out).mono ?_
        rintro e w8 ⟨rfl, hw8⟩
        have HW8 := Lib.hid hw8
        clear hw8
        go_wp2_with fail
        refine (HVE.out _ HW8.out).mono ?_
        rintro e w9 ⟨rfl, rfl⟩
        go_wp2_with fail
        go_ret
        exact ⟨rfl, HW8.out.bel⟩
end Go.Proofs.YtkgnnlglabihkaaGreatDoor.Top

/- Texts that came in: a slice of strings, as lists of bytes. -/
namespace Go.Proofs.YtkgnnlglabihkaaGreatDoor
open Go Go.ChangeShapes Go.WideShapes Go.ChangeAt Go.RowKit Go.Deep
set_option linter.unusedVariables false
theorem weightsAll_mem_ {H : Type} {P : Program} {e : TypeId} : ∀ {ds : List (DataW H)} {d : DataW H}, d ∈ ds → ∀ n ∈ d.weights P e, n ∈ DataW.weightsAll P e ds
  | d0 :: ds, d, hd, n, hn => by
    simp only [DataW.weightsAll, List.mem_append]
    rcases List.mem_cons.1 hd with rfl | hd
    · exact .inl hn
    · exact .inr (weightsAll_mem_ hd n hn)
structure ArgT (w : World) (a : Option Addr) (len cap : Nat) (ls : List (List UInt8)) : Prop where
  hlen : ls.length = len
  fit : len ≤ 9223372036854775000
  rd : Top.StrRow w a ls
  small : ∀ x ∈ ls, x.length ≤ 9223372036854775000
theorem open_texts {H : Type} {enc : TypeId × Value → H} {P : Program} {t e : TypeId} (ht : P.underlying t = some (.slice e)) (he : P.underlying e = some .string) (hc : P.cellsOf e = 1) (hb : P.bytesOf e = 16) {W : World} {a0 : Option Addr} {len cap : Nat} {d0 : DataW H} {p : List MemPlace}
    (h0 : DataW.Trod enc P W 0 (fun _ => true) true t (.slice a0 len cap) d0 p) {ts : List TypeId} {ds : List (DataW H)} {j : Nat} (hsz : (DataW.weightsEach P ts ds).all (· ≤ reachBytes) = true) (hjt : ts[j]? = some t) (hjd : ds[j]? = some d0) :
    ∃ ls, ArgT W a0 len cap ls := by
  obtain ⟨fuel, hf⟩ := h0
  rcases open_strings ht he hc hf with ⟨hcs, hx⟩ | ⟨a, len', cap', ss, hcs, _, hl, hm, hz, hx, hcell, hsmall⟩
  · simp [Value.cells] at hcs
    obtain ⟨rfl, rfl, rfl⟩ := hcs
    exact ⟨[], rfl, by omega, fun h => absurd h (by simp), fun x hx => by cases hx⟩
  · simp [Value.cells] at hcs
    obtain ⟨rfl, rfl, rfl⟩ := hcs
    simp only [if_true] at hz
    simp only [Prod.mk.injEq] at hx
    obtain ⟨hdx, hpx⟩ := hx
    have hreach : ∀ i (hi : i < len) , (ss.getD i ByteArray.empty).data.toList.length ≤ reachBytes := fun i hi => by
      have hmem : (DataW.lit (.string (ss.getD i ByteArray.empty).data.toList) : DataW H) ∈ (strs (ss.take len) : List (DataW H)) := by
        unfold strs
        refine List.mem_map.2 ⟨ss.getD i ByteArray.empty, ?_, rfl⟩
        rw [List.getD_eq_getElem?_getD, List.getElem?_eq_getElem (by omega), Option.getD_some]
        refine List.mem_iff_getElem?.2 ⟨i, ?_⟩
        rw [List.getElem?_take, if_pos hi, List.getElem?_eq_getElem (by omega)]
      have h1 : (ss.getD i ByteArray.empty).data.toList.length ∈ d0.weights P t := by
        rw [hdx]
        simp only [DataW.weights, ht, List.mem_cons, List.mem_append]
        exact .inr (.inl (weightsAll_mem_ hmem _ (by simp [DataW.weights])))
      simpa using List.all_eq_true.1 hsz _ (DataW.weights_mem_each hjt hjd _ h1)
    have hlen : len ≤ reachBytes := by
      have hs := sized_slice hsz hjt (hdx ▸ hjd) ht
      rw [hb] at hs
      simp only [strs, List.length_map, List.length_take, List.length_drop] at hs
      omega
    have hr := reachBytes_lt
    refine ⟨(ss.take len).map (fun s => s.data.toList), ?_, by omega, fun h0 => ⟨a, rfl, ?_, fun j hj => ?_⟩, fun x hx => ?_⟩
    · rw [List.length_map, List.length_take]; omega
    · simp only [List.length_map, List.length_take] at h0
      have := block_lt_of_cell (hcell 0 (by omega))
      rwa [add_block] at this
    · simp only [List.length_map, List.length_take] at hj
      rw [hcell j (by omega)]
      simp only [List.getElem_map, List.getElem_take]
      rw [List.getD_eq_getElem?_getD, List.getElem?_eq_getElem (by omega), Option.getD_some]
      rfl
    · obtain ⟨s, hs, rfl⟩ := List.mem_map.1 hx
      obtain ⟨i, hi⟩ := List.mem_iff_getElem?.1 hs
      rw [List.getElem?_take] at hi
      split at hi
      · rename_i hil
        have := hreach i hil
        rw [List.getD_eq_getElem?_getD, hi, Option.getD_some] at this
        omega
      · cases hi
end Go.Proofs.YtkgnnlglabihkaaGreatDoor
